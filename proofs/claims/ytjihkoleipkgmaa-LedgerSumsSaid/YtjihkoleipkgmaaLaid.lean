/- What a call has laid: new blocks alone, and draws. -/
import Derived.Test.YtjihkoleipkgmaaBase
import Derived.Sort.Grow
import Derived.Sort.Row
namespace Go.Proofs.Ytjihkoleipkgmaa
set_option linter.unusedVariables false
set_option linter.unusedSimpArgs false
open Go.RowKit

def Laid (w w' : World) : Prop := Below w.heap.size w w' ∧ w.drawn ≤ w'.drawn
section
variable {a b c w w' : World}
theorem Laid.refl (w : World) : Laid w w := ⟨Below.refl _ _, Nat.le_refl _⟩
theorem Laid.below (h : Laid w w') : Below w.heap.size w w' := h.1
theorem Laid.size (h : Laid w w') : w.heap.size ≤ w'.heap.size := h.1.size
theorem Laid.alloc (h : Laid w w') (o : Obj) : Laid w (w'.alloc o) := ⟨h.1.alloc h.1.size o, h.2⟩
theorem Laid.drew (h : Laid w w') : Laid w w'.drew := ⟨h.1.drew, Nat.le_succ_of_le h.2⟩
theorem Laid.drewN (h : Laid w w') (n : Nat) : Laid w (w'.drewN n) := ⟨⟨h.1.os, h.1.tape, h.1.output, h.1.size, h.1.block⟩, Nat.le_trans h.2 (Nat.le_add_right _ _)⟩
theorem Laid.setCell (h : Laid w w') {p : Addr} (hp : w.heap.size ≤ p.block) (v : Value) : Laid w (w'.setCell p v) := ⟨h.1.setCell hp v, h.2⟩
theorem Laid.trans (h : Laid a b) (h' : Laid b c) : Laid a c := ⟨h.1.trans (h'.1.mono h.1.size), Nat.le_trans h.2 h'.2⟩
theorem Laid.out (h : Laid w w') : ∃ q os, w' = Go.Sort.grow (w.drewN q) os := by
  obtain ⟨⟨h1, h2, h3, h4, h5⟩, h6⟩ := h
  refine ⟨w'.drawn - w.drawn, w'.heap.extract w.heap.size w'.heap.size, ?_⟩
  obtain ⟨heap, tape, drawn, os, output⟩ := w
  obtain ⟨heap', tape', drawn', os', output'⟩ := w'
  simp only at h1 h2 h3 h4 h5 h6
  subst h1 h2 h3
  simp only [Go.Sort.grow, World.drewN]
  congr 1
  · apply Array.ext_getElem?
    intro i
    rcases Nat.lt_or_ge i heap.size with hi | hi
    · rw [Array.getElem?_append_left hi]; exact h5 i hi
    · rw [Array.getElem?_append_right hi]
      rw [Array.getElem?_extract]
      rcases Nat.lt_or_ge i heap'.size with hj | hj
      · rw [if_pos (by omega)]; congr 1; omega
      · rw [if_neg (by omega), Array.getElem?_eq_none hj]
  · omega
theorem laid_grow (w : World) (q : Nat) (os : Array Obj) : Laid w (Go.Sort.grow (w.drewN q) os) := by
  refine ⟨⟨rfl, rfl, rfl, ?_, fun i hi => ?_⟩, Nat.le_add_right _ _⟩
  · simp [Go.Sort.grow]
  · simp only [Go.Sort.grow]
    exact Array.getElem?_append_left hi
end
end Go.Proofs.Ytjihkoleipkgmaa
