/- A slice of structs among the arguments, opened, whatever the struct: own law. -/
import Derived.Test.YtjihkoleipkgmaaOpenB
import Derived.Test.YtjihkoleipkgmaaRowsG
namespace Go.Proofs.Ytjihkoleipkgmaa
set_option linter.unusedVariables false
set_option linter.unusedSimpArgs false
open Go.ChangeShapes Go.WideShapes Go.ChangeAt Go.RowKit Go.Deep

theorem choose_rows {α : Type} (n : Nat) (R : Nat → α → Prop) (h : ∀ i, i < n → ∃ x, R i x) : ∃ xs : List α, xs.length = n ∧ ∀ i x, xs[i]? = some x → R i x := by
  induction n with
  | zero => exact ⟨[], rfl, fun i x hx => by simp at hx⟩
  | succ n ih =>
    obtain ⟨xs, hl, hx⟩ := ih fun i hi => h i (by omega)
    obtain ⟨y, hy⟩ := h n (by omega)
    refine ⟨xs ++ [y], by simp [hl], fun i x hi => ?_⟩
    by_cases hin : i < n
    · rw [List.getElem?_append_left (by omega)] at hi
      exact hx i x hi
    · rw [List.getElem?_append_right (by omega)] at hi
      have : i - xs.length = 0 := by
        rcases Nat.eq_zero_or_pos (i - xs.length) with h0 | h0
        · exact h0
        · rw [List.getElem?_eq_none (by simp; omega)] at hi; cases hi
      rw [this] at hi
      simp at hi
      subst hi
      obtain rfl : i = n := by omega
      exact hy

section
variable {H : Type} {enc : TypeId × Value → H} {P : Program} {w : World} {base : Nat} {spare : Nat → Bool} {held : Bool}
theorem open_rows {α : Type} (R : Rowing α) (Came : α → Prop) {st et : TypeId} (hst : P.underlying st = some (.slice et)) (hce : P.cellsOf et = R.sz)
    (hread : ∀ fuel cs x, DataW.trod enc P w base spare held fuel et cs = some x → ∃ y, cs = R.cells y ∧ Came y)
    {r : Reach} {b0 : Nat} {v : Value} {d : DataW H} {p : List MemPlace} (hv : Value.okWide P w r b0 st v) (h : DataW.Trod enc P w base spare held st v d p) :
    ∃ (A : Option Addr) (xs : List α) (c : Nat), v = .slice A xs.length c ∧ ListIn R w w.heap.size A xs ∧ (∀ x ∈ xs, Came x) ∧ xs.length ≤ c ∧ c ≤ maxLen := by
  obtain ⟨a, len, cap, rfl⟩ := okWide_slice hst hv
  obtain ⟨fuel, hf⟩ := h
  rcases open_slice hst hf with ⟨h0, _⟩ | ⟨a', len', cap', m, n, D, Pl, h0, _, hlc, hcm, hm, _, hi⟩
  · simp [Value.cells] at h0
    obtain ⟨rfl, rfl, rfl⟩ := h0
    exact ⟨none, [], 0, rfl, fun h => absurd rfl h, by simp, by simp, by simp⟩
  · simp [Value.cells] at h0
    obtain ⟨rfl, rfl, rfl⟩ := h0
    have hlm : len ≤ m := by rw [hm]; split <;> omega
    obtain ⟨xs, hl, hx⟩ := choose_rows len (fun i (y : α) => w.cells? base (a'.add (i * R.sz)) R.sz = some (R.cells y) ∧ Came y) (fun i hil => by
      obtain ⟨cs', h1, h2⟩ := hi i (by omega)
      rw [hce] at h1
      obtain ⟨y, rfl, hy⟩ := hread _ _ _ h2
      exact ⟨y, h1, hy⟩)
    subst hl
    refine ⟨some a', xs, cap, rfl, fun hne => ?_, fun x hxm => ?_, hlc, hcm⟩
    · obtain ⟨ab, ao, sp⟩ := a'
      have hat : ∀ i x, xs[i]? = some x → ∀ j v, (R.cells x)[j]? = some v → w.cell? (((⟨ab, ao, sp⟩ : Addr).add (i * R.sz)).add j) = some v := fun i x hix j v hjv => by
        obtain ⟨_, _, hat⟩ := World.cells?_some (hx i x hix).1
        have hj : j < R.sz := by rw [← R.len x]; exact (List.getElem?_eq_some_iff.1 hjv).1
        exact (hat j hj).trans hjv
      obtain ⟨x0, r, rfl⟩ := List.exists_cons_of_ne_nil hne
      obtain ⟨v0, hv0⟩ : ∃ v, (R.cells x0)[0]? = some v := ⟨_, List.getElem?_eq_getElem (by rw [R.len x0]; exact R.pos)⟩
      have h00 := hat 0 x0 rfl 0 v0 hv0
      simp [Addr.add] at h00
      have hsp : sp = none := by
        cases sp with
        | none => rfl
        | some s =>
          exfalso
          revert h00
          simp only [World.cell?]
          split
          · intro h; simp at h
          · intro h; simp at h
      subst hsp
      have hab : ab < w.heap.size := by
        rcases Nat.lt_or_ge ab w.heap.size with hlt | hge
        · exact hlt
        · simp [World.cell?, Array.getElem?_eq_none hge] at h00
      refine ⟨ab, ao, rfl, hab, fun i x hix j v hjv => ?_⟩
      have := hat i x hix j v hjv
      rw [Go.Deep.add_add] at this
      simp only [Addr.add] at this
      split at this
      · rename_i hz
        have : i * R.sz = 0 ∧ j = 0 := by omega
        rw [this.1, this.2]
        assumption
      · rw [Nat.add_assoc]
        assumption
    · obtain ⟨i, hi⟩ := List.getElem?_of_mem hxm
      exact (hx i x hi).2
/-- a slice of structs within what was read -/
theorem rows_read {α : Type} (R : Rowing α) (Came : α → Prop) {st et : TypeId} (hst : P.underlying st = some (.slice et)) (hce : P.cellsOf et = R.sz)
    (hread : ∀ fuel cs x, DataW.trod enc P w base spare held fuel et cs = some x → ∃ y, cs = R.cells y ∧ Came y)
    {fuel : Nat} {cs : List Value} {x : DataW H × List MemPlace} (hf : DataW.trod enc P w base spare held fuel st cs = some x) :
    ∃ (A : Option Addr) (xs : List α) (c : Nat), cs = [.slice A xs.length c] ∧ ListIn R w w.heap.size A xs ∧ (∀ x ∈ xs, Came x) ∧ xs.length ≤ c ∧ c ≤ maxLen := by
  rcases open_slice hst hf with ⟨h0, _⟩ | ⟨a', len, cap, m, n, D, Pl, h0, _, hlc, hcm, hm, _, hi⟩
  · subst h0
    exact ⟨none, [], 0, rfl, fun h => absurd rfl h, by simp, by simp, by simp⟩
  · subst h0
    have hlm : len ≤ m := by rw [hm]; split <;> omega
    obtain ⟨xs, hl, hx⟩ := choose_rows len (fun i (y : α) => w.cells? base (a'.add (i * R.sz)) R.sz = some (R.cells y) ∧ Came y) (fun i hil => by
      obtain ⟨cs', h1, h2⟩ := hi i (by omega)
      rw [hce] at h1
      obtain ⟨y, rfl, hy⟩ := hread _ _ _ h2
      exact ⟨y, h1, hy⟩)
    subst hl
    refine ⟨some a', xs, cap, rfl, fun hne => ?_, fun x hxm => ?_, hlc, hcm⟩
    · obtain ⟨ab, ao, sp⟩ := a'
      have hat : ∀ i x, xs[i]? = some x → ∀ j v, (R.cells x)[j]? = some v → w.cell? (((⟨ab, ao, sp⟩ : Addr).add (i * R.sz)).add j) = some v := fun i x hix j v hjv => by
        obtain ⟨_, _, hat⟩ := World.cells?_some (hx i x hix).1
        have hj : j < R.sz := by rw [← R.len x]; exact (List.getElem?_eq_some_iff.1 hjv).1
        exact (hat j hj).trans hjv
      obtain ⟨x0, r, rfl⟩ := List.exists_cons_of_ne_nil hne
      obtain ⟨v0, hv0⟩ : ∃ v, (R.cells x0)[0]? = some v := ⟨_, List.getElem?_eq_getElem (by rw [R.len x0]; exact R.pos)⟩
      have h00 := hat 0 x0 rfl 0 v0 hv0
      simp [Addr.add] at h00
      have hsp : sp = none := by
        cases sp with
        | none => rfl
        | some s =>
          exfalso
          revert h00
          simp only [World.cell?]
          split
          · intro h; simp at h
          · intro h; simp at h
      subst hsp
      have hab : ab < w.heap.size := by
        rcases Nat.lt_or_ge ab w.heap.size with hlt | hge
        · exact hlt
        · simp [World.cell?, Array.getElem?_eq_none hge] at h00
      refine ⟨ab, ao, rfl, hab, fun i x hix j v hjv => ?_⟩
      have := hat i x hix j v hjv
      rw [Go.Deep.add_add] at this
      simp only [Addr.add] at this
      split at this
      · rename_i hz
        have : i * R.sz = 0 ∧ j = 0 := by omega
        rw [this.1, this.2]
        assumption
      · rw [Nat.add_assoc]
        assumption
    · obtain ⟨i, hi⟩ := List.getElem?_of_mem hxm
      exact (hx i x hi).2
end
end Go.Proofs.Ytjihkoleipkgmaa
