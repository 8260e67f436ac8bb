/- Orders of numbers and texts, plainly; what the library's cmp tells. -/
import Derived.Test.YtjihkoleipkgmaaRowsG
import Derived.Test.YtjihkoleipkgmaaLaid
import Derived.WalkLawsBesides
import Derived.Sort.Walk0
namespace Go.Proofs.Ytjihkoleipkgmaa
set_option linter.unusedVariables false
set_option linter.unusedSimpArgs false
open Go.RowKit

/-- which of two numbers is less: -1, 0, 1 -/
def cmpI (x y : Int) : Int := if x < y then -1 else if y < x then 1 else 0
abbrev tx (s : ByteArray) : List UInt8 := s.data.toList
def cmpS (a b : ByteArray) : Int := if tx a < tx b then -1 else if tx b < tx a then 1 else 0
/-- the first that isn't 0 -/
def orI (a b : Int) : Int := if a = 0 then b else a
/-- who is better: below 0: the first one is -/
theorem tx_inj {a b : ByteArray} (h : tx a = tx b) : a = b := ByteArray.ext (Array.ext' h)
theorem lt_tri (a b : List UInt8) : (a < b ∧ ¬ b < a ∧ a ≠ b) ∨ (a = b ∧ ¬ a < b ∧ ¬ b < a) ∨ (b < a ∧ ¬ a < b ∧ a ≠ b) := by
  by_cases h : a = b
  · subst h; exact .inr (.inl ⟨rfl, List.lt_irrefl _, List.lt_irrefl _⟩)
  · rcases List.le_total a b with h1 | h1
    · have h2 : ¬ b < a := List.not_lt.2 h1
      have h3 : a < b := Classical.byContradiction fun hn => h (List.le_antisymm h1 (List.not_lt.1 hn))
      exact .inl ⟨h3, h2, h⟩
    · have h2 : ¬ a < b := List.not_lt.2 h1
      have h3 : b < a := Classical.byContradiction fun hn => h (List.le_antisymm (List.not_lt.1 hn) h1)
      exact .inr (.inr ⟨h3, h2, h⟩)
theorem cmpI_swap (x y : Int) : cmpI y x = - cmpI x y := by unfold cmpI; split <;> (try split) <;> (try split) <;> omega
theorem cmpS_swap (a b : ByteArray) : cmpS b a = - cmpS a b := by
  unfold cmpS
  rcases lt_tri (tx a) (tx b) with ⟨h1, h2, _⟩ | ⟨_, h1, h2⟩ | ⟨h1, h2, _⟩ <;> simp [h1, h2]
theorem cmpI_zero {x y : Int} : cmpI x y = 0 ↔ x = y := by unfold cmpI; split <;> (try split) <;> omega
theorem cmpS_zero {a b : ByteArray} : cmpS a b = 0 ↔ a = b := by
  unfold cmpS
  rcases lt_tri (tx a) (tx b) with ⟨h1, h2, h3⟩ | ⟨h0, h1, h2⟩ | ⟨h1, h2, h3⟩
  · simp [h1]; intro e; exact h3 (by rw [e])
  · have := tx_inj h0; subst this; simp [h1]
  · simp [h1, h2]; intro e; exact h3 (by rw [e])
theorem cmpI_bd (x y : Int) : cmpI x y = -1 ∨ cmpI x y = 0 ∨ cmpI x y = 1 := by unfold cmpI; split <;> (try split) <;> simp
theorem cmpS_bd (x y : ByteArray) : cmpS x y = -1 ∨ cmpS x y = 0 ∨ cmpS x y = 1 := by unfold cmpS; split <;> (try split) <;> simp
theorem cmpI_trans {x y z : Int} (h1 : cmpI x y ≤ 0) (h2 : cmpI y z ≤ 0) : cmpI x z ≤ 0 ∧ (cmpI x z = 0 → cmpI x y = 0 ∧ cmpI y z = 0) := by
  unfold cmpI at *; split at h1 <;> (try split at h1) <;> split at h2 <;> (try split at h2) <;> (constructor <;> split <;> (try split) <;> omega)
theorem cmpS_le {a b : ByteArray} : cmpS a b ≤ 0 ↔ tx a ≤ tx b := by
  unfold cmpS
  rcases lt_tri (tx a) (tx b) with ⟨h1, h2, _⟩ | ⟨h0, h1, h2⟩ | ⟨h1, h2, _⟩
  · simp [h1]; exact List.le_of_lt h1
  · rw [if_neg h1, if_neg h2, h0]; exact ⟨fun _ => List.le_refl _, fun _ => by omega⟩
  · simp [h1, h2]; exact h1
theorem cmpS_trans {x y z : ByteArray} (h1 : cmpS x y ≤ 0) (h2 : cmpS y z ≤ 0) : cmpS x z ≤ 0 ∧ (cmpS x z = 0 → cmpS x y = 0 ∧ cmpS y z = 0) := by
  have a := cmpS_le.1 h1
  have b := cmpS_le.1 h2
  refine ⟨cmpS_le.2 (List.le_trans a b), fun h => ?_⟩
  have e := cmpS_zero.1 h
  subst e
  have := tx_inj (List.le_antisymm a b)
  subst this
  exact ⟨h, h⟩
theorem orI_le {a b : Int} (ha : a = -1 ∨ a = 0 ∨ a = 1) : orI a b ≤ 0 ↔ a < 0 ∨ (a = 0 ∧ b ≤ 0) := by unfold orI; split <;> omega
theorem orI_zero {a b : Int} : orI a b = 0 ↔ a = 0 ∧ b = 0 := by unfold orI; split <;> omega
theorem orI_neg {a b a' b' : Int} (h1 : a' = -a) (h2 : b' = -b) : orI a' b' = - orI a b := by unfold orI; subst h1 h2; split <;> split <;> omega
theorem orI_bd {a b : Int} (ha : a = -1 ∨ a = 0 ∨ a = 1) (hb : b = -1 ∨ b = 0 ∨ b = 1) : orI a b = -1 ∨ orI a b = 0 ∨ orI a b = 1 := by unfold orI; split <;> omega
/-- an order that hands on -/
def Ord3 (x y z : Int) : Prop := x ≤ 0 → y ≤ 0 → z ≤ 0 ∧ (z = 0 → x = 0 ∧ y = 0)
theorem Ord3.orI {x y z x' y' z' : Int} (hx : x = -1 ∨ x = 0 ∨ x = 1) (hy : y = -1 ∨ y = 0 ∨ y = 1) (hz : z = -1 ∨ z = 0 ∨ z = 1) (h : Ord3 x y z) (h' : Ord3 x' y' z') : Ord3 (orI x x') (orI y y') (orI z z') := by
  intro h1 h2
  rw [orI_le hx] at h1
  rw [orI_le hy] at h2
  have h3 := h (by omega) (by omega)
  rw [orI_le hz, orI_zero, orI_zero, orI_zero]
  by_cases hz0 : z = 0
  · obtain ⟨e1, e2⟩ := h3.2 hz0
    have h4 := h' (by omega) (by omega)
    exact ⟨.inr ⟨hz0, h4.1⟩, fun ⟨_, h5⟩ => ⟨⟨e1, (h4.2 h5).1⟩, ⟨e2, (h4.2 h5).2⟩⟩⟩
  · exact ⟨.inl (by omega), fun ⟨h5, _⟩ => absurd h5 hz0⟩
theorem ord3_I (x y z : Int) : Ord3 (cmpI x y) (cmpI y z) (cmpI x z) := fun h1 h2 => cmpI_trans h1 h2
theorem ord3_I' (x y z : Int) : Ord3 (cmpI y x) (cmpI z y) (cmpI z x) := fun h1 h2 => by
  have h := cmpI_trans h2 h1
  exact ⟨h.1, fun h0 => (h.2 h0).symm⟩
theorem ord3_S (x y z : ByteArray) : Ord3 (cmpS x y) (cmpS y z) (cmpS x z) := fun h1 h2 => cmpS_trans h1 h2
theorem texts_lt (a b : ByteArray) : Op.bytesLess a.toList b.toList = decide (tx a < tx b) := by
  rw [ByteArray.toList_eq, ByteArray.toList_eq, bytesLess_eq]
theorem texts_ne (a b : ByteArray) : (a.toList == b.toList) = decide (a = b) := by
  rw [ByteArray.toList_eq, ByteArray.toList_eq, Bool.eq_iff_iff]
  simp only [beq_iff_eq, decide_eq_true_eq]
  exact ⟨fun h => tx_inj h, fun h => by rw [h]⟩
theorem txt_tri (x y : ByteArray) :
    ((x.toList == y.toList) = false ∧ Op.bytesLess x.toList y.toList = true ∧ Op.bytesLess y.toList x.toList = false ∧ cmpS x y = -1) ∨
    ((x.toList == y.toList) = false ∧ Op.bytesLess x.toList y.toList = false ∧ Op.bytesLess y.toList x.toList = true ∧ cmpS x y = 1) ∨
    ((x.toList == y.toList) = true ∧ Op.bytesLess x.toList y.toList = false ∧ Op.bytesLess y.toList x.toList = false ∧ cmpS x y = 0) := by
  rw [texts_ne, texts_lt, texts_lt]
  unfold cmpS
  rcases lt_tri (tx x) (tx y) with ⟨h1, h2, h3⟩ | ⟨h0, h1, h2⟩ | ⟨h1, h2, h3⟩
  · refine .inl ⟨?_, by simpa using h1, by simpa using h2, if_pos h1⟩
    simp; intro e; exact h3 (by rw [e])
  · have := tx_inj h0
    subst this
    exact .inr (.inr ⟨by simp, by simp, by simp, by rw [if_neg h1, if_neg h1]⟩)
  · refine .inr (.inl ⟨?_, by simpa using h2, by simpa using h1, by rw [if_neg h2, if_pos h1]⟩)
    simp; intro e; exact h3 (by rw [e])

end Go.Proofs.Ytjihkoleipkgmaa
