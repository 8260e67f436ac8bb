/- Claimants: who is better, plainly. -/
import Derived.Test.YtgbheogmccfaaaaGreatRowsG
namespace Go.Proofs.YtgbheogmccfaaaaGreat
set_option linter.unusedVariables false
set_option linter.unusedSimpArgs false
open Go.RowKit

structure Cl where
  name : ByteArray
  thing : ByteArray
  right : Int
  day : Int
  amount : Int

/-- which of two numbers is less: -1, 0, 1 -/
def cmpI (x y : Int) : Int := if x < y then -1 else if y < x then 1 else 0
abbrev tx (s : ByteArray) : List UInt8 := s.data.toList
def cmpS (a b : ByteArray) : Int := if tx a < tx b then -1 else if tx b < tx a then 1 else 0
/-- the first that isn't 0 -/
def orI (a b : Int) : Int := if a = 0 then b else a
/-- who is better: below 0: the first one is -/
def clCmp (a b : Cl) : Int := orI (cmpI a.right b.right) (orI (cmpI a.day b.day) (orI (cmpS a.name b.name) (orI (cmpI b.amount a.amount) (cmpS a.thing b.thing))))

theorem tx_inj {a b : ByteArray} (h : tx a = tx b) : a = b := ByteArray.ext (Array.ext' h)
theorem lt_tri (a b : List UInt8) : (a < b ∧ ¬ b < a ∧ a ≠ b) ∨ (a = b ∧ ¬ a < b ∧ ¬ b < a) ∨ (b < a ∧ ¬ a < b ∧ a ≠ b) := by
  by_cases h : a = b
  · subst h; exact .inr (.inl ⟨rfl, List.lt_irrefl _, List.lt_irrefl _⟩)
  · rcases List.le_total a b with h1 | h1
    · have h2 : ¬ b < a := List.not_lt.2 h1
      have h3 : a < b := Classical.byContradiction fun hn => h (List.le_antisymm h1 (List.not_lt.1 hn))
      exact .inl ⟨h3, h2, h⟩
    · have h2 : ¬ a < b := List.not_lt.2 h1
      have h3 : b < a := Classical.byContradiction fun hn => h (List.le_antisymm (List.not_lt.1 hn) h1)
      exact .inr (.inr ⟨h3, h2, h⟩)
theorem cmpI_swap (x y : Int) : cmpI y x = - cmpI x y := by unfold cmpI; split <;> (try split) <;> (try split) <;> omega
theorem cmpS_swap (a b : ByteArray) : cmpS b a = - cmpS a b := by
  unfold cmpS
  rcases lt_tri (tx a) (tx b) with ⟨h1, h2, _⟩ | ⟨_, h1, h2⟩ | ⟨h1, h2, _⟩ <;> simp [h1, h2]
theorem cmpI_zero {x y : Int} : cmpI x y = 0 ↔ x = y := by unfold cmpI; split <;> (try split) <;> omega
theorem cmpS_zero {a b : ByteArray} : cmpS a b = 0 ↔ a = b := by
  unfold cmpS
  rcases lt_tri (tx a) (tx b) with ⟨h1, h2, h3⟩ | ⟨h0, h1, h2⟩ | ⟨h1, h2, h3⟩
  · simp [h1]; intro e; exact h3 (by rw [e])
  · have := tx_inj h0; subst this; simp [h1]
  · simp [h1, h2]; intro e; exact h3 (by rw [e])
theorem cmpI_bd (x y : Int) : cmpI x y = -1 ∨ cmpI x y = 0 ∨ cmpI x y = 1 := by unfold cmpI; split <;> (try split) <;> simp
theorem cmpS_bd (x y : ByteArray) : cmpS x y = -1 ∨ cmpS x y = 0 ∨ cmpS x y = 1 := by unfold cmpS; split <;> (try split) <;> simp
theorem cmpI_trans {x y z : Int} (h1 : cmpI x y ≤ 0) (h2 : cmpI y z ≤ 0) : cmpI x z ≤ 0 ∧ (cmpI x z = 0 → cmpI x y = 0 ∧ cmpI y z = 0) := by
  unfold cmpI at *; split at h1 <;> (try split at h1) <;> split at h2 <;> (try split at h2) <;> (constructor <;> split <;> (try split) <;> omega)
theorem cmpS_le {a b : ByteArray} : cmpS a b ≤ 0 ↔ tx a ≤ tx b := by
  unfold cmpS
  rcases lt_tri (tx a) (tx b) with ⟨h1, h2, _⟩ | ⟨h0, h1, h2⟩ | ⟨h1, h2, _⟩
  · simp [h1]; exact List.le_of_lt h1
  · rw [if_neg h1, if_neg h2, h0]; exact ⟨fun _ => List.le_refl _, fun _ => by omega⟩
  · simp [h1, h2]; exact h1
theorem cmpS_trans {x y z : ByteArray} (h1 : cmpS x y ≤ 0) (h2 : cmpS y z ≤ 0) : cmpS x z ≤ 0 ∧ (cmpS x z = 0 → cmpS x y = 0 ∧ cmpS y z = 0) := by
  have a := cmpS_le.1 h1
  have b := cmpS_le.1 h2
  refine ⟨cmpS_le.2 (List.le_trans a b), fun h => ?_⟩
  have e := cmpS_zero.1 h
  subst e
  have := tx_inj (List.le_antisymm a b)
  subst this
  exact ⟨h, h⟩
theorem orI_le {a b : Int} (ha : a = -1 ∨ a = 0 ∨ a = 1) : orI a b ≤ 0 ↔ a < 0 ∨ (a = 0 ∧ b ≤ 0) := by unfold orI; split <;> omega
theorem orI_zero {a b : Int} : orI a b = 0 ↔ a = 0 ∧ b = 0 := by unfold orI; split <;> omega
theorem orI_neg {a b a' b' : Int} (h1 : a' = -a) (h2 : b' = -b) : orI a' b' = - orI a b := by unfold orI; subst h1 h2; split <;> split <;> omega
theorem orI_bd {a b : Int} (ha : a = -1 ∨ a = 0 ∨ a = 1) (hb : b = -1 ∨ b = 0 ∨ b = 1) : orI a b = -1 ∨ orI a b = 0 ∨ orI a b = 1 := by unfold orI; split <;> omega
theorem clCmp_swap (a b : Cl) : clCmp b a = - clCmp a b := by
  unfold clCmp
  exact orI_neg (cmpI_swap _ _) (orI_neg (cmpI_swap _ _) (orI_neg (cmpS_swap _ _) (orI_neg (cmpI_swap _ _) (cmpS_swap _ _))))
theorem clCmp_zero {a b : Cl} : clCmp a b = 0 ↔ a = b := by
  unfold clCmp
  rw [orI_zero, orI_zero, orI_zero, orI_zero, cmpI_zero, cmpI_zero, cmpS_zero, cmpI_zero, cmpS_zero]
  constructor
  · rintro ⟨h1, h2, h3, h4, h5⟩
    obtain ⟨_, _, _, _, _⟩ := a
    obtain ⟨_, _, _, _, _⟩ := b
    simp_all
  · rintro rfl; simp
theorem clCmp_bd (a b : Cl) : clCmp a b = -1 ∨ clCmp a b = 0 ∨ clCmp a b = 1 :=
  orI_bd (cmpI_bd _ _) (orI_bd (cmpI_bd _ _) (orI_bd (cmpS_bd _ _) (orI_bd (cmpI_bd _ _) (cmpS_bd _ _))))
/-- an order that hands on -/
def Ord3 (x y z : Int) : Prop := x ≤ 0 → y ≤ 0 → z ≤ 0 ∧ (z = 0 → x = 0 ∧ y = 0)
theorem Ord3.orI {x y z x' y' z' : Int} (hx : x = -1 ∨ x = 0 ∨ x = 1) (hy : y = -1 ∨ y = 0 ∨ y = 1) (hz : z = -1 ∨ z = 0 ∨ z = 1) (h : Ord3 x y z) (h' : Ord3 x' y' z') : Ord3 (orI x x') (orI y y') (orI z z') := by
  intro h1 h2
  rw [orI_le hx] at h1
  rw [orI_le hy] at h2
  have h3 := h (by omega) (by omega)
  rw [orI_le hz, orI_zero, orI_zero, orI_zero]
  by_cases hz0 : z = 0
  · obtain ⟨e1, e2⟩ := h3.2 hz0
    have h4 := h' (by omega) (by omega)
    exact ⟨.inr ⟨hz0, h4.1⟩, fun ⟨_, h5⟩ => ⟨⟨e1, (h4.2 h5).1⟩, ⟨e2, (h4.2 h5).2⟩⟩⟩
  · exact ⟨.inl (by omega), fun ⟨h5, _⟩ => absurd h5 hz0⟩
theorem ord3_I (x y z : Int) : Ord3 (cmpI x y) (cmpI y z) (cmpI x z) := fun h1 h2 => cmpI_trans h1 h2
theorem ord3_I' (x y z : Int) : Ord3 (cmpI y x) (cmpI z y) (cmpI z x) := fun h1 h2 => by
  have h := cmpI_trans h2 h1
  exact ⟨h.1, fun h0 => (h.2 h0).symm⟩
theorem ord3_S (x y z : ByteArray) : Ord3 (cmpS x y) (cmpS y z) (cmpS x z) := fun h1 h2 => cmpS_trans h1 h2
theorem clCmp_trans {a b c : Cl} (h1 : clCmp a b ≤ 0) (h2 : clCmp b c ≤ 0) : clCmp a c ≤ 0 ∧ (clCmp a c = 0 → clCmp a b = 0 ∧ clCmp b c = 0) :=
  ((ord3_I _ _ _).orI (cmpI_bd _ _) (cmpI_bd _ _) (cmpI_bd _ _) ((ord3_I _ _ _).orI (cmpI_bd _ _) (cmpI_bd _ _) (cmpI_bd _ _) ((ord3_S _ _ _).orI (cmpS_bd _ _) (cmpS_bd _ _) (cmpS_bd _ _) ((ord3_I' _ _ _).orI (cmpI_bd _ _) (cmpI_bd _ _) (cmpI_bd _ _) (ord3_S _ _ _))))) h1 h2

def leC (a b : Cl) : Bool := decide (clCmp a b ≤ 0)
def rankL (l : List Cl) : List Cl := l.mergeSort leC
theorem leC_trans : ∀ a b c : Cl, leC a b = true → leC b c = true → leC a c = true := fun a b c h1 h2 => by
  simp only [leC, decide_eq_true_eq] at *; exact (clCmp_trans h1 h2).1
theorem leC_total : ∀ a b : Cl, (leC a b || leC b a) = true := fun a b => by
  simp only [leC, Bool.or_eq_true, decide_eq_true_eq]; have := clCmp_swap a b; omega
theorem leC_antisymm {a b : Cl} (h1 : leC a b = true) (h2 : leC b a = true) : a = b := by
  simp only [leC, decide_eq_true_eq] at *
  have := clCmp_swap a b
  exact clCmp_zero.1 (by omega)
theorem rank_unique {l l' : List Cl} (hp : l'.Perm l) (hs : l'.Pairwise (fun a b => leC a b = true)) : l' = rankL l :=
  List.Perm.eq_of_pairwise (le := fun a b => leC a b = true) (fun a b _ _ h1 h2 => leC_antisymm h1 h2) hs (List.pairwise_mergeSort leC_trans leC_total l) (hp.trans (List.mergeSort_perm l leC).symm)
end Go.Proofs.YtgbheogmccfaaaaGreat
