/- The selection of the greatest rests, plainly; a product over a number, bit by bit. -/
import Derived.Test.YtgbheogmccfaaaaGreatSplP
namespace Go.Proofs.YtgbheogmccfaaaaGreat
set_option linter.unusedVariables false
set_option linter.unusedSimpArgs false
open Go.RowKit

theorem bef_rk {r : List Nat} {x y : Nat} (hx : x < r.length) (hy : y < r.length) (h : bef r x y = true) : rk r x < rk r y := by
  obtain ⟨P, hP⟩ := InOrder.exists r
  obtain ⟨a, ha⟩ := List.getElem?_of_mem (hP.perm.mem_iff.2 (List.mem_range.2 hx))
  obtain ⟨b, hb⟩ := List.getElem?_of_mem (hP.perm.mem_iff.2 (List.mem_range.2 hy))
  rw [hP.rk ha, hP.rk hb]
  obtain ⟨la, ea⟩ := List.getElem?_eq_some_iff.1 ha
  obtain ⟨lb, eb⟩ := List.getElem?_eq_some_iff.1 hb
  rcases Nat.lt_trichotomy a b with h1 | h1 | h1
  · exact h1
  · subst h1; rw [ea] at eb; subst eb; rw [bef_irr] at h; cases h
  · have := List.pairwise_iff_getElem.1 hP.sorted b a lb la h1
    rw [ea, eb] at this
    rw [bef_asym this] at h; cases h
theorem rk_inj {r : List Nat} {x y : Nat} (hx : x < r.length) (hy : y < r.length) (h : rk r x = rk r y) : x = y := by
  by_cases e : x = y
  · exact e
  · rcases bef_tot (r := r) e with h1 | h1
    · have := bef_rk hx hy h1; omega
    · have := bef_rk hy hx h1; omega
theorem rk_lt {r : List Nat} {x : Nat} (hx : x < r.length) : rk r x < r.length := by
  obtain ⟨P, hP⟩ := InOrder.exists r
  obtain ⟨a, ha⟩ := List.getElem?_of_mem (hP.perm.mem_iff.2 (List.mem_range.2 hx))
  rw [hP.rk ha, ← hP.length]
  exact (List.getElem?_eq_some_iff.1 ha).1
theorem rk_onto {r : List Nat} {m : Nat} (hm : m < r.length) : ∃ u, u < r.length ∧ rk r u = m := by
  obtain ⟨P, hP⟩ := InOrder.exists r
  have hl : m < P.length := by rw [hP.length]; exact hm
  refine ⟨P[m], hP.lt (List.getElem_mem hl), hP.rk (List.getElem?_eq_getElem hl)⟩
/-- the rests behind m units that were handed out -/
def restI (r : List Nat) (m i : Nat) : Int := if rk r i < m then -1 else (r.getD i 0 : Int)
theorem best_is {r : List Nat} {m b : Nat} (hm : m < r.length) (hb : b < r.length) (h1 : ∀ j, j < r.length → restI r m j ≤ restI r m b) (h2 : ∀ j, j < b → restI r m j < restI r m b) : rk r b = m := by
  obtain ⟨u, hu, hur⟩ := rk_onto hm
  have e1 := h1 u hu
  have e2 : restI r m u = (r.getD u 0 : Int) := by unfold restI; rw [if_neg (by omega)]
  have e3 : ¬ rk r b < m := by
    intro h
    have : restI r m b = -1 := by unfold restI; rw [if_pos h]
    omega
  have e4 : restI r m b = (r.getD b 0 : Int) := by unfold restI; rw [if_neg e3]
  rcases Nat.lt_or_ge m (rk r b) with h | h
  · exfalso
    have hne : u ≠ b := by rintro rfl; omega
    rcases bef_tot (r := r) hne with h3 | h3
    · simp only [bef, Bool.or_eq_true, Bool.and_eq_true, decide_eq_true_eq] at h3
      rcases h3 with h3 | ⟨h3, h4⟩
      · omega
      · have := h2 u h4; omega
    · have := bef_rk hb hu h3; omega
  · omega
theorem restI_succ {r : List Nat} {m b i : Nat} (hb : b < r.length) (hi : i < r.length) (h : rk r b = m) : restI r (m + 1) i = if i = b then -1 else restI r m i := by
  unfold restI
  by_cases e : i = b
  · subst e; rw [if_pos (by omega), if_pos rfl]
  · have : rk r i ≠ m := fun e2 => e (rk_inj hi hb (by omega))
    rw [if_neg e]
    by_cases h2 : rk r i < m
    · rw [if_pos (by omega), if_pos h2]
    · rw [if_neg (by omega), if_neg h2]
theorem plus_succ {r : List Nat} {m b i : Nat} (hb : b < r.length) (hi : i < r.length) (h : rk r b = m) : (if rk r i < m + 1 then 1 else 0 : Nat) = (if rk r i < m then 1 else 0) + if i = b then 1 else 0 := by
  by_cases e : i = b
  · subst e; rw [if_pos (by omega), if_neg (by omega), if_pos rfl]
  · have : rk r i ≠ m := fun e2 => e (rk_inj hi hb (by omega))
    rw [if_neg e]
    by_cases h2 : rk r i < m
    · rw [if_pos (by omega), if_pos h2]
    · rw [if_neg (by omega), if_neg h2]
/-- the reference's product and quotient, bit by bit -/
def timesGo (a b c : Nat) : Nat → Nat × Nat
  | 0 => (0, 0)
  | k + 1 => let x := a / 2 ^ (62 - k); (x * b / c, x * b % c)
theorem half_step (x b c : Nat) (hc : 0 < c) (bit : Nat) (hbit : bit = 0 ∨ bit = 1) :
    ((2 * x + bit) * b) / c = 2 * (x * b / c) + (2 * (x * b % c)) / c + bit * (b / c) + ((2 * (x * b % c)) % c + bit * (b % c)) / c ∧
    ((2 * x + bit) * b) % c = ((2 * (x * b % c)) % c + bit * (b % c)) % c := by
  have h1 := Nat.div_add_mod (x * b) c
  have h2 := Nat.div_add_mod b c
  have h3 := Nat.div_add_mod (2 * (x * b % c)) c
  have e : (2 * x + bit) * b = c * (2 * (x * b / c) + (2 * (x * b % c)) / c + bit * (b / c)) + ((2 * (x * b % c)) % c + bit * (b % c)) := by
    have e1 : (2 * x + bit) * b = 2 * (x * b) + bit * b := by rw [Nat.add_mul, Nat.mul_assoc]
    rw [e1]
    rcases hbit with rfl | rfl
    · simp only [Nat.zero_mul, Nat.add_zero, Nat.mul_add, Nat.mul_left_comm c 2]
      omega
    · simp only [Nat.one_mul, Nat.mul_add, Nat.mul_left_comm c 2]
      omega
  rw [e]
  exact ⟨by rw [Nat.mul_add_div hc], by rw [Nat.mul_add_mod]⟩
end Go.Proofs.YtgbheogmccfaaaaGreat
