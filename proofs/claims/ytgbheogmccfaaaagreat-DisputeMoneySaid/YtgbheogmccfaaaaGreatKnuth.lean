/- Plain law: the division of two words by one, half a word at a time (no program in sight). -/
import Derived.Test.YtgbheogmccfaaaaGreatRows
namespace Go.Proofs.YtgbheogmccfaaaaGreat
set_option linter.unusedVariables false
set_option linter.unusedSimpArgs false

/-- where the loop ends by its test: the digit is just the quotient -/
theorem digit_le {B un un1 y1 y0 q r : Nat} (hq : q * y1 + r = un) (hc : q * y0 ≤ B * r + un1) : q * (y1 * B + y0) ≤ un * B + un1 := by
  have e : q * (y1 * B + y0) = q * y1 * B + q * y0 := by rw [Nat.mul_add, Nat.mul_assoc]
  have e2 : un * B = q * y1 * B + r * B := by rw [← hq, Nat.add_mul]
  rw [e, e2, Nat.mul_comm r B]; omega
/-- where the test says that the digit is too great -/
theorem digit_gt {B un un1 y1 y0 q r : Nat} (hq : q * y1 + r = un) (hc : B * r + un1 < q * y0) : un * B + un1 < q * (y1 * B + y0) := by
  have e : q * (y1 * B + y0) = q * y1 * B + q * y0 := by rw [Nat.mul_add, Nat.mul_assoc]
  have e2 : un * B = q * y1 * B + r * B := by rw [← hq, Nat.add_mul]
  rw [e, e2, Nat.mul_comm r B]; omega
theorem quot_lt {n y q : Nat} (h : n < q * y) : n / y < q := by
  rcases Nat.eq_zero_or_pos y with h0 | h0
  · subst h0; simp at h
  · exact (Nat.div_lt_iff_lt_mul h0).2 h
theorem quot_ge {n y q : Nat} (hy : 0 < y) (h : q * y ≤ n) : q ≤ n / y := (Nat.le_div_iff_mul_le hy).2 h
/-- the quotient is a half word -/
theorem quot_small {B un un1 y : Nat} (hu : un < y) (h1 : un1 < B) : (un * B + un1) / y < B := by
  apply quot_lt
  have : (un + 1) * B ≤ y * B := Nat.mul_le_mul_right B hu
  rw [Nat.add_mul] at this
  rw [Nat.mul_comm B y]; omega
/-- the first guess is no less than the quotient .. -/
theorem guess_ge {B un un1 y1 y0 : Nat} (hy1 : 0 < y1) (h1 : un1 < B) : (un * B + un1) / (y1 * B + y0) ≤ un / y1 := by
  have hlt : un < (un / y1 + 1) * y1 := by
    have := Nat.div_add_mod un y1
    have := Nat.mod_lt un hy1
    rw [Nat.add_mul, Nat.mul_comm (un / y1) y1]; omega
  have h2 : (un + 1) * B ≤ (un / y1 + 1) * y1 * B := Nat.mul_le_mul_right B hlt
  have h3 : un * B + un1 < (un / y1 + 1) * (y1 * B + y0) := by
    rw [Nat.mul_add, ← Nat.mul_assoc]
    rw [Nat.add_mul] at h2; omega
  have := quot_lt h3
  omega
/-- .. and at most two more than a half word -/
theorem guess_le {B un y1 y0 : Nat} (hy1 : B ≤ 2 * y1) (hB : 0 < B) (hy0 : y0 < B) (hu : un < y1 * B + y0) : un / y1 ≤ B + 1 := by
  have h : un < (B + 2) * y1 := by rw [Nat.add_mul, Nat.mul_comm B y1]; omega
  have := quot_lt h
  omega


/-- ONE ROUND: what it comes to -/
theorem knuth_step {B un un1 y1 y0 q r T : Nat} (hy0 : y0 ≤ B) (hB : 1 ≤ B) (hT : T = (un * B + un1) / (y1 * B + y0)) (hY : 0 < y1 * B + y0) (hTB : T < B) (hq : q * y1 + r = un) (hge : T ≤ q) (hle : q ≤ B + 1) :
    (B ≤ q ∧ r + y1 < B ∧ (q - 1) * y1 + (r + y1) = un ∧ T ≤ q - 1 ∧ q - 1 ≤ B + 1) ∨ (q < B ∧ B * r + un1 < q * y0 ∧ r + y1 < B ∧ (q - 1) * y1 + (r + y1) = un ∧ T ≤ q - 1 ∧ q - 1 ≤ B + 1) ∨
    (B ≤ q ∧ B ≤ r + y1 ∧ q = T + 1) ∨ (q < B ∧ B * r + un1 < q * y0 ∧ B ≤ r + y1 ∧ q = T + 1) ∨ (q < B ∧ q * y0 ≤ B * r + un1 ∧ q = T) := by
  have hstep : T < q → (q - 1) * y1 + (r + y1) = un := by
    intro h
    have : (q - 1) * y1 + y1 = q * y1 := by
      obtain ⟨p, rfl⟩ : ∃ p, q = p + 1 := ⟨q - 1, by omega⟩
      rw [Nat.add_sub_cancel, Nat.add_mul, Nat.one_mul]
    omega
  have hbreak : T < q → B ≤ r + y1 → q = T + 1 := by
    intro h hr
    have h1 : (q - 1) * y0 ≤ B * B := Nat.mul_le_mul (by omega) hy0
    have h2 : B * B ≤ B * (r + y1) := Nat.mul_le_mul_left B hr
    have h3 := digit_le (un1 := un1) (hstep h) (show (q - 1) * y0 ≤ B * (r + y1) + un1 by omega)
    have h4 := quot_ge hY h3
    rw [← hT] at h4; omega
  by_cases hA : B ≤ q
  · have hlt : T < q := by omega
    by_cases hr : B ≤ r + y1
    · exact Or.inr (Or.inr (Or.inl ⟨hA, hr, hbreak hlt hr⟩))
    · exact Or.inl ⟨hA, by omega, hstep hlt, by omega, by omega⟩
  · by_cases hc : B * r + un1 < q * y0
    · have hlt : T < q := by rw [hT]; exact quot_lt (digit_gt hq hc)
      by_cases hr : B ≤ r + y1
      · exact Or.inr (Or.inr (Or.inr (Or.inl ⟨by omega, hc, hr, hbreak hlt hr⟩)))
      · exact Or.inr (Or.inl ⟨by omega, hc, by omega, hstep hlt, by omega, by omega⟩)
    · have h3 := quot_ge hY (digit_le (un1 := un1) hq (by omega))
      rw [← hT] at h3
      exact Or.inr (Or.inr (Or.inr (Or.inr ⟨by omega, by omega, by omega⟩)))

/-- the two digits, put together -/
theorem digits_join {Y B n u1 u0 : Nat} (hY : 0 < Y) : ((n * B + u1) * B + u0) / Y = (n * B + u1) / Y * B + ((n * B + u1) % Y * B + u0) / Y ∧ ((n * B + u1) * B + u0) % Y = ((n * B + u1) % Y * B + u0) % Y := by
  generalize n * B + u1 = m
  have e : m * B + u0 = Y * (m / Y * B) + (m % Y * B + u0) := by
    have h := Nat.div_add_mod m Y
    calc m * B + u0 = (Y * (m / Y) + m % Y) * B + u0 := by rw [h]
      _ = _ := by rw [Nat.add_mul, Nat.mul_assoc]; omega
  rw [e]
  exact ⟨Nat.mul_add_div hY _ _, Nat.mul_add_mod _ _ _⟩

/-- both shifted -/
theorem shifted {hi lo y K M : Nat} (hKM : M * K = 18446744073709551616) (hK : 0 < K) (hM : 0 < M) (hhi : hi < y) (hlo : lo < 18446744073709551616) :
    (hi * K + lo / M) * 18446744073709551616 + lo * K % 18446744073709551616 = (hi * 18446744073709551616 + lo) * K ∧ hi * K + lo / M < y * K ∧ lo / M < K := by
  have h1 : lo / M < K := by rw [Nat.div_lt_iff_lt_mul hM, Nat.mul_comm, hKM]; exact hlo
  have h2 : lo * K % 18446744073709551616 = lo % M * K := by rw [← hKM, Nat.mul_mod_mul_right]
  have h3 : lo * K = lo / M * 18446744073709551616 + lo % M * K := by
    rw [← hKM, ← Nat.mul_assoc, ← Nat.add_mul, Nat.mul_comm (lo / M) M, Nat.div_add_mod]
  refine ⟨?_, ?_, h1⟩
  · rw [h2, Nat.add_mul, Nat.add_mul, h3, Nat.mul_right_comm]; omega
  · have : (hi + 1) * K ≤ y * K := Nat.mul_le_mul_right K hhi
    rw [Nat.add_mul] at this; omega
end Go.Proofs.YtgbheogmccfaaaaGreat
