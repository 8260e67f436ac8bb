/- Plain law: multiplied and divided, bit by bit. -/
import Derived.Test.YtgalpdjmmpjddaaScaleB
import Derived.Lib.RabinKarpLaws
namespace Go.Proofs.Ytgalpdjmmpjddaa
set_option linter.unusedVariables false
set_option linter.unusedSimpArgs false
open Go.RowKit

/-- what Parts tells -/
def partsV (n num den : Nat) : Value := if n * num / den ≤ 2199023255552 then .tuple #[.int .i64 ((n * num / den : Nat) : Int), .int .i64 ((n * num % den : Nat) : Int)] else .tuple #[.int .i64 (-1), .int .i64 0]

def PInv (num den m q r : Nat) : Prop := q * den + r = m * num ∧ r < den ∧ q ≤ 2199023255552

/-- both doubled -/
inductive Dbl (q r den q3 r3 : Nat) : Prop
  | up (q2 r2 : Nat) (f1 : IntKind.i64.wrap (2 * (q : Int)) = (q2 : Int)) (f2 : IntKind.u64.wrap (2 * (r : Int)) = (r2 : Int)) (hc : den ≤ r2) (f3 : IntKind.u64.wrap ((r2 : Int) - (den : Int)) = (r3 : Int)) (f4 : IntKind.i64.wrap ((q2 : Int) + 1) = (q3 : Int))
  | no (f1 : IntKind.i64.wrap (2 * (q : Int)) = (q3 : Int)) (f2 : IntKind.u64.wrap (2 * (r : Int)) = (r3 : Int)) (hc : ¬ den ≤ r3)
/-- once more added -/
inductive Addd (q3 r3 den nd nm q5 r5 : Nat) : Prop
  | up (q4 r4 : Nat) (f1 : IntKind.i64.wrap ((q3 : Int) + (nd : Int)) = (q4 : Int)) (f2 : IntKind.u64.wrap ((r3 : Int) + (nm : Int)) = (r4 : Int)) (hc : den ≤ r4) (f3 : IntKind.u64.wrap ((r4 : Int) - (den : Int)) = (r5 : Int)) (f4 : IntKind.i64.wrap ((q4 : Int) + 1) = (q5 : Int))
  | no (f1 : IntKind.i64.wrap ((q3 : Int) + (nd : Int)) = (q5 : Int)) (f2 : IntKind.u64.wrap ((r3 : Int) + (nm : Int)) = (r5 : Int)) (hc : ¬ den ≤ r5)

theorem wrapI {x : Int} {n : Nat} (h : x = (n : Int)) (hn : n < 9223372036854775808) : IntKind.i64.wrap x = (n : Int) := by rw [h]; exact IntWalk.i64_in _ (by omega)
theorem wrapU {x : Int} {n : Nat} (h : x = (n : Int)) (hn : n < 18446744073709551616) : IntKind.u64.wrap x = (n : Int) := by rw [h]; exact Mul64.wrapN _ hn

theorem dbl_of {q r den : Nat} (hq : q ≤ 2199023255552) (hr : r < den) (hd : den < 9223372036854775808) : ∃ q3 r3, Dbl q r den q3 r3 ∧ q3 * den + r3 = 2 * (q * den + r) ∧ r3 < den ∧ q3 ≤ 4398046511105 := by
  by_cases h : den ≤ 2 * r
  · refine ⟨2 * q + 1, 2 * r - den, .up (2 * q) (2 * r) (wrapI (by simp) (by omega)) (wrapU (by simp) (by omega)) h (wrapU (by omega) (by omega)) (wrapI (by simp) (by omega)), ?_, by omega, by omega⟩
    rw [Nat.add_mul, Nat.mul_assoc]; omega
  · refine ⟨2 * q, 2 * r, .no (wrapI (by simp) (by omega)) (wrapU (by simp) (by omega)) h, ?_, by omega, by omega⟩
    rw [Nat.mul_assoc]; omega
theorem add_of {q r den num : Nat} (hq : q ≤ 4398046511105) (hr : r < den) (hd : den < 9223372036854775808) (hn : num / den ≤ 2199023255552) :
    ∃ q3 r3, Addd q r den (num / den) (num % den) q3 r3 ∧ q3 * den + r3 = q * den + r + num ∧ r3 < den ∧ q3 ≤ 6597069766658 := by
  have hdm := Nat.div_add_mod' num den
  have hm := Nat.mod_lt num (show 0 < den by omega)
  obtain ⟨x, hx⟩ : ∃ x, x = num / den := ⟨_, rfl⟩
  obtain ⟨y, hy⟩ : ∃ x, x = num % den := ⟨_, rfl⟩
  rw [← hx, ← hy] at hdm; rw [← hx] at hn; rw [← hy] at hm; rw [← hx, ← hy]
  by_cases h : den ≤ r + y
  · refine ⟨q + x + 1, r + y - den, .up (q + x) (r + y) (wrapI (by simp) (by omega)) (wrapU (by simp) (by omega)) h (wrapU (by omega) (by omega)) (wrapI (by simp) (by omega)), ?_, by omega, by omega⟩
    rw [Nat.add_mul, Nat.add_mul]; omega
  · refine ⟨q + x, r + y, .no (wrapI (by simp) (by omega)) (wrapU (by simp) (by omega)) h, ?_, by omega, by omega⟩
    rw [Nat.add_mul]; omega

theorem half_bit (n k : Nat) : n / 2 ^ k = 2 * (n / 2 ^ (k + 1)) + n / 2 ^ k % 2 := by
  rw [Nat.pow_succ, ← Nat.div_div_eq_div_mul]; omega
theorem parts_big {n num den m q r : Nat} (hd : 0 < den) (h : q * den + r = m * num) (hm : m ≤ n) (hq : 2199023255552 < q) : partsV n num den = .tuple #[.int .i64 (-1), .int .i64 0] := by
  have h1 : m * num ≤ n * num := Nat.mul_le_mul_right _ hm
  have h2 := quot_ge hd (show q * den ≤ n * num by omega)
  unfold partsV
  rw [if_neg (by omega)]
theorem parts_big1 {n num den : Nat} (hd : 0 < den) (hm : 1 ≤ n) (hq : 2199023255552 < num / den) : partsV n num den = .tuple #[.int .i64 (-1), .int .i64 0] := by
  have h1 : 1 * num ≤ n * num := Nat.mul_le_mul_right _ hm
  have h2 := Nat.div_mul_le_self num den
  have h3 := quot_ge hd (show num / den * den ≤ n * num by omega)
  unfold partsV
  rw [if_neg (by omega)]
theorem parts_end {n num den q r : Nat} (h : PInv num den n q r) : partsV n num den = .tuple #[.int .i64 (q : Int), .int .i64 (r : Int)] := by
  obtain ⟨h1, h2, h3⟩ := h
  have hd : 0 < den := by omega
  have e1 : n * num / den = q := by
    rw [← h1, Nat.mul_comm q den, Nat.mul_add_div hd, Nat.div_eq_of_lt h2]; omega
  have e2 : n * num % den = r := by
    rw [← h1, Nat.mul_comm q den, Nat.mul_add_mod, Nat.mod_eq_of_lt h2]
  unfold partsV
  rw [e1, e2, if_pos h3]
end Go.Proofs.Ytgalpdjmmpjddaa
