/- Walks: money may be; a fraction may be; rounding up. -/
import Derived.Test.YtgalpdjmmpjddaaMoneyA
import Derived.Test.YtgalpdjmmpjddaaDivC
namespace Go.Proofs.Ytgalpdjmmpjddaa
set_option linter.unusedVariables false
set_option linter.unusedSimpArgs false
open Go.RowKit

def inM (n : Int) : Bool := decide (-1099511627776 ≤ n) && decide (n ≤ 1099511627776)
def fracB (n d : Int) : Bool := decide (0 ≤ n) && decide (1 ≤ d)

set_option maxHeartbeats 400000 in
theorem withinM_any (n : Int) (w : World) :
    Calls Try.prog 68 #[.int .i64 n] w fun e w' => e = .returned (.bool (inM n)) ∧ w = w' := by
  go_enter Try.func68, Try.ntmps68
  go_wp2
  all_goals (go_ret; exact ⟨ret_bool (by simp [inM]; omega), rfl⟩)

set_option maxHeartbeats 400000 in
theorem fraction_any (n d : Int) (w : World) :
    Calls Try.prog 48 #[.agg #[.int .i64 n, .int .i64 d]] w fun e w' => e = .returned (.bool (fracB n d)) ∧ Below w.heap.size w w' := by
  go_enter Try.func48, Try.ntmps48
  go_wp2
  all_goals (go_ret; exact ⟨ret_bool (by simp [fracB]; omega), (Below.refl _ _).alloc (Nat.le_refl _) _⟩)
set_option maxHeartbeats 400000 in
theorem Right_any (n d : Int) (w : World) :
    Calls Try.prog 32 #[.agg #[.int .i64 n, .int .i64 d]] w fun e w' => e = .returned (.bool (fracB n d)) ∧ Below w.heap.size w w' := by
  go_enter Try.func32, Try.ntmps32
  go_wp2
  all_goals (go_ret; exact ⟨ret_bool (by simp [fracB]; omega), (Below.refl _ _).alloc (Nat.le_refl _) _⟩)

set_option maxHeartbeats 1000000 in
theorem MayM_any (s : ByteArray) (n : Int) (w : World) (hs : s.size ≤ maxLen) :
    Calls Try.prog 52 #[.agg #[.string s, .int .i64 n]] w fun e w' => e = .returned (.bool (okCur s && inM n)) ∧ Below w.heap.size w w' := by
  have H1 := hide (fun W => currency_any s W hs)
  obtain ⟨r, hr⟩ : ∃ r, r = okCur s := ⟨_, rfl⟩
  rw [← hr] at H1 ⊢
  clear hr
  go_enter Try.func52, Try.ntmps52
  go_wp2_with fail
  refine (unhide H1 _).mono ?_; rintro e w1 ⟨rfl, hb⟩
  have hc := ((Whole.made w 80 #[.string s, .int .i64 n]).after hb).cells
  have hb1 := ((Below.refl w.heap.size w).alloc (Nat.le_refl _) (.cells #[.string s, .int .i64 n] 80)).trans (hb.mono (by simp))
  have HB := hide hb1; clear hb1 hb
  cases r
  · go_wp2_with fail
    go_ret
    exact ⟨rfl, unhide HB⟩
  · go_wp2_with fail
    (with_reducible refine (withinM_any _ _).mono ?_); rintro e w2 ⟨rfl, rfl⟩
    go_wp2_with fail
    go_ret
    exact ⟨rfl, unhide HB⟩

set_option maxHeartbeats 1000000 in
theorem MayR_any (s : ByteArray) (n : Int) (w : World) (hs : s.size ≤ maxLen) :
    Calls Try.prog 56 #[.agg #[.string s, .int .i64 n]] w fun e w' => e = .returned (.bool (okCur s && inM n)) ∧ Below w.heap.size w w' := by
  have H1 := hide (fun W => Currency_any s W hs)
  obtain ⟨r, hr⟩ : ∃ r, r = okCur s := ⟨_, rfl⟩
  rw [← hr] at H1 ⊢
  clear hr
  go_enter Try.func56, Try.ntmps56
  go_wp2_with fail
  refine (unhide H1 _).mono ?_; rintro e w1 ⟨rfl, rfl⟩
  have hc := (Whole.made w 80 #[.string s, .int .i64 n]).cells
  cases r
  · go_wp2_with fail
    go_ret
    exact ⟨rfl, (Below.refl _ _).alloc (Nat.le_refl _) _⟩
  · go_wp2_with fail
    all_goals
      go_ret
      exact ⟨ret_bool (by simp [inM]; omega), (Below.refl _ _).alloc (Nat.le_refl _) _⟩

set_option maxHeartbeats 400000 in
theorem rounding1_any (w : World) :
    Calls Try.prog 51 #[.int .i64 1] w fun e w' => e = .returned (.func (.func 65) #[] #[]) ∧ w = w' := by
  go_enter Try.func51, Try.ntmps51
  go_wp2
  go_ret
  exact ⟨rfl, rfl⟩
set_option maxHeartbeats 400000 in
theorem roundUp_any (a b : Nat) (w : World) :
    Calls Try.prog 65 #[.int .u64 a, .int .u64 b] w fun e w' => e = .returned (.bool (decide (0 < a))) ∧ w = w' := by
  go_enter Try.func65, Try.ntmps65
  go_wp2
  all_goals (go_ret; exact ⟨ret_bool (by simp), rfl⟩)

/-- the sign of a whole number -/
def sgn (a : Int) : Int := if a < 0 then -1 else if 0 < a then 1 else 0
set_option maxHeartbeats 400000 in
theorem Compare0_any (a : Int) (w : World) :
    Calls Try.prog 53 #[.int .i64 a, .int .i64 0] w fun e w' => e = .returned (.int .i64 (sgn a)) ∧ w = w' := by
  go_enter Try.func53, Try.ntmps53
  go_wp2
  all_goals (go_ret; exact ⟨ret_int (by unfold sgn; split <;> (try split) <;> omega), rfl⟩)
end Go.Proofs.Ytgalpdjmmpjddaa
