/- Walks: the small functions on numbers. -/
import Derived.Test.YtcdjljcmhbipiaaBase
namespace Go.Proofs.Ytcdjljcmhbipiaa
open Go.RowKit

/-- lo ≤ n ≤ hi -/
def inB (n lo hi : Int) : Bool := decide (lo ≤ n) && decide (n ≤ hi)
theorem inB_true {n lo hi : Int} (h : inB n lo hi = true) : lo ≤ n ∧ n ≤ hi := by simpa [inB] using h
theorem inB_false {n lo hi : Int} (h : inB n lo hi = false) : ¬ (lo ≤ n ∧ n ≤ hi) := by simpa [inB] using h

set_option maxHeartbeats 400000 in
theorem In_any (n lo hi : Int) (w : World) :
    Calls Try.prog 13 #[.int .i64 n, .int .i64 lo, .int .i64 hi] w fun e w' => e = .returned (.bool (inB n lo hi)) ∧ w = w' := by
  go_enter Try.func13, Try.ntmps13
  go_wp2
  all_goals (go_ret; exact ⟨ret_bool (by simp [inB]; omega), rfl⟩)

set_option maxHeartbeats 400000 in
theorem within_any (n lo hi : Int) (w : World) :
    Calls Try.prog 29 #[.int .i64 n, .int .i64 lo, .int .i64 hi] w fun e w' => e = .returned (.bool (inB n lo hi)) ∧ w = w' := by
  go_enter Try.func29, Try.ntmps29
  go_wp2
  all_goals (go_ret; exact ⟨ret_bool (by simp [inB]; omega), rfl⟩)

/-- 0 ≤ n < m -/
def belowB (n m : Int) : Bool := decide (0 ≤ n) && decide (n < m)
set_option maxHeartbeats 400000 in
theorem on1_any (n m : Int) (w : World) :
    Calls Try.prog 24 #[.int .i64 n, .int .i64 m] w fun e w' => e = .returned (.bool (belowB n m)) ∧ w = w' := by
  go_enter Try.func24, Try.ntmps24
  go_wp2
  all_goals (go_ret; exact ⟨ret_bool (by simp [belowB]; omega), rfl⟩)

set_option maxHeartbeats 400000 in
theorem arm_any (a m : Int) (w : World) (ha : 0 ≤ a) (ha' : a ≤ 100) (hm : 0 ≤ m) (hm' : m ≤ 100) :
    Calls Try.prog 20 #[.int .i64 a, .int .i64 m] w fun e w' => e = .returned (.int .i64 (2 * a - m + 1)) ∧ w = w' := by
  go_enter Try.func20, Try.ntmps20
  go_wp2
  all_goals (go_ret; exact ⟨rfl, rfl⟩)

def absI (n : Int) : Int := if n < 0 then -n else n
set_option maxHeartbeats 400000 in
theorem size_any (n : Int) (w : World) (h1 : -1000000000000000000 ≤ n) (h2 : n ≤ 1000000000000000000) :
    Calls Try.prog 21 #[.int .i64 n] w fun e w' => e = .returned (.int .i64 (absI n)) ∧ w = w' := by
  go_enter Try.func21, Try.ntmps21
  go_wp2
  all_goals (go_ret; exact ⟨ret_int (by simp [absI]; omega), rfl⟩)

end Go.Proofs.Ytcdjljcmhbipiaa
