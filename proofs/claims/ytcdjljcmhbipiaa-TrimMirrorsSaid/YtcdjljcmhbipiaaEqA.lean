/- '==' on slots. -/
import Derived.Test.YtcdjljcmhbipiaaLoadsA
namespace Go.Proofs.Ytcdjljcmhbipiaa
open Go.RowKit

theorem eqSlot (a b c d e f : Int) (w : World) : (binOp .eql 31 (.agg #[.int .i64 a, .int .i64 b, .int .i64 c]) (.agg #[.int .i64 d, .int .i64 e, .int .i64 f])).run Try.prog w = .ok (.bool (decide (a = d) && decide (b = e) && decide (c = f))) w := by
  by_cases h1 : a = d <;> by_cases h2 : b = e <;> by_cases h3 : c = f <;> simp [go_sem, h1, h2, h3]
end Go.Proofs.Ytcdjljcmhbipiaa
