/- Walks: the reference's 'Ship'. -/
import Derived.Test.YtcdjljcmhbipiaaMayA
namespace Go.Proofs.Ytcdjljcmhbipiaa
open Go.RowKit

set_option maxHeartbeats 1000000 in
theorem Ship_any (nm : ByteArray) (a1 a2 a3 a4 a5 a6 a7 a8 : Int) (w : World) (hs : nm.size ≤ maxLen) :
    Calls Try.prog 12 #[.agg #[.string nm, .int .i64 a1, .int .i64 a2, .int .i64 a3, .int .i64 a4, .int .i64 a5, .int .i64 a6, .int .i64 a7, .int .i64 a8]] w
      fun e w' => e = .returned (.bool (shipOk ⟨nm, a1, a2, a3, a4, a5, a6, a7, a8⟩)) ∧ Below w.heap.size w w' := by
  have h1 := fun W => Name_any nm W hs
  have hdef : shipOk ⟨nm, a1, a2, a3, a4, a5, a6, a7, a8⟩ = (okName nm && [a1, a2, a3].all (inB · 1 32) && [a4, a5, a6, a7, a8].all (inB · 0 1048576)) := rfl
  simp only [List.all_cons, List.all_nil, Bool.and_true] at hdef
  generalize okName nm = r1 at *
  have HD := Lib.hid hdef; clear hdef
  have H1 := hide h1; clear h1
  go_enter Try.func12, Try.ntmps12
  go_wp2_with (first | (go_at_call 17; refine (unhide H1 _).mono ?_; rintro e w' ⟨rfl, rfl⟩) | (go_at_call 13; refine (In_any _ _ _ _).mono ?_; rintro e w' ⟨rfl, rfl⟩))
  all_goals
    go_ret
    refine ⟨ret_bool ?_, (Below.refl _ _).alloc (Nat.le_refl _) _⟩
    rw [HD.out]; simp_all
end Go.Proofs.Ytcdjljcmhbipiaa
