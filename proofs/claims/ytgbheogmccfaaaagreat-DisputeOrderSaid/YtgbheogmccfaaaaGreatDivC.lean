/- Walk: the library's Div64, whole. -/
import Derived.Test.YtgbheogmccfaaaaGreatDivB
import Derived.BigRegion
namespace Go.Proofs.YtgbheogmccfaaaaGreat
set_option linter.unusedVariables false
set_option linter.unusedSimpArgs false
open Go.RowKit

set_option maxHeartbeats 1000000 in
set_option maxRecDepth 100000 in
theorem Div64_near (lo y : Nat) (hy0 : 0 < y) (hy : y < 18446744073709551616) (hlo : lo < 18446744073709551616) (w : World) :
    Calls Tryz.prog 43 #[.int .u64 0, .int .u64 lo, .int .u64 y] w fun e w' => e = .returned (.tuple #[.int .u64 ((lo / y : Nat) : Int), .int .u64 ((lo % y : Nat) : Int)]) ∧ Below w.heap.size w w' := by
  have z : ¬ y = 0 := by omega
  have e1 : IntKind.u64.wrap ((lo:Int).tdiv (y:Int)) = ((lo / y : Nat) : Int) := wrapDiv _ _ hlo
  have e2 : IntKind.u64.wrap ((lo:Int) / (y:Int)) = ((lo / y : Nat) : Int) := by rw [← tdivE]; exact e1
  have e3 : ((lo:Int).tmod (y:Int)) = ((lo % y : Nat) : Int) := by rw [Int.tmod_eq_emod_of_nonneg (by omega)]; simp
  have e4 : ((lo:Int) % (y:Int)) = ((lo % y : Nat) : Int) := by simp
  have hy' : ¬ y ≤ 0 := by omega
  obtain ⟨q, hq⟩ : ∃ q, q = lo / y := ⟨_, rfl⟩
  obtain ⟨r, hr⟩ : ∃ q, q = lo % y := ⟨_, rfl⟩
  rw [← hq] at e1 e2; rw [← hr] at e3 e4
  rw [← hq, ← hr]
  have hrn : r < 18446744073709551616 := by rw [hr]; have := Nat.mod_lt lo hy0; omega
  have e5 : IntKind.u64.wrap (r : Int) = (r : Int) := Mul64.wrapN _ hrn
  clear hq hr hlo hy hrn hy0
  go_enter Tryz.func43, Tryz.ntmps43
  go_wp2_with fail
  go_region
  go_wp2_with fail
  go_ret2
  exact ⟨rfl, (Below.refl _ _).drew⟩

theorem Div64_any (hi lo y : Nat) (hy : y < 18446744073709551616) (hlo : lo < 18446744073709551616) (hhi : hi < y) (w : World) :
    Calls Tryz.prog 43 #[.int .u64 hi, .int .u64 lo, .int .u64 y] w fun e w' => e = .returned (.tuple #[.int .u64 (((hi * 18446744073709551616 + lo) / y : Nat) : Int), .int .u64 (((hi * 18446744073709551616 + lo) % y : Nat) : Int)]) ∧ Below w.heap.size w w' := by
  by_cases h0 : hi = 0
  · subst h0
    have h := Div64_near lo y (by omega) hy hlo w
    simpa using h
  · obtain ⟨Y, y1, y0, un, u1, u0, T1, v, T2, r2, D⟩ := dv_of hi lo y (64 - Lib.bitLen y) (by omega) hy hlo hhi rfl
    refine (Div64_far hi lo y _ Y y1 y0 un u1 u0 T1 v T2 r2 (by omega) hy hlo hhi h0 D w ?_).mono ?_
    · refine (LeadingZeros64_any y w (by omega) (by omega)).mono ?_
      rintro e w' ⟨rfl, rfl⟩
      have l := Lib.bitLen_le y 64 (by omega) (by omega)
      refine ⟨ret_int ?_, rfl⟩
      simp; omega
    · rintro e w' ⟨rfl, rfl⟩
      exact ⟨rfl, Below.refl _ _⟩
end Go.Proofs.YtgbheogmccfaaaaGreat
