/- Walks: what the library's cmp tells of texts; the first of two numbers that isn't 0. -/
import Derived.Test.YtjihkoleipkgmaaCmpG
namespace Go.Proofs.Ytjihkoleipkgmaa
set_option linter.unusedVariables false
set_option linter.unusedSimpArgs false
open Go.RowKit

set_option maxHeartbeats 2000000 in
theorem cmpOr_any (a b : Int) (g c : Nat) (w : World) (h0 : w.cell? ⟨g, 0, none⟩ = some (.int .i64 a)) (h1 : w.cell? ⟨g, 1, none⟩ = some (.int .i64 b)) :
    Calls Try.prog 41 #[.slice (some ⟨g, 0, none⟩) 2 c] w fun e w' => e = .returned (.int .i64 (orI a b)) ∧ w = w' := by
  obtain ⟨R, hR⟩ : ∃ r, r = orI a b := ⟨_, rfl⟩
  rw [← hR]
  unfold orI at hR
  have HR := hide hR
  clear hR
  go_enter Try.func41, Try.ntmps41
  go_wp2_with fail
  go_loop [8] (fun i => ∃ k : Nat, k ≤ 2 ∧ i = .int .i64 k ∧ Hid (0 < k → a = 0) ∧ Hid (1 < k → b = 0)) (fun i => 2 - (intOf i).toNat)
  case atStart => exact ⟨0, by omega, rfl, hide (by omega), hide (by omega)⟩
  case round =>
    obtain ⟨k, hk, rfl, HA, HB⟩ := hrel
    obtain rfl | rfl | rfl : k = 0 ∨ k = 1 ∨ k = 2 := by omega
    · by_cases ha : a = 0
      · have q1 : (a == 0) = true := by simpa using ha
        have q2 : (a != 0) = false := by simpa using ha
        have q3 : decide (a = 0) = true := by simpa using ha
        have HH := hide ha
        clear ha
        go_wp2_with fail
        go_round
        case rel => exact ⟨1, by omega, rfl, hide (fun _ => unhide HH), hide (by omega)⟩
        case measure => simp [intOf]
      · have q1 : (a == 0) = false := by simpa using ha
        have q2 : (a != 0) = true := by simpa using ha
        have q3 : decide (a = 0) = false := by simpa using ha
        have he : R = a := by rw [unhide HR, if_neg ha]
        have HE := hide he
        clear ha he
        go_wp2_with fail
        go_ret
        exact ⟨by rw [unhide HE]; rfl, rfl⟩
    · have ha := unhide HA (by omega)
      by_cases hb : b = 0
      · have q1 : (b == 0) = true := by simpa using hb
        have q2 : (b != 0) = false := by simpa using hb
        have q3 : decide (b = 0) = true := by simpa using hb
        have HH := hide hb; have HH2 := hide ha
        clear hb ha
        go_wp2_with fail
        go_round
        case rel => exact ⟨2, by omega, rfl, hide (fun _ => unhide HH2), hide (fun _ => unhide HH)⟩
        case measure => simp [intOf]
      · have q1 : (b == 0) = false := by simpa using hb
        have q2 : (b != 0) = true := by simpa using hb
        have q3 : decide (b = 0) = false := by simpa using hb
        have he : R = b := by rw [unhide HR, if_pos ha]
        have HE := hide he
        clear hb he ha
        go_wp2_with fail
        go_ret
        exact ⟨by rw [unhide HE]; rfl, rfl⟩
    · have he : R = 0 := by rw [unhide HR, if_pos (unhide HA (by omega))]; exact unhide HB (by omega)
      have HE := hide he
      clear he
      go_wp2_with fail
      go_ret
      exact ⟨by rw [unhide HE]; rfl, rfl⟩


theorem isNaN_any (a : ByteArray) (w : World) : Calls Try.prog 65 #[.string a] w fun e w' => e = .returned (.bool false) ∧ w = w' := by
  have q : (a.toList == a.toList) = true := by simp
  go_enter Try.func65, Try.ntmps65
  go_wp2
  go_ret
  exact ⟨rfl, rfl⟩
set_option maxHeartbeats 2000000 in
theorem cmpTxt_any (a b : ByteArray) (w : World) : Calls Try.prog 42 #[.string a, .string b] w fun e w' => e = .returned (.int .i64 (cmpS a b)) ∧ w = w' := by
  rcases txt_tri a b with ⟨h0, h1, h2, h3⟩ | ⟨h0, h1, h2, h3⟩ | ⟨h0, h1, h2, h3⟩
  all_goals
    rw [h3]
    clear h3
    go_enter Try.func42, Try.ntmps42
    go_wp2_with fail
    (with_reducible refine (isNaN_any _ _).mono ?_); rintro e w' ⟨rfl, rfl⟩
    go_wp2_with fail
    (with_reducible refine (isNaN_any _ _).mono ?_); rintro e w' ⟨rfl, rfl⟩
    go_wp2_with fail
    go_ret
    exact ⟨rfl, rfl⟩
end Go.Proofs.Ytjihkoleipkgmaa
