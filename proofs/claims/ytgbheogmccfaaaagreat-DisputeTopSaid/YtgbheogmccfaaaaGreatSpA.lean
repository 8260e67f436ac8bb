/- Walks: the first of two numbers that isn't 0; how the places of what is left are ordered. -/
import Derived.Test.YtgbheogmccfaaaaGreatShA
namespace Go.Proofs.YtgbheogmccfaaaaGreat
set_option linter.unusedVariables false
set_option linter.unusedSimpArgs false
open Go.RowKit

set_option maxHeartbeats 2000000 in
theorem cmpOr_any (a b : Int) (g c : Nat) (w : World) (h0 : w.cell? ⟨g, 0, none⟩ = some (.int .i64 a)) (h1 : w.cell? ⟨g, 1, none⟩ = some (.int .i64 b)) :
    Calls Tryz.prog 46 #[.slice (some ⟨g, 0, none⟩) 2 c] w fun e w' => e = .returned (.int .i64 (orI a b)) ∧ w = w' := by
  obtain ⟨R, hR⟩ : ∃ r, r = orI a b := ⟨_, rfl⟩
  rw [← hR]
  unfold orI at hR
  have HR := hide hR
  clear hR
  go_enter Tryz.func46, Tryz.ntmps46
  go_wp2_with fail
  go_loop [8] (fun i => ∃ k : Nat, k ≤ 2 ∧ i = .int .i64 k ∧ Hid (0 < k → a = 0) ∧ Hid (1 < k → b = 0)) (fun i => 2 - (intOf i).toNat)
  case atStart => exact ⟨0, by omega, rfl, hide (by omega), hide (by omega)⟩
  case round =>
    obtain ⟨k, hk, rfl, HA, HB⟩ := hrel
    obtain rfl | rfl | rfl : k = 0 ∨ k = 1 ∨ k = 2 := by omega
    · by_cases ha : a = 0
      · have q1 : (a == 0) = true := by simpa using ha
        have q2 : (a != 0) = false := by simpa using ha
        have q3 : decide (a = 0) = true := by simpa using ha
        have HH := hide ha
        clear ha
        go_wp2_with fail
        go_round
        case rel => exact ⟨1, by omega, rfl, hide (fun _ => unhide HH), hide (by omega)⟩
        case measure => simp [intOf]
      · have q1 : (a == 0) = false := by simpa using ha
        have q2 : (a != 0) = true := by simpa using ha
        have q3 : decide (a = 0) = false := by simpa using ha
        have he : R = a := by rw [unhide HR, if_neg ha]
        have HE := hide he
        clear ha he
        go_wp2_with fail
        go_ret
        exact ⟨by rw [unhide HE]; rfl, rfl⟩
    · have ha := unhide HA (by omega)
      by_cases hb : b = 0
      · have q1 : (b == 0) = true := by simpa using hb
        have q2 : (b != 0) = false := by simpa using hb
        have q3 : decide (b = 0) = true := by simpa using hb
        have HH := hide hb; have HH2 := hide ha
        clear hb ha
        go_wp2_with fail
        go_round
        case rel => exact ⟨2, by omega, rfl, hide (fun _ => unhide HH2), hide (fun _ => unhide HH)⟩
        case measure => simp [intOf]
      · have q1 : (b == 0) = false := by simpa using hb
        have q2 : (b != 0) = true := by simpa using hb
        have q3 : decide (b = 0) = false := by simpa using hb
        have he : R = b := by rw [unhide HR, if_pos ha]
        have HE := hide he
        clear hb he ha
        go_wp2_with fail
        go_ret
        exact ⟨by rw [unhide HE]; rfl, rfl⟩
    · have he : R = 0 := by rw [unhide HR, if_pos (unhide HA (by omega))]; exact unhide HB (by omega)
      have HE := hide he
      clear he
      go_wp2_with fail
      go_ret
      exact ⟨by rw [unhide HE]; rfl, rfl⟩

/-- which of two places is ahead -/
def cmpR (r : List Nat) (x y : Nat) : Int := orI (cmpI (r.getD y 0) (r.getD x 0)) (cmpI x y)
theorem cmpR_lt (r : List Nat) (x y : Nat) : decide (cmpR r x y < 0) = bef r x y := by
  unfold cmpR bef orI cmpI
  rw [Bool.eq_iff_iff]
  simp only [decide_eq_true_eq, Bool.or_eq_true, Bool.and_eq_true]
  split <;> (try split) <;> (try split) <;> omega

set_option maxHeartbeats 4000000 in
set_option maxRecDepth 100000 in
theorem Split1_any (r : List Nat) (x y n c g X : Nat) (w : World) (hxn : x < n) (hyn : y < n) (hn : n ≤ 100000)
    (hX : w.cell? ⟨X, 0, none⟩ = some (.slice (some ⟨g, 0, none⟩) n c)) (hx : w.cell? ⟨g, x, none⟩ = some (.int .u64 (r.getD x 0))) (hy : w.cell? ⟨g, y, none⟩ = some (.int .u64 (r.getD y 0))) :
    Calls Tryz.prog 45 #[.int .i64 x, .int .i64 y, .pointer (some ⟨X, 0, none⟩)] w fun e w' => e = .returned (.int .i64 (cmpR r x y)) ∧ Laid w w' := by
  have C1 := hide (fun W => cmpUint64_any (r.getD y 0) (r.getD x 0) W)
  have C2 := hide (fun W => cmpInt_any x y W)
  unfold cmpR
  generalize cmpI (r.getD y 0 : Int) (r.getD x 0) = c1 at *
  generalize cmpI (x : Int) y = c2 at *
  generalize r.getD x 0 = rx at *
  generalize r.getD y 0 = ry at *
  obtain ⟨R, hR⟩ : ∃ r, r = orI c1 c2 := ⟨_, rfl⟩
  rw [← hR]
  have HR := hide hR
  clear hR
  have i0 : (0 : Int) ≤ (x : Int) := by omega
  have i1 : (x : Int) < (n : Int) := by omega
  have i2 : (0 : Int) ≤ (y : Int) := by omega
  have i3 : (y : Int) < (n : Int) := by omega
  have HL := hide (fun o => ((Laid.refl w).drew).alloc o)
  have hK := Whole.made w.drew 3 #[.int .i64 c1, .int .i64 c2]
  have HK := hide (And.intro (hK.cells 0) (hK.cells 1))
  clear hK
  go_enter Tryz.func45, Tryz.ntmps45
  go_wp2_with fail
  go_region_held3 (fun w' => w'.cell? ⟨X, 0, none⟩ = some (.slice (some ⟨g, 0, none⟩) n c) ∧ w'.cell? ⟨g, x, none⟩ = some (.int .u64 rx) ∧ w'.cell? ⟨g, y, none⟩ = some (.int .u64 ry)) (go_keep)
    ((first
      | (go_at_call 47; (with_reducible refine (unhide C1 _).mono ?_); rintro e w' ⟨rfl, rfl⟩)
      | (go_at_call 48; (with_reducible refine (unhide C2 _).mono ?_); rintro e w' ⟨rfl, rfl⟩)
      | (go_at_call 46; (refine (cmpOr_any c1 c2 w.heap.size 2 _ (unhide HK).1 (unhide HK).2).mono ?_); rintro e w' ⟨rfl, rfl⟩)))
  all_goals
    go_wp2_with fail
    go_ret
    exact ⟨by rw [unhide HR]; rfl, unhide HL _⟩
end Go.Proofs.YtgbheogmccfaaaaGreat
