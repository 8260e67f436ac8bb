/- Walk: the reference's product over a number, bit by bit. (printed by gen_times.py) -/
import Derived.Test.YtgbheogmccfaaaaGreatSelP
import Derived.Test.YtgbheogmccfaaaaGreatClA
import Derived.Lib.RabinKarpLaws
namespace Go.Proofs.YtgbheogmccfaaaaGreat
set_option linter.unusedVariables false
set_option linter.unusedSimpArgs false
open Go.RowKit

theorem half_bit (n k : Nat) : n / 2 ^ k = 2 * (n / 2 ^ (k + 1)) + n / 2 ^ k % 2 := by
  rw [Nat.pow_succ, ← Nat.div_div_eq_div_mul]; omega
theorem wrapI {x : Int} {n : Nat} (h : x = (n : Int)) (hn : n < 9223372036854775808) : IntKind.i64.wrap x = (n : Int) := by rw [h]; exact IntWalk.i64_in _ (by omega)
def TInv (b c x q r : Nat) : Prop := q * c + r = x * b ∧ r < c ∧ q ≤ 1099511627776
theorem TInv.end_ {b c x q r : Nat} (h : TInv b c x q r) : x * b / c = q ∧ x * b % c = r := by
  obtain ⟨h1, h2, _⟩ := h
  have hd : 0 < c := by omega
  rw [← h1, Nat.mul_comm q c, Nat.mul_add_div hd, Nat.div_eq_of_lt h2, Nat.mul_add_mod, Nat.mod_eq_of_lt h2]
  exact ⟨by omega, rfl⟩
theorem TInv.of {a b c x q r : Nat} (ha : a ≤ 1099511627776) (hx : x ≤ a) (hbc : b ≤ c) (h : q * c + r = x * b) (hr : r < c) : TInv b c x q r := by
  refine ⟨h, hr, ?_⟩
  have h1 : x * b ≤ a * c := Nat.mul_le_mul hx hbc
  have h2 : q * c ≤ a * c := by omega
  have := Nat.le_of_mul_le_mul_right h2 (show 0 < c by omega)
  omega

set_option maxHeartbeats 8000000 in
set_option maxRecDepth 100000 in
theorem Times_any (a b c : Nat) (w : World) (ha : a ≤ 1099511627776) (hbc : b ≤ c) (hc0 : 0 < c) (hc : c ≤ 4503599627370496) :
    Calls Tryz.prog 50 #[.int .i64 a, .int .i64 b, .int .i64 c] w fun e w' => e = .returned (.tuple #[.int .i64 ((a * b / c : Nat) : Int), .int .i64 ((a * b % c : Nat) : Int)]) ∧ w = w' := by
  obtain ⟨nd, hnd⟩ : ∃ x, x = b / c := ⟨_, rfl⟩
  obtain ⟨nm, hnm⟩ : ∃ x, x = b % c := ⟨_, rfl⟩
  have hdm := Nat.div_add_mod b c
  rw [← hnd, ← hnm, Nat.mul_comm] at hdm
  have hnmb : nm < c := by rw [hnm]; exact Nat.mod_lt _ hc0
  have hndb : nd ≤ 1 := by
    rw [hnd]
    have : b / c < 2 := Nat.div_lt_of_lt_mul (by omega)
    omega
  have z1 : ¬ c = 0 := by omega
  have z2 : ¬ (c : Int) = 0 := by omega
  have g2 : IntKind.i64.wrap ((b : Int).tdiv (c : Int)) = (nd : Int) := wrapI (by rw [hnd]; simp) (by omega)
  have g2' : IntKind.i64.wrap ((b : Int) / (c : Int)) = (nd : Int) := wrapI (by rw [hnd]; simp) (by omega)
  have g3 : ((b : Int).tmod (c : Int)) = (nm : Int) := by rw [hnm, Int.tmod_eq_emod_of_nonneg (by omega)]; simp
  have g3' : ((b : Int) % (c : Int)) = (nm : Int) := by rw [hnm]; simp
  have HD := hide hdm
  obtain ⟨Q, hQ⟩ : ∃ x, x = a * b / c := ⟨_, rfl⟩
  obtain ⟨R, hR⟩ : ∃ x, x = a * b % c := ⟨_, rfl⟩
  rw [← hQ, ← hR]
  have HQ := hide (And.intro hQ hR)
  clear hQ hR
  clear hnd hnm hdm
  go_enter Tryz.func50, Tryz.ntmps50
  go_wp2_with fail
  go_loop [8, 9, 10] (fun q r i => ∃ k q0 r0 : Nat, k ≤ 63 ∧ i = .int .i64 ((k : Int) - 1) ∧ q = .int .i64 q0 ∧ r = .int .i64 r0 ∧ Hid (TInv b c (a / 2 ^ k) q0 r0)) (fun _ _ i => (intOf i + 1).toNat)
  case atStart =>
    have h63 : a / 2 ^ 63 = 0 := Nat.div_eq_of_lt (by omega)
    exact ⟨63, 0, 0, by omega, by rfl, rfl, rfl, hide (by rw [h63]; exact ⟨by simp, hc0, by omega⟩)⟩
  case round =>
    obtain ⟨k, q0, r0, hk, rfl, rfl, rfl, HI⟩ := hrel
    rcases Nat.eq_zero_or_pos k with h0 | h0
    · subst h0
      have e1 : a / 2 ^ 0 = a := by simp
      have hE := (unhide HI).end_
      rw [e1, ← (unhide HQ).1, ← (unhide HQ).2] at hE
      have HE := hide hE
      clear hE e1 HI
      go_wp2_with fail
      go_ret2
      exact ⟨by rw [(unhide HE).1, (unhide HE).2]; rfl, rfl⟩
    · obtain ⟨j, rfl⟩ : ∃ j, k = j + 1 := ⟨k - 1, by omega⟩
      have i1 : (((j + 1 : Nat) : Int) - 1) = (j : Int) := by omega
      rw [i1]
      clear i1
      have i2 : (0 : Int) ≤ (j : Int) := by omega
      have hx := half_bit a j
      obtain ⟨x, hxe⟩ : ∃ x, x = a / 2 ^ (j + 1) := ⟨_, rfl⟩
      obtain ⟨x', hxe'⟩ : ∃ x, x = a / 2 ^ j := ⟨_, rfl⟩
      have hxa : x' ≤ a := by rw [hxe']; exact Nat.div_le_self _ _
      rw [← hxe, ← hxe'] at hx
      have hbit : bits .and .i64 ((a : Int) / 2 ^ j) 1 = ((x' % 2 : Nat) : Int) := by
        have := and_one x' (by omega)
        rw [← this, hxe']; simp
      obtain ⟨h1, h2, h3⟩ := unhide HI
      rw [← hxe] at h1
      obtain ⟨bt, hbt⟩ : ∃ b, b = x' % 2 := ⟨_, rfl⟩
      rw [← hbt] at hbit hx
      have hb01 : bt = 0 ∨ bt = 1 := by omega
      clear hbt hxe HI
      obtain ⟨q1, hq1⟩ : ∃ q, q = 2 * q0 := ⟨_, rfl⟩
      obtain ⟨r1, hr1⟩ : ∃ q, q = 2 * r0 := ⟨_, rfl⟩
      have m1 : IntKind.i64.wrap (2 * (q0 : Int)) = (q1 : Int) := wrapI (by omega) (by omega)
      have m2 : IntKind.i64.wrap (2 * (r0 : Int)) = (r1 : Int) := wrapI (by omega) (by omega)
      have hdbl : q1 * c + r1 = 2 * (x * b) := by rw [← h1, hq1, hr1, Nat.mul_assoc]; omega
      by_cases g1 : c ≤ r1
      · have d1 : decide ((c : Int) ≤ (r1 : Int)) = true := by rw [decide_eq_true_eq]; omega
        obtain ⟨q2, hq2⟩ : ∃ q, q = q1 + 1 := ⟨_, rfl⟩
        obtain ⟨r2, hr2⟩ : ∃ q, q = r1 - c := ⟨_, rfl⟩
        have m3 : IntKind.i64.wrap ((q1 : Int) + 1) = (q2 : Int) := wrapI (by omega) (by omega)
        have m4 : IntKind.i64.wrap ((r1 : Int) - (c : Int)) = (r2 : Int) := wrapI (by omega) (by omega)
        have hdb2 : q2 * c + r2 = 2 * (x * b) := by rw [← hdbl, hq2, hr2, Nat.add_mul, Nat.one_mul]; omega
        have hrc : r2 < c := by omega
        have hqb : q2 ≤ 4398046511105 := by omega
        clear hq2 hr2
        rcases hb01 with rfl | rfl
        · have hinv : TInv b c (a / 2 ^ j) q2 r2 := by rw [← hxe']; exact TInv.of ha hxa hbc (by rw [hx, Nat.add_zero, Nat.mul_assoc]; exact hdb2) hrc
          have HI := hide hinv
          clear hinv h1 h2 h3 hx hxe' hxa hq1 hr1 hdbl hdb2 hrc
          go_wp2_with fail
          go_round
          case rel => exact ⟨j, q2, r2, by omega, by go_num, rfl, rfl, HI⟩
          case measure => (simp [intOf] <;> omega)
        · obtain ⟨q3, hq3⟩ : ∃ q, q = q2 + nd := ⟨_, rfl⟩
          obtain ⟨r3, hr3⟩ : ∃ q, q = r2 + nm := ⟨_, rfl⟩
          have m5 : IntKind.i64.wrap ((q2 : Int) + (nd : Int)) = (q3 : Int) := wrapI (by omega) (by omega)
          have m6 : IntKind.i64.wrap ((r2 : Int) + (nm : Int)) = (r3 : Int) := wrapI (by omega) (by omega)
          have hdb3 : q3 * c + r3 = x' * b := by rw [hx, Nat.add_mul, Nat.one_mul, Nat.mul_assoc, ← hdb2, hq3, hr3, Nat.add_mul]; have := unhide HD; omega
          by_cases g5 : c ≤ r3
          · have d2 : decide ((c : Int) ≤ (r3 : Int)) = true := by rw [decide_eq_true_eq]; omega
            have d3 : (c : Int) ≤ (r3 : Int) := by omega
            obtain ⟨q4, hq4⟩ : ∃ q, q = q3 + 1 := ⟨_, rfl⟩
            obtain ⟨r4, hr4⟩ : ∃ q, q = r3 - c := ⟨_, rfl⟩
            have m7 : IntKind.i64.wrap ((q3 : Int) + 1) = (q4 : Int) := wrapI (by omega) (by omega)
            have m8 : IntKind.i64.wrap ((r3 : Int) - (c : Int)) = (r4 : Int) := wrapI (by omega) (by omega)
            have hinv : TInv b c (a / 2 ^ j) q4 r4 := by rw [← hxe']; exact TInv.of ha hxa hbc (by rw [← hdb3, hq4, hr4, Nat.add_mul, Nat.one_mul]; omega) (by omega)
            have HI := hide hinv
            clear hinv h1 h2 h3 hx hxe' hxa hq1 hr1 hdbl hdb2 hdb3 hrc hq3 hr3 hq4 hr4
            go_wp2_with fail
            go_round
            case rel => exact ⟨j, q4, r4, by omega, by go_num, rfl, rfl, HI⟩
            case measure => (simp [intOf] <;> omega)
          · have d2 : decide ((c : Int) ≤ (r3 : Int)) = false := by rw [decide_eq_false_iff_not]; omega
            have d3 : ¬ (c : Int) ≤ (r3 : Int) := by omega
            have hinv : TInv b c (a / 2 ^ j) q3 r3 := by rw [← hxe']; exact TInv.of ha hxa hbc hdb3 (by omega)
            have HI := hide hinv
            clear hinv h1 h2 h3 hx hxe' hxa hq1 hr1 hdbl hdb2 hdb3 hrc hq3 hr3
            go_wp2_with fail
            go_round
            case rel => exact ⟨j, q3, r3, by omega, by go_num, rfl, rfl, HI⟩
            case measure => (simp [intOf] <;> omega)
      · have d1 : decide ((c : Int) ≤ (r1 : Int)) = false := by rw [decide_eq_false_iff_not]; omega
        have hdb2 := hdbl
        have hrc : r1 < c := by omega
        have hqb : q1 ≤ 4398046511105 := by omega
        rcases hb01 with rfl | rfl
        · have hinv : TInv b c (a / 2 ^ j) q1 r1 := by rw [← hxe']; exact TInv.of ha hxa hbc (by rw [hx, Nat.add_zero, Nat.mul_assoc]; exact hdb2) hrc
          have HI := hide hinv
          clear hinv h1 h2 h3 hx hxe' hxa hq1 hr1 hdbl hdb2 hrc
          go_wp2_with fail
          go_round
          case rel => exact ⟨j, q1, r1, by omega, by go_num, rfl, rfl, HI⟩
          case measure => (simp [intOf] <;> omega)
        · obtain ⟨q3, hq3⟩ : ∃ q, q = q1 + nd := ⟨_, rfl⟩
          obtain ⟨r3, hr3⟩ : ∃ q, q = r1 + nm := ⟨_, rfl⟩
          have m5 : IntKind.i64.wrap ((q1 : Int) + (nd : Int)) = (q3 : Int) := wrapI (by omega) (by omega)
          have m6 : IntKind.i64.wrap ((r1 : Int) + (nm : Int)) = (r3 : Int) := wrapI (by omega) (by omega)
          have hdb3 : q3 * c + r3 = x' * b := by rw [hx, Nat.add_mul, Nat.one_mul, Nat.mul_assoc, ← hdb2, hq3, hr3, Nat.add_mul]; have := unhide HD; omega
          by_cases g5 : c ≤ r3
          · have d2 : decide ((c : Int) ≤ (r3 : Int)) = true := by rw [decide_eq_true_eq]; omega
            have d3 : (c : Int) ≤ (r3 : Int) := by omega
            obtain ⟨q4, hq4⟩ : ∃ q, q = q3 + 1 := ⟨_, rfl⟩
            obtain ⟨r4, hr4⟩ : ∃ q, q = r3 - c := ⟨_, rfl⟩
            have m7 : IntKind.i64.wrap ((q3 : Int) + 1) = (q4 : Int) := wrapI (by omega) (by omega)
            have m8 : IntKind.i64.wrap ((r3 : Int) - (c : Int)) = (r4 : Int) := wrapI (by omega) (by omega)
            have hinv : TInv b c (a / 2 ^ j) q4 r4 := by rw [← hxe']; exact TInv.of ha hxa hbc (by rw [← hdb3, hq4, hr4, Nat.add_mul, Nat.one_mul]; omega) (by omega)
            have HI := hide hinv
            clear hinv h1 h2 h3 hx hxe' hxa hq1 hr1 hdbl hdb2 hdb3 hrc hq3 hr3 hq4 hr4
            go_wp2_with fail
            go_round
            case rel => exact ⟨j, q4, r4, by omega, by go_num, rfl, rfl, HI⟩
            case measure => (simp [intOf] <;> omega)
          · have d2 : decide ((c : Int) ≤ (r3 : Int)) = false := by rw [decide_eq_false_iff_not]; omega
            have d3 : ¬ (c : Int) ≤ (r3 : Int) := by omega
            have hinv : TInv b c (a / 2 ^ j) q3 r3 := by rw [← hxe']; exact TInv.of ha hxa hbc hdb3 (by omega)
            have HI := hide hinv
            clear hinv h1 h2 h3 hx hxe' hxa hq1 hr1 hdbl hdb2 hdb3 hrc hq3 hr3
            go_wp2_with fail
            go_round
            case rel => exact ⟨j, q3, r3, by omega, by go_num, rfl, rfl, HI⟩
            case measure => (simp [intOf] <;> omega)
end Go.Proofs.YtgbheogmccfaaaaGreat
