/- Walk: the reference's Parts. -/
import Derived.Test.YtgalpdjmmpjddaaPartsP
namespace Go.Proofs.Ytgalpdjmmpjddaa
set_option linter.unusedVariables false
set_option linter.unusedSimpArgs false
open Go.RowKit

theorem gt41 {q : Nat} (h : 2199023255552 < q) : decide ((2199023255552 : Int) < (q : Int)) = true := by rw [decide_eq_true_eq]; omega
theorem ngt41 {q : Nat} (h : ¬ 2199023255552 < q) : decide ((2199023255552 : Int) < (q : Int)) = false := by rw [decide_eq_false_iff_not]; omega

set_option maxHeartbeats 2000000 in
set_option maxRecDepth 100000 in
theorem Parts_any (n num den : Nat) (w : World) (hn : n < 2199023255552) (hnum : num < 9223372036854775808) (hd0 : 1 ≤ den) (hd : den < 9223372036854775808) :
    Calls Try.prog 57 #[.int .i64 n, .int .i64 num, .int .i64 den] w fun e w' => e = .returned (partsV n num den) ∧ w = w' := by
  have z : ¬ den = 0 := by omega
  have g1 : IntKind.u64.wrap (den : Int) = (den : Int) := wrapU rfl (by omega)
  obtain ⟨nd, hnd⟩ : ∃ x, x = num / den := ⟨_, rfl⟩
  obtain ⟨nm, hnm⟩ : ∃ x, x = num % den := ⟨_, rfl⟩
  have hndb : nd ≤ num := by rw [hnd]; exact Nat.div_le_self _ _
  have hnmb : nm < den := by rw [hnm]; exact Nat.mod_lt _ (by omega)
  have g2 : IntKind.i64.wrap ((num : Int).tdiv (den : Int)) = (nd : Int) := wrapI (by rw [tdivN, hnd]) (by omega)
  have g2' : IntKind.i64.wrap ((num : Int) / (den : Int)) = (nd : Int) := wrapI (by rw [hnd]; simp) (by omega)
  have g3 : ((num : Int).tmod (den : Int)) = (nm : Int) := by rw [hnm, Int.tmod_eq_emod_of_nonneg (by omega)]; simp
  have g3' : ((num : Int) % (den : Int)) = (nm : Int) := by rw [hnm]; simp
  have g4 : IntKind.u64.wrap (nm : Int) = (nm : Int) := wrapU rfl (by omega)
  have HN := hide (And.intro hn (And.intro hnum (And.intro hd0 (And.intro hd (And.intro hnd hnm)))))
  clear hn hnum hd0 hd hndb hnmb hnd hnm
  go_enter Try.func57, Try.ntmps57
  go_wp2_with fail
  go_loop [8, 9, 10] (fun a b c => ∃ q r i : Nat, a = .int .i64 q ∧ b = .int .u64 r ∧ c = .int .i64 i ∧ i ≤ 41 ∧ Hid (PInv num den (n / 2 ^ (41 - i)) q r)) (fun a b c => 41 - (intOf c).toNat)
  case atStart =>
    obtain ⟨hn, hnum, hd0, hd, hnd, hnm⟩ := unhide HN
    refine ⟨0, 0, 0, rfl, rfl, rfl, by omega, hide ⟨?_, by omega, by omega⟩⟩
    rw [Nat.div_eq_of_lt (by omega)]; simp
  case round =>
    obtain ⟨q, r, i, rfl, rfl, rfl, hi, HI⟩ := hrel
    by_cases hlt : i < 41
    · obtain ⟨q3, r3, hdbl, hinv, hr3, hq3⟩ := dbl_of (unhide HI).2.2 (unhide HI).2.1 (unhide HN).2.2.2.1
      obtain ⟨m, hm⟩ : ∃ m, m = n / 2 ^ (41 - i) := ⟨_, rfl⟩
      obtain ⟨m', hm'⟩ : ∃ m, m = n / 2 ^ (40 - i) := ⟨_, rfl⟩
      have hmm : m' = 2 * m + m' % 2 := by
        rw [hm', hm]
        have := half_bit n (40 - i)
        rw [show 40 - i + 1 = 41 - i by omega] at this
        exact this
      have hmn : m' ≤ n := by rw [hm']; exact Nat.div_le_self _ _
      have hinv : q3 * den + r3 = 2 * (m * num) := by rw [hinv, (unhide HI).1, ← hm]
      have hbit : bits .and .i64 ((n : Int) / 2 ^ (40 - i)) 1 = ((m' % 2 : Nat) : Int) := by
        have := and_one m' (by have := (unhide HN).1; omega)
        rw [← this, hm']; simp
      have hnext : 41 - (i + 1) = 40 - i := by omega
      have HX := hide (And.intro hm' (And.intro hmm (And.intro hmn (And.intro hinv (And.intro hr3 (And.intro hq3 hnext))))))
      obtain ⟨bt, hbt⟩ : ∃ b, b = m' % 2 := ⟨_, rfl⟩
      rw [← hbt] at hbit
      have hb01 : bt = 0 ∨ bt = 1 := by omega
      have HB := hide hbt
      clear hbt hm hm' hmm hmn hinv hr3 hq3 hnext HI
      rcases hdbl with ⟨q2, r2, f1, f2, hc, f3, f4⟩ | ⟨f1, f2, hc⟩
      all_goals
        rcases hb01 with rfl | rfl
        · -- no bit
          by_cases hbig : 2199023255552 < q3
          · have hout := parts_big (n := n) (m := m') (unhide HN).2.2.1 (by obtain ⟨e1, e2, e3, e4, e5, e6, e7⟩ := unhide HX; rw [e4, e2, ← unhide HB, Nat.add_zero, Nat.mul_assoc]) (unhide HX).2.2.1 hbig
            have HO := hide hout; clear hout
            have hbig := gt41 hbig
            go_wp2_with fail
            go_ret2
            exact ⟨by rw [unhide HO]; rfl, rfl⟩
          · have hinv : PInv num den (n / 2 ^ (41 - (i + 1))) q3 r3 := by
              obtain ⟨e1, e2, e3, e4, e5, e6, e7⟩ := unhide HX
              refine ⟨?_, e5, by omega⟩
              rw [e7, ← e1, e4, e2, ← unhide HB, Nat.add_zero, Nat.mul_assoc]
            have HI := hide hinv; clear hinv
            have hbig := ngt41 hbig
            go_wp2_with fail
            go_round
            case rel => exact ⟨q3, r3, i + 1, rfl, rfl, by go_num, by omega, HI⟩
            case measure => simp [intOf]; omega
        · -- a bit
          by_cases hnb : 2199023255552 < nd
          · have hout := parts_big1 (n := n) (num := num) (den := den) (unhide HN).2.2.1 (by obtain ⟨e1, e2, e3, e4, e5, e6, e7⟩ := unhide HX; have := unhide HB; omega) (by rw [← (unhide HN).2.2.2.2.1]; exact hnb)
            have HO := hide hout; clear hout
            have hnb := gt41 hnb
            go_wp2_with fail
            go_ret2
            exact ⟨by rw [unhide HO]; rfl, rfl⟩
          · obtain ⟨q5, r5, hadd, hinv, hr5, hq5⟩ := add_of (q := q3) (r := r3) (den := den) (num := num) (unhide HX).2.2.2.2.2.1 (unhide HX).2.2.2.2.1 (unhide HN).2.2.2.1 (by rw [← (unhide HN).2.2.2.2.1]; omega)
            rw [← (unhide HN).2.2.2.2.1, ← (unhide HN).2.2.2.2.2] at hadd
            have hinv : q5 * den + r5 = m' * num := by
              obtain ⟨e1, e2, e3, e4, e5, e6, e7⟩ := unhide HX
              rw [hinv, e4, e2, ← unhide HB, Nat.add_mul, Nat.mul_assoc, Nat.one_mul]
            have HA := hide (And.intro hinv (And.intro hr5 hq5))
            clear hinv hr5 hq5
            have hnb := ngt41 hnb
            rcases hadd with ⟨q4, r4, k1, k2, kc, k3, k4⟩ | ⟨k1, k2, kc⟩
            all_goals
              by_cases hbig : 2199023255552 < q5
              · have hout := parts_big (n := n) (m := m') (unhide HN).2.2.1 (unhide HA).1 (unhide HX).2.2.1 hbig
                have HO := hide hout; clear hout
                have hbig := gt41 hbig
                go_wp2_with fail
                go_ret2
                exact ⟨by rw [unhide HO]; rfl, rfl⟩
              · have hinv : PInv num den (n / 2 ^ (41 - (i + 1))) q5 r5 := by
                  obtain ⟨e1, e2, e3, e4, e5, e6, e7⟩ := unhide HX
                  refine ⟨?_, (unhide HA).2.1, by omega⟩
                  rw [e7, ← e1]; exact (unhide HA).1
                have HI := hide hinv; clear hinv
                have hbig := ngt41 hbig
                go_wp2_with fail
                go_round
                case rel => exact ⟨q5, r5, i + 1, rfl, rfl, by go_num, by omega, HI⟩
                case measure => simp [intOf]; omega
    · have hend := parts_end (n := n) (num := num) (den := den) (q := q) (r := r) (by have := unhide HI; rwa [show 41 - i = 0 by omega, Nat.pow_zero, Nat.div_one] at this)
      have hr : IntKind.i64.wrap (r : Int) = (r : Int) := wrapI rfl (by have := (unhide HI).2.1; have := (unhide HN).2.2.2.1; omega)
      have HE := hide hend; clear hend
      go_wp2_with fail
      go_ret2
      exact ⟨by rw [unhide HE]; rfl, rfl⟩
end Go.Proofs.Ytgalpdjmmpjddaa
