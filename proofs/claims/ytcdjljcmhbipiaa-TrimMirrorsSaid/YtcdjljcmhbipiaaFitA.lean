/- Walks: the reference's 'Fit'. -/
import Derived.Test.YtcdjljcmhbipiaaTrimP
import Derived.Test.YtcdjljcmhbipiaaEqA
import Derived.Deep.QuietTactic
import Derived.BigQuiet
namespace Go.Proofs.Ytcdjljcmhbipiaa
open Go.RowKit

set_option maxHeartbeats 2000000 in
theorem Fit_any (s : Shp) (A : Option Addr) (xs : List Ld) (c : Nat) (w : World) (hs : s.name.size ≤ maxLen) (hl : LoadsIn w w.heap.size A xs) :
    Calls Try.prog 8 #[s.val, .slice A xs.length c] w
      fun e w' => e = .returned (.bool (fitB s xs)) ∧ Below w.heap.size w w' := by
  obtain ⟨nm, a1, a2, a3, a4, a5, a6, a7, a8⟩ := s
  obtain ⟨sv, hsv⟩ : ∃ sv : Shp, sv = ⟨nm, a1, a2, a3, a4, a5, a6, a7, a8⟩ := ⟨_, rfl⟩
  have e1 : sv.bays = a1 := by rw [hsv]
  have e2 : sv.rows = a2 := by rw [hsv]
  have e3 : sv.tiers = a3 := by rw [hsv]
  have hbd : shipOk sv = true → 1 ≤ a1 ∧ a1 ≤ 32 ∧ 1 ≤ a2 ∧ a2 ≤ 32 ∧ 1 ≤ a3 ∧ a3 ≤ 32 := fun h => by have := shipOk_bounds h; omega
  have hon : ∀ x, onOk sv x = (inB x.bay 0 (a1 - 1) && inB x.row 0 (a2 - 1) && inB x.tier 0 (a3 - 1) && inB x.wt 1 1048576) := fun x => by rw [← e1, ← e2, ← e3]; rfl
  have h1 := fun W => Ship_any nm a1 a2 a3 a4 a5 a6 a7 a8 W hs
  rw [← hsv] at h1 ⊢
  have hdef : fitB sv xs = (shipOk sv && decide (xs.length ≤ 4096) && fitGo sv [] xs) := rfl
  obtain ⟨n, hn⟩ : ∃ n, n = xs.length := ⟨_, rfl⟩
  rw [← hn] at hdef ⊢
  have HN := Lib.hid hn; clear hn
  have hv : Shp.val ⟨nm, a1, a2, a3, a4, a5, a6, a7, a8⟩ = .agg #[.string nm, .int .i64 a1, .int .i64 a2, .int .i64 a3, .int .i64 a4, .int .i64 a5, .int .i64 a6, .int .i64 a7, .int .i64 a8] := rfl
  rw [hsv] at hdef hbd hon h1 ⊢
  rw [hv]
  rw [← hsv] at hdef hbd hon h1 ⊢
  clear hsv hv e1 e2 e3
  have H1 := hide h1; clear h1
  have HL := hide hl; clear hl
  have HO := Lib.hid hon; clear hon
  generalize hr : shipOk sv = r at *
  have HD := Lib.hid hdef; clear hdef hr
  go_enter Try.func8, Try.ntmps8
  go_wp2_with fail
  refine (unhide H1 _).mono ?_; rintro e w1 ⟨rfl, hb⟩
  have hw1 := (Whole.made w 23 _).after hb
  have hb1 := ((Below.refl w.heap.size w).alloc (Nat.le_refl _) (.cells #[.string nm, .int .i64 a1, .int .i64 a2, .int .i64 a3, .int .i64 a4, .int .i64 a5, .int .i64 a6, .int .i64 a7, .int .i64 a8] 23)).trans (hb.mono (by simp))
  have HB := hide hb1; clear hb1 hb
  have HW := hide hw1; clear hw1
  cases r
  · clear hbd
    go_wp2_with fail
    all_goals (go_ret; exact ⟨ret_bool (by rw [HD.out]; simp), unhide HB⟩)
  · obtain ⟨b1, b2, b3, b4, b5, b6⟩ := hbd rfl
    by_cases hlen : n ≤ 4096
    · have hlen' : decide ((4096 : Int) < (n : Int)) = false := by simp; omega
      have hd2 : fitB sv xs = fitGo sv [] xs := by rw [HD.out]; simp [hlen]
      have HD := Lib.hid hd2; clear hd2 hbd
      go_wp2_with fail
      go_loopw [5] (fun i wr => ∃ k : Nat, k ≤ n ∧ i = .int .i64 k ∧ Below w.heap.size w wr ∧ Whole wr w.heap.size 23 #[.string nm, .int .i64 a1, .int .i64 a2, .int .i64 a3, .int .i64 a4, .int .i64 a5, .int .i64 a6, .int .i64 a7, .int .i64 a8] ∧ Hid (fitB sv xs = fitGo sv (xs.take k) (xs.drop k))) (fun i _ => n - (intOf i).toNat)
      case atStart => exact ⟨0, by omega, rfl, unhide HB, unhide HW, Lib.hid HD.out⟩
      case round =>
        obtain ⟨k, hk, rfl, hbw, hww, HF⟩ := hrel
        obtain ⟨wo, rfl⟩ : ∃ wo : World, wo = wr := ⟨_, rfl⟩
        by_cases hlt : k < n
        · obtain ⟨x, hx⟩ : ∃ x, xs[k]? = some x := ⟨xs[k]'(by rw [← HN.out]; exact hlt), List.getElem?_eq_getElem _⟩
          obtain ⟨b, off, rfl, hbb, c0, c1, c2, c3, c4, c5, c6⟩ := ((unhide HL).below hbw).at hx
          have HX := Lib.hid hx; clear hx
          have hsz := hww.lt
          have hsc := hww.cells
          have hst : fitB sv xs = (onOk sv x && free (xs.take k) x && fitGo sv (xs.take (k + 1)) (xs.drop (k + 1))) := by rw [HF.out]; exact fitGo_at sv xs k x HX.out
          rw [HO.out x] at hst
          have HS := Lib.hid hst; clear hst
          have HBW := hide hbw; clear hbw
          have HWW := hide hww; clear hww
          go_wp2_with (go_at_call 13; refine (In_any _ _ _ _).mono ?_; rintro e w' ⟨rfl, rfl⟩)
          all_goals try (go_ret; exact ⟨ret_bool (by rw [HS.out]; simp_all), (unhide HBW).alloc (unhide HBW).size _⟩)
          have hin : inB x.bay 0 (a1 - 1) = true ∧ inB x.row 0 (a2 - 1) = true ∧ inB x.tier 0 (a3 - 1) = true ∧ inB x.wt 1 1048576 = true := by simp_all
          have hst : fitB sv xs = (free (xs.take k) x && fitGo sv (xs.take (k + 1)) (xs.drop (k + 1))) := by rw [HS.out, hin.1, hin.2.1, hin.2.2.1, hin.2.2.2]; rfl
          have HS := Lib.hid hst; clear hst hin hsc c0 c1 c2 c3 c4 c5 c6
          have hx0 := Whole.made wo 33 #[.int .i64 x.bay, .int .i64 x.row, .int .i64 x.tier, .string x.box, .int .i64 x.wt, .int .i64 x.cls, .int .i64 x.port]
          have HX0 := hide hx0; clear hx0
          go_loopw [7] (fun i wr => ∃ j : Nat, j ≤ k ∧ i = .int .i64 j ∧ Below wo.heap.size wo wr ∧ Whole wr wo.heap.size 33 #[.int .i64 x.bay, .int .i64 x.row, .int .i64 x.tier, .string x.box, .int .i64 x.wt, .int .i64 x.cls, .int .i64 x.port] ∧ Hid (free (xs.take j) x = true)) (fun i _ => k - (intOf i).toNat)
          case atStart => exact ⟨0, by omega, rfl, (Below.refl _ _).alloc (Nat.le_refl _) _, unhide HX0, Lib.hid rfl⟩
          case round =>
            obtain ⟨j, hj, rfl, hbj, hwj, HJ⟩ := hrel
            by_cases hjk : j < k
            · obtain ⟨y, hy⟩ : ∃ y, xs[j]? = some y := ⟨xs[j]'(by rw [← HN.out]; omega), List.getElem?_eq_getElem _⟩
              obtain ⟨b', off', he, hbb', c0, c1, c2, c3, c4, c5, c6⟩ := ((unhide HL).below ((unhide HBW).trans (hbj.mono (unhide HBW).size))).at hy
              obtain ⟨rfl, rfl⟩ : b' = b ∧ off' = off := by simpa [eq_comm] using he
              clear he
              have HY := Lib.hid hy; clear hy
              have hsc := hwj.cells
              have HBJ := hide hbj; clear hbj
              have HWJ := hide hwj; clear hwj
              have hjn : (j : Int) < (n : Int) := by omega
              have heqs := eqSlot y.bay y.row y.tier x.bay x.row x.tier
              go_wp2_with fail
              go_quiet (fail)
              go_wp2_with fail
              · go_ret
                have hsame : sameSlot y x = true := by unfold sameSlot; simp; omega
                have hb2 : Below w.heap.size w (wr.drewN nq) := (unhide HBW).trans ((below_drewN (unhide HBJ) nq).mono (unhide HBW).size)
                exact ⟨ret_bool (by rw [HS.out, free_not xs k j x y hjk HY.out hsame]; rfl), hb2⟩
              · have hsame : sameSlot y x = false := by unfold sameSlot; rw [Bool.eq_false_iff]; simp; omega
                go_roundw
                case rel => exact ⟨j + 1, by omega, by go_num, below_drewN (unhide HBJ) nq, unhide HWJ, Lib.hid (by rw [free_succ xs j x y HY.out, HJ.out, hsame]; rfl)⟩
                case measure => simp [intOf]; omega
            · obtain rfl : j = k := by omega
              have hst : fitB sv xs = fitGo sv (xs.take (j + 1)) (xs.drop (j + 1)) := by rw [HS.out, HJ.out]; rfl
              have HS := Lib.hid hst; clear hst
              have hb2 : Below w.heap.size w wr := (unhide HBW).trans (hbj.mono (unhide HBW).size)
              have hw2 := (unhide HWW).after hbj
              have HB2 := hide hb2; clear hb2 hbj
              have HW2 := hide hw2; clear hw2 hwj
              go_wp2_with fail
              go_roundw
              case rel => exact ⟨j + 1, by omega, by go_num, unhide HB2, unhide HW2, Lib.hid HS.out⟩
              case measure => simp [intOf]; omega
        · have hst : fitB sv xs = true := by rw [HF.out, List.drop_eq_nil_of_le (by rw [← HN.out]; omega)]; rfl
          have HS := Lib.hid hst; clear hst
          have HBW := hide hbw; clear hbw
          go_wp2_with fail
          go_ret
          exact ⟨ret_bool HS.out.symm, unhide HBW⟩
    · have hst : fitB sv xs = false := by rw [HD.out]; simp [hlen]
      have HS := Lib.hid hst; clear hst hbd HD
      have hlen' : decide ((4096 : Int) < (n : Int)) = true := by simp; omega
      go_wp2_with fail
      all_goals (go_ret; exact ⟨ret_bool HS.out.symm, unhide HB⟩)
end Go.Proofs.Ytcdjljcmhbipiaa
