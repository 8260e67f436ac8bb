/- Walk: what each one gets of a pot. (printed by gen_money.py) -/
import Derived.Test.YtgbheogmccfaaaaGreatMnB
namespace Go.Proofs.YtgbheogmccfaaaaGreat
set_option linter.unusedVariables false
set_option linter.unusedSimpArgs false
open Go.RowKit

set_option maxHeartbeats 16000000 in
set_option maxRecDepth 100000 in
theorem Money_ok (l : List Cl) (A : Option Addr) (n c pot : Nat) (w : World) (hn : n = l.length) (hok : OkL l) (ht : ∀ x ∈ l, Txt x) (hp : pot ≤ 1099511627776) (hx : ListIn clR w w.heap.size A l) :
    Calls Tryz.prog 18 #[.int .i64 pot, .slice A n c] w fun e w' => ∃ p, e = .returned (.tuple #[.slice (some ⟨p, 0, none⟩) n n, .int .i64 (potM pot l 5), .int .i64 0]) ∧ Whole w' p 2 (numA .i64 (roundsM pot l 5).1) ∧ Below w.heap.size w w' := by
  have hlen : n ≤ 4096 := by rw [hn]; exact hok.2
  have hw0 : wrongC l = 0 := by
    unfold wrongC
    have h1 : l.any badC = false := by
      rw [List.any_eq_false]; intro x hx; simp [badC, hok.1 x hx]
    rw [h1, if_neg (by simp), if_neg (by have := hok.2; omega)]
  have HA := hide (all_any l A n c w hn (by omega) hx ht)
  rw [hw0] at HA
  have HN := hide hn; have HX := hide hx; have HOK := hide hok
  have m1 := mk_i64 n (by omega)
  have hp1 : decide ((pot : Int) < 0) = false := by rw [decide_eq_false_iff_not]; omega
  have hp2 : decide (1099511627776 < (pot : Int)) = false := by rw [decide_eq_false_iff_not]; omega
  obtain ⟨i0, hi0, hz0, hz1, hz2⟩ := info_parts info_int
  obtain ⟨i6, hj0, hj1, hj2, hj3⟩ := info_parts info_i64
  have HI := hide (And.intro hi0 (And.intro hz0 (And.intro hz1 hz2)))
  have HJ := hide (And.intro hj0 (And.intro hj1 (And.intro hj2 hj3)))
  clear hn hok hx ht hw0 hi0 hz0 hz1 hz2 hj0 hj1 hj2 hj3
  go_enter Tryz.func18, Tryz.ntmps18
  go_wp2_with fail
  (with_reducible refine (unhide HA).mono ?_); rintro e w1 ⟨rfl, hb⟩
  have HB := hide hb
  have HP1 := hide (Whole.made w1 2 (numA .i64 (List.replicate n 0)))
  clear hb HA
  go_wp2_with fail
  go_loopw [0, 35] (fun v i wr => ∃ r : Nat, r ≤ 5 ∧ i = .int .i64 r ∧ v = .int .i64 (potM pot l r : Nat) ∧ Below w.heap.size w wr ∧ Whole wr w1.heap.size 2 (numA .i64 (roundsM pot l r).1)) (fun _ i _ => 5 - (intOf i).toNat)
  case atStart =>
    exact ⟨0, by omega, rfl, rfl, (unhide HB).alloc (unhide HB).size _, by show Whole _ _ _ (numA .i64 (List.replicate l.length 0)); rw [← unhide HN]; exact unhide HP1⟩
  case round =>
    obtain ⟨r, hr5, rfl, rfl, hb, kP⟩ := hrel
    obtain ⟨wo, rfl⟩ : ∃ wo : World, wo = wr := ⟨_, rfl⟩
    have hpB := (unhide HB).size
    clear HP1 HB
    generalize w1.heap.size = p at *
    have hrl : (roundsM pot l r).1.length = n := by rw [rounds_length, unhide HN]
    have hpm := pot_le pot l r
    have hnx1 : (roundsM pot l (r + 1)).1 = setAll (roundsM pot l r).1 (placesFrom r 0 l) (partsR (potM pot l r) (amountsOf r l)) := rfl
    have hnx2 : potM pot l (r + 1) = potM pot l r - min (amountsOf r l).sum (potM pot l r) := rfl
    have HB := hide hb; have HKP := hide kP; have HPB := hide hpB; have HNX := hide (And.intro hnx1 hnx2); have HRL := hide hrl
    obtain ⟨pr, hpr⟩ : ∃ q, q = potM pot l r := ⟨_, rfl⟩
    rw [← hpr] at hpm ⊢
    have HPR := hide hpr
    have hplt := kP.lt
    clear hb kP hpB hnx1 hnx2 hrl hpr
    by_cases hlt : r < 5
    · have r1 : (r : Int) < 5 := by omega
      go_wp2_with fail
      go_loopw [10, 11, 12, 40] (fun v1 v2 s i wr => ∃ (k : Nat) (u1 u2 : Value), u1 = v1 ∧ u2 = v2 ∧ k ≤ n ∧ i = .int .i64 k ∧ s = .int .i64 ((amountsOf r (l.take k)).sum : Nat) ∧ Hid (Two wo wr u1 u2 (placesFrom r 0 (l.take k)) (amountsOf r (l.take k)))) (fun _ _ _ i _ => n - (intOf i).toNat)
      case atStart => exact ⟨0, _, _, rfl, rfl, by omega, rfl, rfl, hide (Two.start wo)⟩
      case round =>
        obtain ⟨k, v1, v2, rfl, rfl, hk, rfl, rfl, HT⟩ := hrel
        obtain ⟨wb, rfl⟩ : ∃ wb : World, wb = wr := ⟨_, rfl⟩
        by_cases hkn : k < n
        · obtain ⟨x, hx⟩ : ∃ x, l[k]? = some x := ⟨l[k]'(by rw [← unhide HN]; exact hkn), List.getElem?_eq_getElem _⟩
          obtain ⟨b, off, rfl, hbb, c0, c1, c2, c3, c4⟩ := cl_at ((unhide HX).below ((unhide HB).trans ((unhide HT).bel.mono (unhide HB).size))) hx
          have hmay := mayC_true ((unhide HOK).1 x (List.mem_of_getElem? hx))
          have ha := am_step (r : Int) hx
          have hpl := pl_step (r : Int) hx
          have hlenP : (placesFrom r 0 (l.take k)).length ≤ 4096 := by rw [places_length]; exact Nat.le_trans (am_len _) ((unhide HOK).take k).2
          have hlenA : (amountsOf r (l.take k)).length ≤ 4096 := Nat.le_trans (am_len _) ((unhide HOK).take k).2
          have hs1 := am_sum (r : Int) ((unhide HOK).take (k + 1))
          obtain ⟨nm, th, rt, dy, am0⟩ := x
          dsimp only at c0 c1 c2 c3 c4 ha hpl hmay
          obtain ⟨am, ham⟩ : ∃ a : Nat, am0 = (a : Int) := ⟨am0.toNat, by omega⟩
          subst ham
          rw [Int.toNat_natCast] at ha
          have i1 : (0 : Int) ≤ (k : Int) := by omega
          have i2 : (k : Int) < (n : Int) := by omega
          by_cases hrt : rt = (r : Int)
          · rw [if_pos hrt] at ha hpl
            have hsum : (amountsOf r (l.take (k + 1))).sum = (amountsOf r (l.take k)).sum + am := by rw [ha]; simp
            obtain ⟨s0, hs0⟩ : ∃ s, s = (amountsOf r (l.take k)).sum := ⟨_, rfl⟩
            obtain ⟨s1, hs1'⟩ : ∃ s, s = (amountsOf r (l.take (k + 1))).sum := ⟨_, rfl⟩
            rw [← hs1'] at hs1
            rw [← hs0, ← hs1'] at hsum
            rw [← hs0]
            have HS1 := hide hs1'
            have cw : IntKind.i64.wrap ((s0 : Int) + (am : Int)) = (s1 : Int) := by rw [hsum, IntWalk.i64_in _ (by omega)]; omega
            have q1 : (rt == (r : Int)) = true := by simpa using hrt
            have q2 : decide (rt = (r : Int)) = true := by simpa using hrt
            have HST := hide (And.intro ha hpl)
            obtain ⟨ys, hys⟩ : ∃ ys, ys = placesFrom r 0 (l.take k) := ⟨_, rfl⟩
            obtain ⟨zs, hzs⟩ : ∃ zs, zs = amountsOf r (l.take k) := ⟨_, rfl⟩
            rw [← hys] at hlenP HT HST
            rw [← hzs] at hlenA HT HST
            have NX := hide (And.intro ((unhide HT).far1 (Nat.le_refl _)) ((unhide HT).far2 (Nat.le_refl _)))
            have FB := hide (And.intro (fun b h => (unhide HT).far1 (b := b) h) (fun b h => (unhide HT).far2 (b := b) h))
            clear ha hpl hsum hs0 hs1' hys hzs hmay hx hrt
            go_wp2_with fail
            have TW := hide (((unhide HT).alloc (.cells #[.string nm, .string th, .int .i64 rt, .int .i64 dy, .int .i64 am] 23)).drew)
            have KX := hide ((Whole.made wb 23 #[.string nm, .string th, .int .i64 rt, .int .i64 dy, .int .i64 am]).drew)
            have SZ : Hid (wb.heap.size + 1 ≤ (wb.alloc (.cells #[.string nm, .string th, .int .i64 rt, .int .i64 dy, .int .i64 am] 23)).drew.heap.size) := hide (by simp)
            have hxc := (unhide KX).cells 4
            simp only [List.getElem?_toArray, List.getElem?_cons_zero, List.getElem?_cons_succ] at hxc
            clear HT
            generalize wb.alloc (.cells #[.string nm, .string th, .int .i64 rt, .int .i64 dy, .int .i64 am] 23) = Wx at *
            obtain ⟨hi0, hz0, hz1, hz2⟩ := unhide HI
            obtain ⟨hj0, hj1, hj2, hj3⟩ := unhide HJ
            go_region_held3 (fun w' => w'.cell? ⟨wb.heap.size, 4, none⟩ = some (.int .i64 am)) (first | (exact (unhide KX).cells 4) | (exact ((unhide KX).alloc _).cells 4) | (exact (((unhide KX).alloc _).alloc _).cells 4) | (go_keep; done))
              ((first
                | (refine step_append_src _ (by rfl) (.tmp 49) (.tmp 51) 57 (by rfl) wo.heap.size 3 i0 _ 1 8 Tryz.underlying57 hi0 hz0 hz1 hz2 rfl (by omega) (by rfl) ((unhide TW).alloc (.cells #[.int .i64 k] 3)).o1 (by rfl) (num_src _ k 3 _ rfl) (num_one .i64 _) (by unfold maxLen; omega) (by omega) ((unhide TW).alloc (.cells #[.int .i64 k] 3)).bel.size ?_
                   intro v6 w6 own1 hg1 hat1
                   have TW := hide (((unhide TW).alloc (.cells #[.int .i64 k] 3)).app1 k own1 hg1 hat1)
                   have KX := hide (whole_kept ((unhide KX).alloc (.cells #[.int .i64 k] 3)) hg1 (unhide NX).1)
                   have SZ := hide (Nat.le_trans (unhide SZ) (Nat.le_trans (by simp <;> omega) hg1.size))
                   clear own1 hg1 hat1)
                | (refine step_append_src _ (by rfl) (.tmp 49) (.tmp 51) 57 (by rfl) wo.heap.size 3 i0 _ 1 8 Tryz.underlying57 hi0 hz0 hz1 hz2 rfl (by omega) (by rfl) (((unhide TW).alloc (.cells #[.int .i64 k] 3)).alloc (.cells #[.int .i64 am] 2)).o1 (by rfl) (num_whole k ((two_new1 (unhide TW) 3 #[.int .i64 k]).alloc (.cells #[.int .i64 am] 2))) (num_one .i64 _) (by unfold maxLen; omega) (by omega) (((unhide TW).alloc (.cells #[.int .i64 k] 3)).alloc (.cells #[.int .i64 am] 2)).bel.size ?_
                   intro v6 w6 own1 hg1 hat1
                   have KY := hide (whole_kept (two_new2 (unhide TW) (.cells #[.int .i64 k] 3) 2 #[.int .i64 am]) hg1 ((unhide FB).1 _ (Nat.le_trans (Nat.le_of_succ_le (unhide SZ)) (Nat.le_succ _))))
                   have TW := hide ((((unhide TW).alloc (.cells #[.int .i64 k] 3)).alloc (.cells #[.int .i64 am] 2)).app1 k own1 hg1 hat1)
                   have KX := hide (whole_kept (((unhide KX).alloc (.cells #[.int .i64 k] 3)).alloc (.cells #[.int .i64 am] 2)) hg1 (unhide NX).1)
                   have SZ := hide (Nat.le_trans (unhide SZ) (Nat.le_trans (by simp <;> omega) hg1.size))
                   clear own1 hg1 hat1)
                | (refine step_append_src _ (by rfl) (.tmp 49) (.tmp 51) 57 (by rfl) wo.heap.size 3 i0 _ 1 8 Tryz.underlying57 hi0 hz0 hz1 hz2 rfl (by omega) (by rfl) (((unhide TW).alloc (.cells #[.int .i64 am] 2)).alloc (.cells #[.int .i64 k] 3)).o1 (by rfl) (num_whole k (two_new2 (unhide TW) (.cells #[.int .i64 am] 2) 3 #[.int .i64 k])) (num_one .i64 _) (by unfold maxLen; omega) (by omega) (((unhide TW).alloc (.cells #[.int .i64 am] 2)).alloc (.cells #[.int .i64 k] 3)).bel.size ?_
                   intro v6 w6 own1 hg1 hat1
                   have KY := hide (whole_kept ((two_new1 (unhide TW) 2 #[.int .i64 am]).alloc (.cells #[.int .i64 k] 3)) hg1 ((unhide FB).1 _ (Nat.le_of_succ_le (unhide SZ))))
                   have TW := hide ((((unhide TW).alloc (.cells #[.int .i64 am] 2)).alloc (.cells #[.int .i64 k] 3)).app1 k own1 hg1 hat1)
                   have KX := hide (whole_kept (((unhide KX).alloc (.cells #[.int .i64 am] 2)).alloc (.cells #[.int .i64 k] 3)) hg1 (unhide NX).1)
                   have SZ := hide (Nat.le_trans (unhide SZ) (Nat.le_trans (by simp <;> omega) hg1.size))
                   clear own1 hg1 hat1)
                | (refine step_append_src _ (by rfl) (.tmp 49) (.tmp 51) 57 (by rfl) wo.heap.size 3 i0 _ 1 8 Tryz.underlying57 hi0 hz0 hz1 hz2 rfl (by omega) (by rfl) (unhide TW).o1 (by rfl) (num_whole k (unhide KY)) (num_one .i64 _) (by unfold maxLen; omega) (by omega) (unhide TW).bel.size ?_
                   intro v6 w6 own1 hg1 hat1
                   have TW := hide ((unhide TW).app1 k own1 hg1 hat1)
                   have KX := hide (whole_kept (unhide KX) hg1 (unhide NX).1)
                   have SZ := hide (Nat.le_trans (unhide SZ) hg1.size)
                   clear own1 hg1 hat1)
                | (refine step_append_src _ (by rfl) (.tmp 53) (.tmp 56) 35 (by rfl) wo.heap.size 2 i6 _ 1 8 Tryz.underlying35 hj0 hj1 hj2 hj3 rfl (by omega) (by rfl) ((unhide TW).alloc (.cells #[.int .i64 am] 2)).o2 (by rfl) (num_src _ am 2 _ rfl) (num_one .i64 _) (by unfold maxLen; omega) (by omega) ((unhide TW).alloc (.cells #[.int .i64 am] 2)).bel.size ?_
                   intro v6 w6 own1 hg1 hat1
                   have TW := hide (((unhide TW).alloc (.cells #[.int .i64 am] 2)).app2 am own1 hg1 hat1)
                   have KX := hide (whole_kept ((unhide KX).alloc (.cells #[.int .i64 am] 2)) hg1 (unhide NX).2)
                   have SZ := hide (Nat.le_trans (unhide SZ) (Nat.le_trans (by simp <;> omega) hg1.size))
                   clear own1 hg1 hat1)
                | (refine step_append_src _ (by rfl) (.tmp 53) (.tmp 56) 35 (by rfl) wo.heap.size 2 i6 _ 1 8 Tryz.underlying35 hj0 hj1 hj2 hj3 rfl (by omega) (by rfl) (((unhide TW).alloc (.cells #[.int .i64 am] 2)).alloc (.cells #[.int .i64 k] 3)).o2 (by rfl) (num_whole am ((two_new1 (unhide TW) 2 #[.int .i64 am]).alloc (.cells #[.int .i64 k] 3))) (num_one .i64 _) (by unfold maxLen; omega) (by omega) (((unhide TW).alloc (.cells #[.int .i64 am] 2)).alloc (.cells #[.int .i64 k] 3)).bel.size ?_
                   intro v6 w6 own1 hg1 hat1
                   have KY := hide (whole_kept (two_new2 (unhide TW) (.cells #[.int .i64 am] 2) 3 #[.int .i64 k]) hg1 ((unhide FB).2 _ (Nat.le_trans (Nat.le_of_succ_le (unhide SZ)) (Nat.le_succ _))))
                   have TW := hide ((((unhide TW).alloc (.cells #[.int .i64 am] 2)).alloc (.cells #[.int .i64 k] 3)).app2 am own1 hg1 hat1)
                   have KX := hide (whole_kept (((unhide KX).alloc (.cells #[.int .i64 am] 2)).alloc (.cells #[.int .i64 k] 3)) hg1 (unhide NX).2)
                   have SZ := hide (Nat.le_trans (unhide SZ) (Nat.le_trans (by simp <;> omega) hg1.size))
                   clear own1 hg1 hat1)
                | (refine step_append_src _ (by rfl) (.tmp 53) (.tmp 56) 35 (by rfl) wo.heap.size 2 i6 _ 1 8 Tryz.underlying35 hj0 hj1 hj2 hj3 rfl (by omega) (by rfl) (((unhide TW).alloc (.cells #[.int .i64 k] 3)).alloc (.cells #[.int .i64 am] 2)).o2 (by rfl) (num_whole am (two_new2 (unhide TW) (.cells #[.int .i64 k] 3) 2 #[.int .i64 am])) (num_one .i64 _) (by unfold maxLen; omega) (by omega) (((unhide TW).alloc (.cells #[.int .i64 k] 3)).alloc (.cells #[.int .i64 am] 2)).bel.size ?_
                   intro v6 w6 own1 hg1 hat1
                   have KY := hide (whole_kept ((two_new1 (unhide TW) 3 #[.int .i64 k]).alloc (.cells #[.int .i64 am] 2)) hg1 ((unhide FB).2 _ (Nat.le_of_succ_le (unhide SZ))))
                   have TW := hide ((((unhide TW).alloc (.cells #[.int .i64 k] 3)).alloc (.cells #[.int .i64 am] 2)).app2 am own1 hg1 hat1)
                   have KX := hide (whole_kept (((unhide KX).alloc (.cells #[.int .i64 k] 3)).alloc (.cells #[.int .i64 am] 2)) hg1 (unhide NX).2)
                   have SZ := hide (Nat.le_trans (unhide SZ) (Nat.le_trans (by simp <;> omega) hg1.size))
                   clear own1 hg1 hat1)
                | (refine step_append_src _ (by rfl) (.tmp 53) (.tmp 56) 35 (by rfl) wo.heap.size 2 i6 _ 1 8 Tryz.underlying35 hj0 hj1 hj2 hj3 rfl (by omega) (by rfl) (unhide TW).o2 (by rfl) (num_whole am (unhide KY)) (num_one .i64 _) (by unfold maxLen; omega) (by omega) (unhide TW).bel.size ?_
                   intro v6 w6 own1 hg1 hat1
                   have TW := hide ((unhide TW).app2 am own1 hg1 hat1)
                   have KX := hide (whole_kept (unhide KX) hg1 (unhide NX).2)
                   have SZ := hide (Nat.le_trans (unhide SZ) hg1.size)
                   clear own1 hg1 hat1)))
            all_goals
              clear hxc hi0 hz0 hz1 hz2 hj0 hj1 hj2 hj3
              go_wp2_with fail
              go_roundw
              case rel => exact ⟨k + 1, _, _, rfl, rfl, by omega, by go_num, by rw [unhide HS1], by rw [(unhide HST).1, (unhide HST).2]; exact TW⟩
              case measure => simp [intOf]; omega
          · rw [if_neg hrt, List.append_nil] at ha hpl
            have q1 : (rt == (r : Int)) = false := by simpa using hrt
            have q2 : decide (rt = (r : Int)) = false := by simpa using hrt
            have HST := hide (And.intro ha hpl)
            clear ha hpl hs1 hmay hx hrt
            go_wp2_with fail
            go_roundw
            case rel => exact ⟨k + 1, _, _, rfl, rfl, by omega, by go_num, by rw [(unhide HST).1], by rw [(unhide HST).1, (unhide HST).2]; exact hide ((unhide HT).alloc _)⟩
            case measure => simp [intOf]; omega
        · have hkn' : k = n := by omega
          subst hkn'
          have hfull : l.take k = l := List.take_of_length_le (by rw [← unhide HN]; omega)
          rw [hfull] at HT ⊢
          clear hfull
          have hTw := unhide HT
          obtain ⟨A1, c1, rfl, hc1, hN1⟩ := nums_own hTw.o1 rfl hplt
          obtain ⟨A2, c2, rfl, hc2, hN2⟩ := nums_own hTw.o2 rfl hplt
          have hL2 := list_num hTw.o2
          have hKP := (unhide HKP).after hTw.bel
          have hBW := (unhide HB).trans (hTw.bel.mono (unhide HB).size)
          have hpwl : p < wb.heap.size := Nat.lt_of_lt_of_le hplt hTw.bel.size
          have hpl := places_length (r : Int) l 0
          have hge := places_ge (r : Int) l 0
          have hsm := am_small (r : Int) (unhide HOK)
          have hal : (amountsOf r l).length ≤ 4096 := Nat.le_trans (am_len _) (unhide HOK).2
          have hs52 := am_sum (r : Int) (unhide HOK)
          have hn1 := (unhide HNX).1
          have hn2 := (unhide HNX).2
          rw [← unhide HPR] at hn1 hn2
          obtain ⟨is, his⟩ : ∃ is, is = placesFrom r 0 l := ⟨_, rfl⟩
          obtain ⟨am, ham⟩ : ∃ am, am = amountsOf r l := ⟨_, rfl⟩
          rw [← his] at hpl hge hN1 hn1 ⊢
          rw [← ham] at hpl hsm hal hs52 hN2 hL2 hn1 hn2 ⊢
          obtain ⟨out0, ho0⟩ : ∃ q, q = (roundsM pot l r).1 := ⟨_, rfl⟩
          have hol := unhide HRL
          rw [← ho0] at hn1 hKP hol
          obtain ⟨S, hS⟩ : ∃ S, S = am.sum := ⟨_, rfl⟩
          rw [← hS] at hs52 hn2 ⊢
          obtain ⟨p1, hp1'⟩ : ∃ q, q = potM pot l (r + 1) := ⟨_, rfl⟩
          obtain ⟨kk, hkk⟩ : ∃ q, q = is.length := ⟨_, rfl⟩
          obtain ⟨ak, hak⟩ : ∃ q, q = am.length := ⟨_, rfl⟩
          rw [← hkk, ← hak] at hpl ⊢
          rw [← hak] at hal
          have hplen := partsR_length pr am
          obtain ⟨ps, hps⟩ : ∃ ps, ps = partsR pr am := ⟨_, rfl⟩
          rw [← hps] at hn1 hplen
          rw [← hp1'] at hn2
          have HGE := hide hge; have HSM := hide hsm; have HS := hide hS; have HN1 := hide hN1; have HN2 := hide hN2; have HL2 := hide hL2
          have HKQ := hide hKP; have HBQ := hide hBW; have HO := hide (And.intro hn1 (And.intro ho0 hol)); have HP1 := hide hp1'; have HLEN := hide (And.intro hkk (And.intro hak hplen)); have HPS := hide hps
          clear hTw hN1 hN2 hL2 hKP hBW hge hsm hn1 ho0 hol hp1' hkk hak hplen hps his ham HT hS
          by_cases hgt : pr < S
          · have t0 : decide ((pr : Int) < (S : Int)) = true := by rw [decide_eq_true_eq]; omega
            have hSp := Split_any pr am A2 ak c2 wb (unhide HLEN).2.1 hal (by rw [← unhide HS]; omega) (unhide HSM) (by omega) (unhide HL2)
            have HSp := hide hSp
            have he : ps = splitN pr am := by rw [unhide HPS]; unfold partsR; rw [if_pos (by rw [← unhide HS]; exact hgt)]
            rw [← he] at HSp
            have cw : IntKind.i64.wrap ((pr : Int) - (pr : Int)) = (p1 : Int) := by rw [IntWalk.i64_in _ (by omega)]; omega
            have hz1 : p1 = 0 := by omega
            have HZ := hide hz1
            clear hSp he hn2 hz1
            go_wp2_with fail
            (with_reducible refine (unhide HSp).mono ?_); rintro e w5 ⟨p2, rfl, kW, hp2, hb5⟩
            have HN3 := hide (nums_whole kW (p := p) (by omega))
            have HN5 := hide ((unhide HN1).below hb5)
            have HK5 := hide ((unhide HKQ).after hb5)
            have HB5 := hide ((unhide HBQ).trans (hb5.mono (unhide HBQ).size))
            clear kW hp2 hb5 HSp t0
            go_wp2_with fail
            go_loopw [75] (fun i wr => ∃ j : Nat, j ≤ kk ∧ i = .int .i64 j ∧ Below w.heap.size w wr ∧ Whole wr p 2 (numA .i64 (setAll out0 (is.take j) (ps.take j))) ∧ NumsAt wr p A1 is ∧ NumsAt wr p (some ⟨p2, 0, none⟩) ps) (fun i _ => kk - (intOf i).toNat)
            case atStart => exact ⟨0, by omega, rfl, unhide HB5, by simpa [setAll] using unhide HK5, unhide HN5, unhide HN3⟩
            case round =>
              obtain ⟨j, hj, rfl, hb, kP, hN1, hN3⟩ := hrel
              obtain ⟨wm, rfl⟩ : ∃ W : World, W = wr := ⟨_, rfl⟩
              by_cases hjk : j < kk
              · obtain ⟨x, hx⟩ : ∃ x, is[j]? = some x := ⟨is[j]'(by rw [← (unhide HLEN).1]; exact hjk), List.getElem?_eq_getElem _⟩
                obtain ⟨y, hy⟩ : ∃ y, ps[j]? = some y := ⟨ps[j]'(by rw [(unhide HLEN).2.2, ← (unhide HLEN).2.1]; omega), List.getElem?_eq_getElem _⟩
                obtain ⟨b1, e1, hb1, g1⟩ := nums_at hN1 hx
                obtain ⟨b2, e2, hb2, g2⟩ := nums_at hN3 hy
                have hxn : x < k := by have := (unhide HGE x (List.mem_of_getElem? hx)).2; rw [unhide HN]; omega
                have hsl := setAll_length (is.take j) (ps.take j) out0
                rw [(unhide HO).2.2] at hsl
                obtain ⟨z, hz⟩ : ∃ z, (setAll out0 (is.take j) (ps.take j))[x]? = some z := ⟨(setAll out0 (is.take j) (ps.take j))[x]'(by rw [hsl]; exact hxn), List.getElem?_eq_getElem _⟩
                have gP := kP.cells x
                rw [numA_get, hz] at gP
                simp only [Option.map_some] at gP
                have sP := kP.soft x
                have kP6 := kP.put x (.int .i64 y)
                rw [numA_set, ← setAll_take is ps out0 j x y hx hy] at kP6
                have b6 := hb.setCell (p := ⟨p, x, none⟩) (by show w.heap.size ≤ p; exact unhide HPB) (.int .i64 y)
                have H6 := hide (And.intro b6 (And.intro kP6 (And.intro (hN1.put x (.int .i64 y)) (hN3.put x (.int .i64 y)))))
                rw [e1] at H6 ⊢
                cases e2
                have j1 : (0 : Int) ≤ (j : Int) := by omega
                have j2 : (j : Int) < (kk : Int) := by omega
                have j5 : (j : Int) < (ak : Int) := by omega
                have j3 : (0 : Int) ≤ (x : Int) := by omega
                have j4 : (x : Int) < (k : Int) := by omega
                clear hx hy hz hsl kP kP6 b6 hb hN1 hN3 hxn
                go_wp2_with fail
                go_roundw
                case rel => exact ⟨j + 1, by omega, by go_num, (unhide H6).1, (unhide H6).2.1, by first | exact (unhide H6).2.2.1 | (rw [e1]; exact (unhide H6).2.2.1), by first | exact (unhide H6).2.2.2 | (rw [e2]; exact (unhide H6).2.2.2)⟩
                case measure => simp [intOf]; omega
              · have hjk2 : j = kk := by omega
                subst hjk2
                rw [List.take_of_length_le (by have := (unhide HLEN).1; omega), List.take_of_length_le (by rw [(unhide HLEN).2.2, ← (unhide HLEN).2.1]; omega), ← (unhide HO).1] at kP
                have HF := hide (And.intro hb kP)
                clear hb kP hN1 hN3
                go_wp2_with fail
                go_roundw
                case rel => exact ⟨r + 1, by omega, by go_num, by rw [← unhide HP1, unhide HZ]; rfl, (unhide HF).1, (unhide HF).2⟩
                case measure => simp [intOf]; omega
          · have t0 : decide ((pr : Int) < (S : Int)) = false := by rw [decide_eq_false_iff_not]; omega
            have he : ps = am := by rw [unhide HPS]; unfold partsR; rw [if_neg (by rw [← unhide HS]; exact hgt)]
            rw [← he] at HN2
            have cw : IntKind.i64.wrap ((pr : Int) - (S : Int)) = (p1 : Int) := by rw [IntWalk.i64_in _ (by omega)]; omega
            have HN3 := HN2; have HN5 := HN1; have HK5 := HKQ; have HB5 := HBQ
            clear he hn2
            go_wp2_with fail
            go_loopw [75] (fun i wr => ∃ j : Nat, j ≤ kk ∧ i = .int .i64 j ∧ Below w.heap.size w wr ∧ Whole wr p 2 (numA .i64 (setAll out0 (is.take j) (ps.take j))) ∧ NumsAt wr p A1 is ∧ NumsAt wr p (A2) ps) (fun i _ => kk - (intOf i).toNat)
            case atStart => exact ⟨0, by omega, rfl, unhide HB5, by simpa [setAll] using unhide HK5, unhide HN5, unhide HN3⟩
            case round =>
              obtain ⟨j, hj, rfl, hb, kP, hN1, hN3⟩ := hrel
              obtain ⟨wm, rfl⟩ : ∃ W : World, W = wr := ⟨_, rfl⟩
              by_cases hjk : j < kk
              · obtain ⟨x, hx⟩ : ∃ x, is[j]? = some x := ⟨is[j]'(by rw [← (unhide HLEN).1]; exact hjk), List.getElem?_eq_getElem _⟩
                obtain ⟨y, hy⟩ : ∃ y, ps[j]? = some y := ⟨ps[j]'(by rw [(unhide HLEN).2.2, ← (unhide HLEN).2.1]; omega), List.getElem?_eq_getElem _⟩
                obtain ⟨b1, e1, hb1, g1⟩ := nums_at hN1 hx
                obtain ⟨b2, e2, hb2, g2⟩ := nums_at hN3 hy
                have hxn : x < k := by have := (unhide HGE x (List.mem_of_getElem? hx)).2; rw [unhide HN]; omega
                have hsl := setAll_length (is.take j) (ps.take j) out0
                rw [(unhide HO).2.2] at hsl
                obtain ⟨z, hz⟩ : ∃ z, (setAll out0 (is.take j) (ps.take j))[x]? = some z := ⟨(setAll out0 (is.take j) (ps.take j))[x]'(by rw [hsl]; exact hxn), List.getElem?_eq_getElem _⟩
                have gP := kP.cells x
                rw [numA_get, hz] at gP
                simp only [Option.map_some] at gP
                have sP := kP.soft x
                have kP6 := kP.put x (.int .i64 y)
                rw [numA_set, ← setAll_take is ps out0 j x y hx hy] at kP6
                have b6 := hb.setCell (p := ⟨p, x, none⟩) (by show w.heap.size ≤ p; exact unhide HPB) (.int .i64 y)
                have H6 := hide (And.intro b6 (And.intro kP6 (And.intro (hN1.put x (.int .i64 y)) (hN3.put x (.int .i64 y)))))
                rw [e1] at H6 ⊢
                rw [e2] at H6 ⊢
                have j1 : (0 : Int) ≤ (j : Int) := by omega
                have j2 : (j : Int) < (kk : Int) := by omega
                have j5 : (j : Int) < (ak : Int) := by omega
                have j3 : (0 : Int) ≤ (x : Int) := by omega
                have j4 : (x : Int) < (k : Int) := by omega
                clear hx hy hz hsl kP kP6 b6 hb hN1 hN3 hxn
                go_wp2_with fail
                go_roundw
                case rel => exact ⟨j + 1, by omega, by go_num, (unhide H6).1, (unhide H6).2.1, by first | exact (unhide H6).2.2.1 | (rw [e1]; exact (unhide H6).2.2.1), by first | exact (unhide H6).2.2.2 | (rw [e2]; exact (unhide H6).2.2.2)⟩
                case measure => simp [intOf]; omega
              · have hjk2 : j = kk := by omega
                subst hjk2
                rw [List.take_of_length_le (by have := (unhide HLEN).1; omega), List.take_of_length_le (by rw [(unhide HLEN).2.2, ← (unhide HLEN).2.1]; omega), ← (unhide HO).1] at kP
                have HF := hide (And.intro hb kP)
                clear hb kP hN1 hN3
                go_wp2_with fail
                go_roundw
                case rel => exact ⟨r + 1, by omega, by go_num, by rw [← unhide HP1], (unhide HF).1, (unhide HF).2⟩
                case measure => simp [intOf]; omega
    · have hr : r = 5 := by omega
      subst hr
      have HF := hide (And.intro (unhide HKP) (unhide HB))
      rw [unhide HPR]
      go_wp2_with fail
      go_ret3
      exact ⟨_, rfl, (unhide HF).1, (unhide HF).2⟩
end Go.Proofs.YtgbheogmccfaaaaGreat
