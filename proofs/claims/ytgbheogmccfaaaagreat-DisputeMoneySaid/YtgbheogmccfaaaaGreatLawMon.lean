/- Walk: the law DisputeMoney. -/
import Derived.Test.YtgbheogmccfaaaaGreatAwk
import Derived.Test.YtgbheogmccfaaaaGreatRMon
namespace Go.Proofs.YtgbheogmccfaaaaGreat
set_option linter.unusedVariables false
set_option linter.unusedSimpArgs false
open Go.RowKit Go.Maps

set_option maxHeartbeats 4000000 in
set_option maxRecDepth 100000 in
theorem RWrong_any (xs : List Cl) (A : Option Addr) (n c : Nat) (w : World) (hn : n = xs.length) (hlen : n ≤ 4096) (hx : ListIn clR w w.heap.size A xs) (ht : ∀ x ∈ xs, Txt x) :
    Calls Tryz.prog 19 #[.slice A n c] w fun e w' => e = .returned (.int .i64 (wrongC xs)) ∧ Below w.heap.size w w' := by
  have HN := hide hn; have HX := hide hx; have HT := hide ht
  clear hn hx ht
  go_enter Tryz.func19, Tryz.ntmps19
  go_wp2_with fail
  go_loopw [3] (fun i wr => ∃ k : Nat, k ≤ n ∧ i = .int .i64 k ∧ Below w.heap.size w wr ∧ Hid ((xs.take k).any badC = false)) (fun i _ => n - (intOf i).toNat)
  case atStart => exact ⟨0, by omega, rfl, Below.refl _ _, hide rfl⟩
  case round =>
    obtain ⟨k, hk, rfl, hb, HI⟩ := hrel
    obtain ⟨wo, rfl⟩ : ∃ wo : World, wo = wr := ⟨_, rfl⟩
    by_cases hlt : k < n
    · obtain ⟨x, hx⟩ : ∃ x, xs[k]? = some x := ⟨xs[k]'(by rw [← unhide HN]; exact hlt), List.getElem?_eq_getElem _⟩
      obtain ⟨b, off, rfl, hbb, c0, c1, c2, c3, c4⟩ := cl_at ((unhide HX).below hb) hx
      have HC := hide (fun W => RMay_any x W (unhide HT x (List.mem_of_getElem? hx)))
      have hbx := any_bad xs k x hx
      have htk := any_take_succ xs k x hx
      have hbd : badC x = !mayC x := rfl
      have i1 : (0 : Int) ≤ (k : Int) := by omega
      have i2 : (k : Int) < (n : Int) := by omega
      rw [hbd] at hbx htk
      have HBX := hide hbx; have HTK := hide htk
      have HB := hide hb
      clear hx hbd hb hbx htk
      generalize mayC x = bb at *
      go_wp2_with fail
      (with_reducible refine (unhide HC _).mono ?_); rintro e w1 ⟨rfl, hl⟩
      have HB1 := hide ((unhide HB).trans (hl.1.mono (unhide HB).size))
      clear hl c0 c1 c2 c3 c4
      cases bb
      · have hw : wrongC xs = 1 := by unfold wrongC; rw [unhide HBX rfl, if_pos rfl]
        have HW := hide hw
        clear hw
        go_wp2_with fail
        go_ret
        exact ⟨by rw [unhide HW]; rfl, unhide HB1⟩
      · go_wp2_with fail
        go_roundw
        case rel => exact ⟨k + 1, by omega, by go_num, unhide HB1, hide (by rw [unhide HTK, unhide HI]; rfl)⟩
        case measure => simp [intOf]; omega
    · have hend : xs.any badC = false := by have := unhide HI; rwa [List.take_of_length_le (by rw [← unhide HN]; omega)] at this
      have hw : wrongC xs = 0 := by unfold wrongC; rw [hend, if_neg (by simp), if_neg (by rw [← unhide HN]; omega)]
      have HW := hide hw
      have HB := hide hb
      have t1 : decide (4096 < n) = false := by rw [decide_eq_false_iff_not]; omega
      have t2 : decide ((4096 : Int) < (n : Int)) = false := by rw [decide_eq_false_iff_not]; omega
      clear hend hb hw
      go_wp2_with fail
      go_ret
      exact ⟨by rw [unhide HW]; rfl, unhide HB⟩

theorem moneyE_zero {pot : Int} {l : List Cl} (h : moneyE pot l = 0) : wrongC l = 0 ∧ OkL l ∧ 0 ≤ pot ∧ pot ≤ 1099511627776 := by
  unfold moneyE at h
  split at h
  · cases h
  · rename_i hn
    exact ⟨h, wrongC_ok h, by omega, by omega⟩
theorem moneyE_few {pot : Int} {l : List Cl} (h : moneyE pot l ≠ 0) (hl : l.length ≤ 41) : moneyE pot l = 1 ∧ (wrongC l = 1 ∨ (wrongC l = 0 ∧ (pot < 0 ∨ (¬ pot < 0 ∧ 1099511627776 < pot)))) := by
  have hw : wrongC l = 1 ∨ wrongC l = 0 := by
    unfold wrongC
    split
    · exact .inl rfl
    · rw [if_neg (by omega)]; exact .inr rfl
  unfold moneyE at h ⊢
  rcases hw with e | e
  · rw [if_pos (.inl e)]; exact ⟨rfl, .inl e⟩
  · split at h
    · rename_i hc
      rw [if_pos hc]
      refine ⟨rfl, .inr ⟨e, ?_⟩⟩
      rcases hc with hc | hc | hc
      · omega
      · exact .inl hc
      · by_cases h2 : pot < 0
        · exact .inl h2
        · exact .inr ⟨h2, hc⟩
    · exact absurd e h

set_option maxHeartbeats 8000000 in
set_option maxRecDepth 100000 in
theorem DisputeMoney_any (pot : Int) (l : List Cl) (A : Option Addr) (n c : Nat) (w : World) (hn : n = l.length) (hm : n ≤ maxLen) (ht : ∀ x ∈ l, Txt x) (hx : ListIn clR w w.heap.size A l) :
    Calls Tryz.prog 4 #[.int .i64 pot, .slice A n c] w fun e w' => e = .returned (.bool true) ∧ Below w.heap.size w w' := by
  have HX := hide hx; have HN := hide hn; have HM := hide hm; have HT := hide ht
  have HLN := hide (fun (h : fewGo 0 l = true) => few_len h)
  clear hx hn hm ht
  go_enter Tryz.func4, Tryz.ntmps4
  go_wp2_with fail
  (with_reducible refine (awake_any _).mono ?_); rintro e w1 ⟨rfl, hb⟩
  have B1 := hide hb
  clear hb
  go_wp2_with fail
  (with_reducible refine (Few_any l A n c w1 (unhide HN) (unhide HM) ((unhide HX).after (unhide B1))).mono ?_); rintro e w2 ⟨rfl, hl⟩
  have B2 := hide ((unhide B1).trans (hl.1.mono (unhide B1).size))
  clear hl B1
  obtain ⟨r1, hr1⟩ : ∃ r, r = fewGo 0 l := ⟨_, rfl⟩
  rw [← hr1] at HLN ⊢
  clear hr1
  cases r1
  · go_wp2_with fail
    go_ret
    exact ⟨rfl, unhide B2⟩
  · have hl41 : n ≤ 41 := by rw [unhide HN]; exact unhide HLN rfl
    by_cases hE : moneyE pot l = 0
    · obtain ⟨hw0, hok, hp0, hp1⟩ := moneyE_zero hE
      obtain ⟨P, rfl⟩ : ∃ P : Nat, pot = P := ⟨pot.toNat, by omega⟩
      have H1 := hide (Money_ok l A n c P w2 (unhide HN) hok (unhide HT) (by omega) ((unhide HX).after (unhide B2)))
      have H2 := hide (fun W h => RWrong_any l A n c W (unhide HN) (by omega) h (unhide HT))
      have H3 := hide (fun W h => RMoney_any l A n c P W (unhide HN) hok (by omega) h)
      rw [hw0] at H2
      have hl1 := rounds_length P l 5
      rw [← unhide HN] at hl1
      obtain ⟨L, hL⟩ : ∃ L, L = potM P l 5 := ⟨_, rfl⟩
      obtain ⟨ps, hps⟩ : ∃ ps, ps = (roundsM P l 5).1 := ⟨_, rfl⟩
      rw [← hL, ← hps] at H1 H3
      rw [← hps] at hl1
      have HPL := hide hl1.symm
      have d2 : decide ((P : Int) < 0) = false := by rw [decide_eq_false_iff_not]; omega
      have d3 : decide (1099511627776 < (P : Int)) = false := by rw [decide_eq_false_iff_not]; omega
      clear hL hps hl1 hw0 hok hp0 hp1 hE
      go_wp2_with fail
      (with_reducible refine (unhide H1).mono ?_); rintro e w3 ⟨p, rfl, hp, hb⟩
      have B3 := hide ((unhide B2).trans (hb.mono (unhide B2).size))
      have HP := hide hp
      clear hb hp B2 H1
      go_wp2_with fail
      (with_reducible refine (unhide H2 _ ((unhide HX).after (unhide B3))).mono ?_); rintro e w4 ⟨rfl, hb⟩
      have B4 := hide ((unhide B3).trans (hb.mono (unhide B3).size))
      have HP4 := hide ((unhide HP).after hb)
      clear hb B3 H2 HP
      go_wp2_with fail
      (with_reducible refine (unhide H3 _ ((unhide HX).after (unhide B4))).mono ?_); rintro e w5 ⟨q, rfl, hq, hb⟩
      have B5 := hide ((unhide B4).trans (hb.mono (unhide B4).size))
      have HP5 := hide (numA_in ((unhide HP4).after hb))
      have HQ := hide (numA_in hq)
      clear hb hq B4 H3 HP4
      go_wp2_with fail
      (with_reducible refine (RSame_same ps _ _ n n n w5 (unhide HPL) (by omega) (unhide HP5) (unhide HQ)).mono ?_); rintro e w6 ⟨rfl, hl⟩
      have B6 := hide ((unhide B5).trans (hl.1.mono (unhide B5).size))
      clear hl B5
      go_wp2_with fail
      go_ret
      exact ⟨rfl, unhide B6⟩
    · obtain ⟨hE1, hway⟩ := moneyE_few hE (by rw [← unhide HN]; exact hl41)
      have H1 := hide (Money_bad l A n c pot w2 (unhide HN) (by omega) (unhide HT) ((unhide HX).after (unhide B2)) hE)
      rw [hE1] at H1
      have H2 := hide (fun W h => RWrong_any l A n c W (unhide HN) (by omega) h (unhide HT))
      clear hE hE1
      go_wp2_with fail
      (with_reducible refine (unhide H1).mono ?_); rintro e w3 ⟨rfl, hb⟩
      have B3 := hide ((unhide B2).trans (hb.mono (unhide B2).size))
      clear hb B2 H1
      rcases hway with e1 | ⟨e1, e2 | ⟨e2, e3⟩⟩
      · rw [e1] at H2
        clear e1
        go_wp2_with fail
        (with_reducible refine (unhide H2 _ ((unhide HX).after (unhide B3))).mono ?_); rintro e w4 ⟨rfl, hb⟩
        have B4 := hide ((unhide B3).trans (hb.mono (unhide B3).size))
        clear hb B3 H2
        go_wp2_with fail
        go_ret
        exact ⟨rfl, unhide B4⟩
      · rw [e1] at H2
        have d2 : decide (pot < 0) = true := by simpa using e2
        clear e1 e2
        go_wp2_with fail
        (with_reducible refine (unhide H2 _ ((unhide HX).after (unhide B3))).mono ?_); rintro e w4 ⟨rfl, hb⟩
        have B4 := hide ((unhide B3).trans (hb.mono (unhide B3).size))
        clear hb B3 H2
        go_wp2_with fail
        go_ret
        exact ⟨rfl, unhide B4⟩
      · rw [e1] at H2
        have d2 : decide (pot < 0) = false := by simpa using e2
        have d3 : decide (1099511627776 < pot) = true := by simpa using e3
        clear e1 e2 e3
        go_wp2_with fail
        (with_reducible refine (unhide H2 _ ((unhide HX).after (unhide B3))).mono ?_); rintro e w4 ⟨rfl, hb⟩
        have B4 := hide ((unhide B3).trans (hb.mono (unhide B3).size))
        clear hb B3 H2
        go_wp2_with fail
        go_ret
        exact ⟨rfl, unhide B4⟩
end Go.Proofs.YtgbheogmccfaaaaGreat
