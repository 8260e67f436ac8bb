/- Walk: the law DisputeTop. -/
import Derived.Test.YtgbheogmccfaaaaGreatLawSum
import Derived.Test.YtgbheogmccfaaaaGreatPushA
namespace Go.Proofs.YtgbheogmccfaaaaGreat
set_option linter.unusedVariables false
set_option linter.unusedSimpArgs false
open Go.RowKit Go.Maps

/-- claimants of the best rights -/
abbrev topL (b : Int) (l : List Cl) : List Cl := l.filter fun c => decide (c.right ≤ b)
theorem topL_take (b : Int) (l : List Cl) (k : Nat) (x : Cl) (hx : l[k]? = some x) : topL b (l.take (k + 1)) = topL b (l.take k) ++ if x.right ≤ b then [x] else [] := by
  have hk : k < l.length := (List.getElem?_eq_some_iff.1 hx).1
  unfold topL
  rw [List.take_succ_eq_append_getElem hk, (List.getElem?_eq_some_iff.1 hx).2, List.filter_append, List.filter_cons]
  by_cases h : x.right ≤ b <;> simp [h]
theorem topL_ok {l : List Cl} (h : OkL l) (b : Int) : OkL (topL b l) := ⟨fun x hx => h.1 x (List.mem_filter.1 hx).1, Nat.le_trans (List.length_filter_le _ _) h.2⟩
theorem topL_at (b : Int) (l : List Cl) (k : Nat) (x : Cl) (hx : l[k]? = some x) (hb : x.right ≤ b) : (topL b l)[(topL b (l.take k)).length]? = some x := by
  have hk : k < l.length := (List.getElem?_eq_some_iff.1 hx).1
  have e : topL b l = topL b (l.take k) ++ topL b (l.drop k) := by unfold topL; rw [← List.filter_append, List.take_append_drop]
  rw [e, List.getElem?_append_right (Nat.le_refl _), Nat.sub_self, List.drop_eq_getElem_cons hk, (List.getElem?_eq_some_iff.1 hx).2]
  unfold topL
  rw [List.filter_cons]
  simp [hb]
/-- what the best ones get is the same -/
theorem top_parts {l : List Cl} (hok : OkL l) (pot : Nat) (b : Int) {k : Nat} {x : Cl} {p q : Nat} (hx : l[k]? = some x) (hb : x.right ≤ b) (hp : (roundsM pot l 5).1[k]? = some p) (hq : (roundsM pot (topL b l) 5).1[(topL b (l.take k)).length]? = some q) : p = q := by
  obtain ⟨r, hr, h5, _, _⟩ := ok_right hok hx
  have e1 := parts_at pot hx hr h5 hp
  have e2 := parts_at pot (topL_at b l k x hx hb) hr h5 hq
  rw [e1, e2]
  exact (gets_filter pot b l k r (by omega)).symm
theorem top_pot (l : List Cl) (pot : Nat) (b : Int) : potM pot l 5 ≤ potM pot (topL b l) 5 := pot_filter_le pot b l 5

theorem Money_some (l : List Cl) (A : Option Addr) (n c : Nat) (pot : Int) (w : World) (hn : n = l.length) (hlen : n ≤ 100000) (ht : ∀ x ∈ l, Txt x) (hx : ListIn clR w w.heap.size A l) :
    Calls Tryz.prog 18 #[.int .i64 pot, .slice A n c] w fun e w' => ∃ v a b, e = .returned (.tuple #[v, a, b]) ∧ Below w.heap.size w w' := by
  by_cases hE : moneyE pot l = 0
  · obtain ⟨hok, hp0, hp1⟩ := moneyE_ok hE
    obtain ⟨P, rfl⟩ : ∃ P : Nat, pot = P := ⟨pot.toNat, by omega⟩
    exact (Money_ok l A n c P w hn hok ht (by omega) hx).mono fun e w' ⟨p, he, _, hb⟩ => ⟨_, _, _, he, hb⟩
  · exact (Money_bad l A n c pot w hn hlen ht hx hE).mono fun e w' ⟨he, hb⟩ => ⟨_, _, _, he, hb⟩

set_option maxHeartbeats 8000000 in
set_option maxRecDepth 100000 in
theorem DisputeTop_any (pot : Int) (l : List Cl) (A : Option Addr) (n c : Nat) (right : Int) (w : World) (hn : n = l.length) (hm : n ≤ maxLen) (ht : ∀ x ∈ l, Txt x) (hx : ListIn clR w w.heap.size A l) :
    Calls Tryz.prog 9 #[.int .i64 pot, .slice A n c, .int .i64 right] w fun e w' => e = .returned (.bool true) ∧ Below w.heap.size w w' := by
  have HX := hide hx; have HN := hide hn; have HM := hide hm; have HT := hide ht
  have HLN := hide (fun (h : fewGo 0 l = true) => few_len h)
  obtain ⟨i0, hi0, hz0, hz1, hz2⟩ := info_parts info_cl
  have HI := hide (And.intro hi0 (And.intro hz0 (And.intro hz1 hz2)))
  clear hx hn hm ht hi0 hz0 hz1 hz2
  go_enter Tryz.func9, Tryz.ntmps9
  go_wp2_with fail
  (with_reducible refine (awake_any _).mono ?_); rintro e w1 ⟨rfl, hb⟩
  have B1 := hide hb
  clear hb
  go_wp2_with fail
  (with_reducible refine (Few_any l A n c w1 (unhide HN) (unhide HM) ((unhide HX).after (unhide B1))).mono ?_); rintro e w2 ⟨rfl, hl⟩
  have B2 := hide ((unhide B1).trans (hl.1.mono (unhide B1).size))
  clear hl B1
  obtain ⟨r1, hr1⟩ : ∃ r, r = fewGo 0 l := ⟨_, rfl⟩
  rw [← hr1] at HLN ⊢
  clear hr1
  cases r1
  · go_wp2_with fail
    go_ret
    exact ⟨rfl, unhide B2⟩
  · have hl41 : n ≤ 41 := by rw [unhide HN]; exact unhide HLN rfl
    have hway : (decide (right < 0) = true) ∨ (decide (right < 0) = false ∧ decide (4 < right) = true) ∨ (decide (right < 0) = false ∧ decide (4 < right) = false) := by
      cases decide (right < 0) <;> cases decide (4 < right) <;> simp
    rcases hway with v1 | ⟨v1, v2⟩ | ⟨v1, v2⟩
    · go_wp2_with fail
      go_ret
      exact ⟨rfl, unhide B2⟩
    · go_wp2_with fail
      go_ret
      exact ⟨rfl, unhide B2⟩
    · go_wp2_with fail
      obtain ⟨hi0, hz0, hz1, hz2⟩ := unhide HI
      go_loopw [7, 8] (fun o i wr => ∃ (k : Nat) (v : Value), k ≤ n ∧ i = .int .i64 k ∧ o = v ∧ wr.ownsRow w2.heap.size 23 clR.sz v (topL right (l.take k)).length ((topL right (l.take k)).flatMap clR.cells) ∧ Below w2.heap.size w2 wr) (fun _ i _ => n - (intOf i).toNat)
      case atStart => exact ⟨0, _, by omega, rfl, rfl, World.ownsRow_nil _ _ _ _, Below.refl _ _⟩
      case round =>
        obtain ⟨k, v0, hk, rfl, rfl, own, hb⟩ := hrel
        obtain ⟨wo, rfl⟩ : ∃ wo : World, wo = wr := ⟨_, rfl⟩
        by_cases hlt : k < n
        · obtain ⟨x, hx⟩ : ∃ x, l[k]? = some x := ⟨l[k]'(by rw [← unhide HN]; exact hlt), List.getElem?_eq_getElem _⟩
          have B3 := hide ((unhide B2).trans (hb.mono (unhide B2).size))
          obtain ⟨b, off, rfl, hbb, c0, c1, c2, c3, c4⟩ := cl_at ((unhide HX).after (unhide B3)) hx
          have hst := topL_take right l k x hx
          have hyl : (topL right (l.take k)).length ≤ 100000 := by
            have h1 := List.length_filter_le (fun c : Cl => decide (c.right ≤ right)) (l.take k)
            have h2 : (l.take k).length ≤ k := List.length_take_le _ _
            show (List.filter _ _).length ≤ _
            omega
          have hws := hb.size
          have i1 : (0 : Int) ≤ (k : Int) := by omega
          have i2 : (k : Int) < (n : Int) := by omega
          have HO := hide own; have HB := hide hb; have HST := hide hst
          clear own hb hst hx B3
          by_cases hr : x.right ≤ right
          · have t1 : decide (x.right ≤ right) = true := by simpa using hr
            go_wp2_with (at_builtin; refine wpList_push clR rfl (.tmp 43) (.tmp 48) 24 rfl w2.heap.size 23 i0 _ 56 Tryz.underlying24 hi0 hz0 hz1 hz2 rfl (by omega) rfl (unhide HO) x rfl rfl hyl hws ?_; intro v1 w5 own1 hg1; have H5 := hide (And.intro own1 hg1); clear own1 hg1)
            go_roundw
            case rel =>
              obtain ⟨own1, hg1⟩ := unhide H5
              have e := unhide HST
              rw [if_pos hr] at e
              rw [← e] at own1
              exact ⟨k + 1, _, by omega, by go_num, rfl, own1, below_grown (unhide HB) (unhide HO) (Nat.le_refl _) hg1⟩
            case measure => simp [intOf]; omega
          · have t1 : decide (x.right ≤ right) = false := by simpa using hr
            go_wp2_with fail
            go_roundw
            case rel =>
              have e := unhide HST
              rw [if_neg hr, List.append_nil] at e
              have own1 := unhide HO
              rw [← e] at own1
              exact ⟨k + 1, _, by omega, by go_num, rfl, own1, unhide HB⟩
            case measure => simp [intOf]; omega
        · have hkn : k = n := by omega
          subst hkn
          rw [List.take_of_length_le (by rw [← unhide HN]; omega)] at own
          obtain ⟨A4, c4, rfl, hc4, hc5, -, hL4⟩ := list_of_own own
          obtain ⟨m, hm⟩ : ∃ m, m = (topL right l).length := ⟨_, rfl⟩
          rw [← hm] at hc4 ⊢
          have hmn : m ≤ k := by rw [hm, unhide HN]; exact List.length_filter_le _ _
          have B3 := hide ((unhide B2).trans (hb.mono (unhide B2).size))
          have HL4 := hide hL4; have HMM := hide hm
          have hlt : ∀ x ∈ topL right l, Txt x := fun x hx => unhide HT x (List.mem_filter.1 hx).1
          have HT4 := hide hlt
          unfold maxLen at hc5
          clear own hb hL4 hm hlt hi0 hz0 hz1 hz2
          by_cases hE : moneyE pot l = 0
          · obtain ⟨hok, hp0, hp1⟩ := moneyE_ok hE
            obtain ⟨P, rfl⟩ : ∃ P : Nat, pot = P := ⟨pot.toNat, by omega⟩
            have H1 := hide (Money_ok l _ k c P wo (unhide HN) hok (unhide HT) (by omega) ((unhide HX).after (unhide B3)))
            have H2 := hide (fun W h => Money_ok (topL right l) A4 m c4 P W (unhide HMM) (topL_ok hok right) (unhide HT4) (by omega) h)
            have HTP := hide (fun (j : Nat) (x : Cl) (p q : Nat) hx hb hp hq => top_parts hok P right (k := j) (x := x) (p := p) (q := q) hx hb hp hq)
            have hpl : decide (potM P (topL right l) 5 < potM P l 5) = false := by rw [decide_eq_false_iff_not]; have := top_pot l P right; omega
            have hpl' : decide (((potM P (topL right l) 5 : Nat) : Int) < ((potM P l 5 : Nat) : Int)) = false := by rw [decide_eq_false_iff_not]; have := top_pot l P right; omega
            have hl1 := rounds_length P l 5
            have hl2 := rounds_length P (topL right l) 5
            rw [← unhide HN] at hl1
            rw [← unhide HMM] at hl2
            obtain ⟨L1, hL1⟩ : ∃ L, L = potM P l 5 := ⟨_, rfl⟩
            obtain ⟨L2, hL2⟩ : ∃ L, L = potM P (topL right l) 5 := ⟨_, rfl⟩
            obtain ⟨ps, hps⟩ : ∃ ps, ps = (roundsM P l 5).1 := ⟨_, rfl⟩
            obtain ⟨qs, hqs⟩ : ∃ ps, ps = (roundsM P (topL right l) 5).1 := ⟨_, rfl⟩
            rw [← hL1, ← hps] at H1
            rw [← hL2, ← hqs] at H2
            rw [← hps, ← hqs] at HTP
            rw [← hL1, ← hL2] at hpl hpl'
            rw [← hps] at hl1
            rw [← hqs] at hl2
            have HLN1 := hide hl1; have HLN2 := hide hl2
            clear hL1 hL2 hps hqs hl1 hl2 hE hok hp0 hp1
            go_wp2_with fail
            (with_reducible refine (unhide H1).mono ?_); rintro e w3 ⟨p, rfl, hp, hb⟩
            have B4 := hide ((unhide B3).trans (hb.mono (unhide B3).size))
            have HL5 := hide ((unhide HL4).after hb)
            have HP1 := hide hp
            clear hb hp B3 H1 HL4
            go_wp2_with fail
            (with_reducible refine (unhide H2 _ (unhide HL5)).mono ?_); rintro e w4 ⟨q, rfl, hq, hb⟩
            have B5 := hide ((unhide B4).trans (hb.mono (unhide B4).size))
            have hp := (unhide HP1).after hb
            have HPX := hide (show ListIn (numR .i64) w4 w4.heap.size (some ⟨p, 0, none⟩) ps from list_of_cells hp.lt fun j u hj => by rw [hp.cells, numA_flat]; simpa using hj)
            have HQX := hide (show ListIn (numR .i64) w4 w4.heap.size (some ⟨q, 0, none⟩) qs from list_of_cells hq.lt fun j u hj => by rw [hq.cells, numA_flat]; simpa using hj)
            have HLX := hide ((unhide HX).after (unhide B5))
            clear hb hp hq B4 H2 HP1 HL5
            go_wp2_with fail
            go_loopw [15, 16] (fun kk i wr => ∃ j z : Nat, j ≤ k ∧ i = .int .i64 j ∧ kk = .int .i64 z ∧ Hid (z = (topL right (l.take j)).length) ∧ Laid w4 wr) (fun _ i _ => k - (intOf i).toNat)
            case atStart => exact ⟨0, 0, by omega, rfl, rfl, hide rfl, Laid.refl _⟩
            case round =>
              obtain ⟨j, z, hj, rfl, rfl, HZ, hl⟩ := hrel
              obtain ⟨wi, rfl⟩ : ∃ wo : World, wo = wr := ⟨_, rfl⟩
              by_cases hlt2 : j < k
              · obtain ⟨x, hx⟩ : ∃ x, l[j]? = some x := ⟨l[j]'(by rw [← unhide HN]; exact hlt2), List.getElem?_eq_getElem _⟩
                obtain ⟨px, hpx⟩ : ∃ x, ps[j]? = some x := ⟨ps[j]'(by rw [unhide HLN1]; exact hlt2), List.getElem?_eq_getElem _⟩
                obtain ⟨b, off, rfl, hbb, c0, c1, c2, c3, c4⟩ := cl_at ((unhide HLX).below hl.1) hx
                have d0 := num_in ((unhide HPX).below hl.1) hpx
                simp only [Nat.zero_add] at d0
                have hst := topL_take right l j x hx
                have i1 : (0 : Int) ≤ (j : Int) := by omega
                have i2 : (j : Int) < (k : Int) := by omega
                have HL := hide hl
                by_cases hr : x.right ≤ right
                · have t1 : decide (x.right ≤ right) = true := by simpa using hr
                  have hat := topL_at right l j x hx hr
                  rw [← unhide HZ] at hat
                  have hzm : z < m := by rw [unhide HMM]; exact (List.getElem?_eq_some_iff.1 hat).1
                  obtain ⟨qx, hqx⟩ : ∃ x, qs[z]? = some x := ⟨qs[z]'(by rw [unhide HLN2]; exact hzm), List.getElem?_eq_getElem _⟩
                  have d1 := num_in ((unhide HQX).below hl.1) hqx
                  simp only [Nat.zero_add] at d1
                  have heq := unhide HTP j x px qx hx hr hpx (by rw [← unhide HZ]; exact hqx)
                  subst heq
                  have i3 : (0 : Int) ≤ (z : Int) := by omega
                  have i4 : (z : Int) < (m : Int) := by omega
                  rw [if_pos hr] at hst
                  have HST := hide (show z + 1 = (topL right (l.take (j + 1))).length by rw [hst, List.length_append, ← unhide HZ]; rfl)
                  clear hst hat hqx hx hpx hl
                  go_wp2_with fail
                  go_quiet (fail)
                  go_wp2_with fail
                  go_roundw
                  case rel => exact ⟨j + 1, z + 1, by omega, by go_num, by go_num, HST, (unhide HL).drewN _⟩
                  case measure => simp [intOf]; omega
                · have t1 : decide (x.right ≤ right) = false := by simpa using hr
                  rw [if_neg hr, List.append_nil] at hst
                  have HST := hide (show z = (topL right (l.take (j + 1))).length by rw [hst]; exact unhide HZ)
                  clear hst hx hpx hl
                  go_wp2_with fail
                  go_roundw
                  case rel => exact ⟨j + 1, z, by omega, by go_num, rfl, HST, unhide HL⟩
                  case measure => simp [intOf]; omega
              · have HF := hide ((unhide B5).trans (hl.1.mono (unhide B5).size))
                clear hl
                go_wp2_with fail
                go_ret
                exact ⟨rfl, unhide HF⟩
          · have H1 := hide (Money_bad l _ k c pot wo (unhide HN) (by omega) (unhide HT) ((unhide HX).after (unhide B3)) hE)
            have H2 := hide (fun W h => Money_some (topL right l) A4 m c4 pot W (unhide HMM) (by omega) (unhide HT4) h)
            obtain ⟨e0, he0⟩ : ∃ k, k = moneyE pot l := ⟨_, rfl⟩
            rw [← he0] at H1 hE
            have q1 : (e0 == 0) = false := by simpa using hE
            have q2 : (e0 != 0) = true := by simpa using hE
            have q3 : decide (e0 = 0) = false := by simpa using hE
            clear he0 hE
            go_wp2_with fail
            (with_reducible refine (unhide H1).mono ?_); rintro e w3 ⟨rfl, hb⟩
            have B4 := hide ((unhide B3).trans (hb.mono (unhide B3).size))
            have HL5 := hide ((unhide HL4).after hb)
            clear hb B3 H1 HL4
            go_wp2_with fail
            (with_reducible refine (unhide H2 _ (unhide HL5)).mono ?_); rintro e w4 ⟨va, vb, vc, rfl, hb⟩
            have B5 := hide ((unhide B4).trans (hb.mono (unhide B4).size))
            clear hb B4 H2 HL5
            go_wp2_with fail
            go_ret
            exact ⟨rfl, unhide B5⟩
end Go.Proofs.YtgbheogmccfaaaaGreat
