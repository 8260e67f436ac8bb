/- Walk: the law DutyLimits. -/
import Derived.Test.YtgalpdjmmpjddaaLimP
namespace Go.Proofs.Ytgalpdjmmpjddaa
set_option linter.unusedVariables false
set_option linter.unusedSimpArgs false
open Go.RowKit Go.Maps

/-- ahead of a round -/
structure LimI (w wr : World) (lim : Int) (k p m nn : Nat) (A : Option Addr) (L : List (List UInt8)) (bs : List Bx) : Prop where
  nk : nn ≤ 60 + 2 * k
  bond : BondAt wr p lim m nn bs
  list : ListIn stR wr wr.heap.size A L
  rest : Rest bs (L.drop k)
  below : Below w.heap.size w wr

set_option maxHeartbeats 8000000 in
set_option maxRecDepth 100000 in
theorem DutyLimits_any (limit : Int) (xs : List Oq) (OA : Option Addr) (n c : Nat) (pays : Bool) (w : World) (hn : n = xs.length) (hm : n ≤ maxLen) (hx : ListIn oqR w w.heap.size OA xs) (hs : ∀ x ∈ xs, x.box.size ≤ maxLen ∧ x.to_.size ≤ maxLen) :
    Calls Try.prog 6 #[.int .i64 limit, .slice OA n c, .bool pays] w fun e w' => e = .returned (.bool true) ∧ Below w.heap.size w w' := by
  have HAW := hide awake_any
  unfold AwakeQ at HAW
  have H1 := hide (long_any xs OA n c w hn hm hx hs)
  obtain ⟨lg, hlg⟩ : ∃ b, b = mLong xs := ⟨_, rfl⟩
  rw [← hlg] at H1
  have HN := hide hn; have HX := hide hx; have HS := hide hs; have HLG := hide hlg
  clear hn hx hs hlg
  go_enter Try.func6, Try.ntmps6
  go_wp2_with fail
  (with_reducible refine (unhide H1).mono ?_); rintro e w1 ⟨rfl, hb⟩
  have HB1 := hide hb
  clear hb H1
  cases lg
  case true =>
    go_wp2_with fail
    (with_reducible refine (unhide HAW _).mono ?_); rintro e w2 ⟨rfl, hb⟩
    have HB2 := hide ((unhide HB1).trans (hb.mono (unhide HB1).size))
    clear hb
    go_wp2_with fail
    go_ret
    exact ⟨rfl, unhide HB2⟩
  case false =>
    go_wp2_with fail
    (with_reducible refine (play_any limit xs OA n c _ (unhide HN) (by rw [unhide HN]; exact mLong_len (unhide HLG).symm) ((unhide HX).after (unhide HB1)) (unhide HS)).mono ?_); rintro e w2 ⟨p, m, nn, N, cN, A, bs, rfl, hI⟩
    have HI := hide hI
    have HU := hide (Used_any p m nn (limI limit) bs w2 hI.bond hI.inv.ok)
    have HLI := hide (fun W => Limit_any limit W)
    have hub := used_bd bs hI.inv.ok.duty
    have hul := hI.inv.used
    have hu0 : 0 ≤ used bs := hub.1
    have d1 : decide (limI limit < used bs) = false := by rw [decide_eq_false_iff_not]; omega
    have hmb := hI.mb; have hlen := hI.lenk; have hnk := hI.nk
    have hb1s := (unhide HB1).size
    clear hI hub hul
    obtain ⟨u, hu⟩ : ∃ u, u = used bs := ⟨_, rfl⟩
    rw [← hu] at HU hu0 d1
    have HUU := hide hu
    clear hu
    generalize limI limit = lim at *
    go_wp2_with fail
    (with_reducible refine (unhide HU).mono ?_); rintro e w3 ⟨rfl, hb⟩
    have HI3 := hide ((unhide HI).after hb)
    clear hb HU
    go_wp2_with fail
    (with_reducible refine (unhide HLI _).mono ?_); rintro e w4 ⟨rfl, rfl⟩
    have hI3 := unhide HI3
    have HD := hide (Due_any p m nn lim 1048576 bs w3 hI3.bond hI3.inv.ok (by omega))
    clear hI3 HLI
    go_wp2_with fail
    (with_reducible refine (unhide HD).mono ?_); rintro e w5 ⟨LA, cL, rfl, hL, hb⟩
    have hI3 := unhide HI3
    have hI5 := hI3.after hb
    have hrest := Rest.start hI3.inv
    obtain ⟨L, hLd⟩ : ∃ L, L = (dueL bs 1048576).mergeSort leB := ⟨_, rfl⟩
    rw [← hLd] at hL hrest ⊢
    have hLn : L.length ≤ 60 := by
      rw [hLd, List.length_mergeSort]
      unfold dueL
      have h1 := List.length_filter_le (dueB 1048576) bs
      have h2 := hI3.len
      simp; omega
    obtain ⟨q, hq⟩ : ∃ q, q = L.length := ⟨_, rfl⟩
    have hw5 : LimI w w5 lim 0 p m nn LA L bs := ⟨by omega, hI5.bond, hL, hrest, (unhide HB1).trans (hI5.below.mono (unhide HB1).size)⟩
    have HL0 := hide hw5; have HQ := hide hq
    rw [← hq] at hLn ⊢
    have hne := hI3.ne
    clear hI3 hI5 hrest hL hb hw5 hq hLd HD HI HI3
    go_wp2_with fail
    go_loopw [9, 11, 12, 37] (fun v _ _ i wr => ∃ (k k2 : Nat) (bs2 : List Bx), k ≤ q ∧ i = .int .i64 k ∧ v = .int .i64 (used bs2) ∧ LimI w wr lim k p m k2 LA L bs2) (fun _ _ _ i _ => q - (intOf i).toNat)
    case atStart => exact ⟨0, _, _, by omega, rfl, by rw [unhide HUU], unhide HL0⟩
    case round =>
      obtain ⟨k, k2, bs2, hk, rfl, rfl, hI⟩ := hrel
      obtain ⟨wo, rfl⟩ : ∃ wo : World, wo = wr := ⟨_, rfl⟩
      have hnk2 := hI.nk
      by_cases hlt : k < q
      · obtain ⟨s, hs⟩ : ∃ x, L[k]? = some x := ⟨L[k]'(by rw [← unhide HQ]; exact hlt), List.getElem?_eq_getElem _⟩
        obtain ⟨b, off, rfl, hbb, c0⟩ := st_at hI.list hs
        have hrest := hI.rest
        have hkL : k < L.length := by rw [← unhide HQ]; exact hlt
        rw [List.drop_eq_getElem_cons hkL, (List.getElem?_eq_some_iff.1 hs).2] at hrest
        obtain ⟨x, hf, h0⟩ := hrest.here s (List.mem_cons_self)
        have hst := hrest.step
        obtain ⟨e1, e2, e3, e4, e5⟩ := exp_facts hrest.ok.apart hf h0
        have hxm := List.mem_of_find?_eq_some hf
        have hdu := hrest.ok.duty x hxm
        have hz : (asB s).size ≤ maxLen := by have := hrest.ok.size x hxm; rw [find_named hf] at this; exact this
        have HX1 := hide (Export_any p m k2 lim (asB s) bs2 wo hz hI.bond (by omega) hne)
        have HX2 := hide (fun W j hj hB => Export_any p m j lim (asB s) (setS bs2 (asB s) 2) W hz hB hj hne)
        have HU2 := hide (fun W j hB => Used_any p m j lim (setS bs2 (asB s) 2) W hB hst.ok)
        rw [e1, e2] at HX1
        rw [e4, e5] at HX2
        have d2 : decide (used bs2 < used (setS bs2 (asB s) 2)) = false := by rw [decide_eq_false_iff_not]; omega
        have HI := hide hI; have HST := hide hst
        clear hI hrest hst hf h0 e1 e2 e3 e4 e5 hxm hdu hs hkL
        generalize used bs2 = u2 at *
        obtain ⟨bs3, hbs3⟩ : ∃ b, b = setS bs2 (asB s) 2 := ⟨_, rfl⟩
        rw [← hbs3] at HX1 HX2 HU2 HST d2
        clear hbs3
        go_wp2_with fail
        (with_reducible refine (unhide HX1).mono ?_); rintro e w6 ⟨rfl, hBO, hg⟩
        have hI := unhide HI
        have hl6 := hI.list.grown hI.bond.2 hg
        have hb6 := far_below hI.below hg (by omega)
        have HB6 := hide hb6; have HL6 := hide hl6
        have HBO6 := hide hBO
        have HXX := hide (unhide HX2 w6 _ (by omega) hBO)
        clear hI hl6 hb6 hBO hg HX1 HX2 c0
        cases pays
        · have HU6 := hide (unhide HU2 w6 _ (unhide HBO6))
          go_wp2_with fail
          (with_reducible refine (unhide HU6).mono ?_); rintro e w7 ⟨rfl, hb⟩
          have HBO7 := hide ((unhide HBO6).after hb); have HL7 := hide ((unhide HL6).after hb); have HB7 := hide ((unhide HB6).trans (hb.mono (unhide HB6).size))
          have HU7 := hide (unhide HU2 w7 _ ((unhide HBO6).after hb))
          clear hb HU6 HU2
          go_wp2_with fail
          (with_reducible refine (unhide HU7).mono ?_); rintro e w8 ⟨rfl, hb⟩
          have HBO8 := hide ((unhide HBO7).after hb); have HL8 := hide ((unhide HL7).after hb); have HB8 := hide ((unhide HB7).trans (hb.mono (unhide HB7).size))
          clear hb HU7
          go_wp2_with fail
          go_roundw
          case rel => exact ⟨k + 1, k2 + 1, bs3, by omega, by go_num, rfl, ⟨by omega, unhide HBO8, unhide HL8, unhide HST, unhide HB8⟩⟩
          case measure => simp [intOf]; omega
        · go_wp2_with fail
          (with_reducible refine (unhide HXX).mono ?_); rintro e w6' ⟨rfl, hBO, hg⟩
          have HB6' := hide (far_below (unhide HB6) hg (by omega)); have HL6' := hide ((unhide HL6).grown (unhide HBO6).2 hg)
          have HBO6' := hide hBO
          have HU6 := hide (unhide HU2 w6' _ hBO)
          clear hBO hg
          go_wp2_with fail
          (with_reducible refine (unhide HU6).mono ?_); rintro e w7 ⟨rfl, hb⟩
          have HBO7 := hide ((unhide HBO6').after hb); have HL7 := hide ((unhide HL6').after hb); have HB7 := hide ((unhide HB6').trans (hb.mono (unhide HB6').size))
          have HU7 := hide (unhide HU2 w7 _ ((unhide HBO6').after hb))
          clear hb HU6 HU2
          go_wp2_with fail
          (with_reducible refine (unhide HU7).mono ?_); rintro e w8 ⟨rfl, hb⟩
          have HBO8 := hide ((unhide HBO7).after hb); have HL8 := hide ((unhide HL7).after hb); have HB8 := hide ((unhide HB7).trans (hb.mono (unhide HB7).size))
          clear hb HU7
          go_wp2_with fail
          go_roundw
          case rel => exact ⟨k + 1, k2 + 1 + 1, bs3, by omega, by go_num, rfl, ⟨by omega, unhide HBO8, unhide HL8, unhide HST, unhide HB8⟩⟩
          case measure => simp [intOf]; omega
      · have hend : L.drop k = [] := List.drop_eq_nil_of_le (by rw [← unhide HQ]; omega)
        have hr := hI.rest
        rw [hend] at hr
        obtain ⟨r1, r2⟩ := hr.done
        have HD := hide (Due_any p m k2 lim 1048576 bs2 wo hI.bond hr.ok (by omega))
        rw [r2] at HD
        rw [r1]
        have HB := hide hI.below
        clear hI hend hr r1 r2
        go_wp2_with fail
        (with_reducible refine (unhide HD).mono ?_); rintro e w6 ⟨LA2, cL2, rfl, hL, hb⟩
        have HB6 := hide ((unhide HB).trans (hb.mono (unhide HB).size))
        clear hL hb HD
        go_wp2_with fail
        (with_reducible refine (unhide HAW _).mono ?_); rintro e w7 ⟨rfl, hb⟩
        have HB7 := hide ((unhide HB6).trans (hb.mono (unhide HB6).size))
        clear hb
        go_wp2_with fail
        go_ret
        exact ⟨rfl, unhide HB7⟩
end Go.Proofs.Ytgalpdjmmpjddaa
