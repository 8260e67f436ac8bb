/- Walk: the law DisputeOrder. -/
import Derived.Test.YtgbheogmccfaaaaGreatLawBst
import Derived.Test.YtgbheogmccfaaaaGreatPushA
namespace Go.Proofs.YtgbheogmccfaaaaGreat
set_option linter.unusedVariables false
set_option linter.unusedSimpArgs false
open Go.RowKit Go.Maps

theorem onlyL_take (t : ByteArray) (l : List Cl) (k : Nat) (x : Cl) (hx : l[k]? = some x) : (l.take (k + 1)).filter (ofThing t) = (l.take k).filter (ofThing t) ++ if x.thing = t then [x] else [] := by
  have hk : k < l.length := (List.getElem?_eq_some_iff.1 hx).1
  rw [List.take_succ_eq_append_getElem hk, (List.getElem?_eq_some_iff.1 hx).2, List.filter_append, List.filter_cons]
  by_cases h : x.thing = t <;> simp [h, ofThing]
theorem OkL.filter {l : List Cl} (h : OkL l) (p : Cl → Bool) : OkL (l.filter p) := ⟨fun x hx => h.1 x (List.mem_filter.1 hx).1, Nat.le_trans (List.length_filter_le _ _) h.2⟩
/-- turned, and told again -/
abbrev turnL (l : List Cl) (T : Nat) : List Cl := l.drop T ++ l.take T ++ l
theorem turnL_mem (l : List Cl) (T : Nat) (c : Cl) : c ∈ l ↔ c ∈ turnL l T := by
  unfold turnL
  simp only [List.mem_append]
  exact ⟨fun h => .inr h, fun h => by
    rcases h with (h | h) | h
    · exact List.mem_of_mem_drop h
    · exact List.mem_of_mem_take h
    · exact h⟩
theorem Award_some (l : List Cl) (A : Option Addr) (n c : Nat) (w : World) (hn : n = l.length) (hlen : n ≤ 100000) (ht : ∀ x ∈ l, Txt x) (hx : ListIn clR w w.heap.size A l) :
    Calls Tryz.prog 22 #[.slice A n c] w fun e w' => ∃ v a, e = .returned (.tuple #[v, a]) ∧ Below w.heap.size w w' := by
  by_cases hE : wrongC l = 0
  · exact (Award_ok l A n c w hn (wrongC_ok hE) ht hx).mono fun e w' ⟨v, a, he, _, _, _, hb⟩ => ⟨_, _, he, hb⟩
  · exact (Award_bad l A n c w hn hlen ht hx hE).mono fun e w' ⟨he, hb⟩ => ⟨_, _, he, hb⟩
theorem wrong_turn {l : List Cl} {T : Nat} (hl : l.length ≤ 20) (h : wrongC l ≠ 0) : wrongC (turnL l T) = wrongC l := by
  have h1 : l.any badC = true := by
    cases hb : l.any badC
    · exfalso; apply h; unfold wrongC; rw [hb, if_neg (by simp), if_neg (by omega)]
    · rfl
  have h2 : (turnL l T).any badC = true := by
    obtain ⟨c, hc, hb⟩ := List.any_eq_true.1 h1
    exact List.any_eq_true.2 ⟨c, (turnL_mem l T c).1 hc, hb⟩
  unfold wrongC
  rw [h1, h2, if_pos rfl, if_pos rfl]

set_option maxHeartbeats 8000000 in
set_option maxRecDepth 100000 in
theorem DisputeOrder_any (l : List Cl) (A : Option Addr) (n c : Nat) (turn : Int) (thing : ByteArray) (w : World) (hn : n = l.length) (hnc : n ≤ c) (hcm : c ≤ maxLen) (ht : ∀ x ∈ l, Txt x) (hx : ListIn clR w w.heap.size A l) :
    Calls Tryz.prog 7 #[.slice A n c, .int .i64 turn, .string thing] w fun e w' => e = .returned (.bool true) ∧ Below w.heap.size w w' := by
  have hm : n ≤ maxLen := Nat.le_trans hnc hcm
  have HX := hide hx; have HN := hide hn; have HM := hide hm; have HT := hide ht; have HNC := hide hnc
  have HLN := hide (fun (h : fewGo 0 l = true) => few_len h)
  obtain ⟨i0, hi0, hz0, hz1, hz2⟩ := info_parts info_cl
  have HI := hide (And.intro hi0 (And.intro hz0 (And.intro hz1 hz2)))
  clear hx hn hm ht hi0 hz0 hz1 hz2 hnc
  unfold maxLen at hcm
  go_enter Tryz.func7, Tryz.ntmps7
  go_wp2_with fail
  (with_reducible refine (awake_any _).mono ?_); rintro e w1 ⟨rfl, hb⟩
  have B1 := hide hb
  clear hb
  go_wp2_with fail
  (with_reducible refine (Few_any l A n c w1 (unhide HN) (unhide HM) ((unhide HX).after (unhide B1))).mono ?_); rintro e w2 ⟨rfl, hl⟩
  have B2 := hide ((unhide B1).trans (hl.1.mono (unhide B1).size))
  clear hl B1
  obtain ⟨r1, hr1⟩ : ∃ r, r = fewGo 0 l := ⟨_, rfl⟩
  rw [← hr1] at HLN ⊢
  clear hr1
  cases r1
  · go_wp2_with fail
    go_ret
    exact ⟨rfl, unhide B2⟩
  · have hway : (decide (turn < 0) = true) ∨ (decide (turn < 0) = false ∧ decide ((n : Int) < turn) = true) ∨ (decide (turn < 0) = false ∧ decide ((n : Int) < turn) = false ∧ decide ((20 : Int) < (n : Int)) = true ∧ decide (20 < n) = true) ∨ ∃ T : Nat, turn = T ∧ T ≤ n ∧ n ≤ 20 := by
      by_cases h1 : turn < 0
      · exact .inl (by simpa using h1)
      · by_cases h2 : (n : Int) < turn
        · exact .inr (.inl ⟨by simpa using h1, by simpa using h2⟩)
        · by_cases h3 : 20 < n
          · exact .inr (.inr (.inl ⟨by simpa using h1, by simpa using h2, by rw [decide_eq_true_eq]; omega, by simpa using h3⟩))
          · exact .inr (.inr (.inr ⟨turn.toNat, by omega, by omega, by omega⟩))
    rcases hway with v1 | ⟨v1, v2⟩ | ⟨v1, v2, v3, v3'⟩ | ⟨T, rfl, hT, hn20⟩
    · go_wp2_with fail
      go_ret
      exact ⟨rfl, unhide B2⟩
    · go_wp2_with fail
      go_ret
      exact ⟨rfl, unhide B2⟩
    · go_wp2_with fail
      go_ret
      exact ⟨rfl, unhide B2⟩
    · have v2 : decide (n < T) = false := by rw [decide_eq_false_iff_not]; omega
      have v3 : decide (20 < n) = false := by rw [decide_eq_false_iff_not]; omega
      have hL2 := (unhide HX).after (unhide B2)
      have ownA : (w2.drew.alloc (.cells #[] 23)).ownsRow w2.heap.size 23 5 (.slice (some ⟨w2.heap.size, 0, none⟩) 0 0) 0 [] := by
        have := World.ownsRow_lit (base := w2.heap.size) (e := 23) (size := 5) w2.drew #[] 0 (by simp <;> omega) (by unfold maxLen; omega) (by simp)
        simpa using this
      have hdk : n - T = (l.drop T).length := by rw [List.length_drop, ← unhide HN]
      have htk : T = (l.take T).length := by rw [List.length_take, ← unhide HN]; omega
      have hcut := fun W h => ListIn.cut (R := clR) (w := W) (B := W.heap.size) (A := A) (xs := l) (k := T) (cap := c) h (by rw [← unhide HN]; exact unhide HNC)
      obtain ⟨A2, hA2⟩ : ∃ A2, (if c = T then A else Option.map (fun x => x.add (T * 5)) A) = A2 := ⟨_, rfl⟩
      have e5 : clR.sz = 5 := rfl
      rw [e5, hA2] at hcut
      have srcA : Src (w2.drew.alloc (.cells #[] 23)) 5 A2 (n - T) ((l.drop T).flatMap clR.cells) := (hcut _ (hL2.drew.alloc _)).src_n hdk
      have blA : Below w2.heap.size w2 (w2.drew.alloc (.cells #[] 23)) := (Below.refl _ _).drew.alloc (by simp) _
      have HA := hide (And.intro ownA (And.intro srcA blA))
      have HL2 := hide hL2; have HTK := hide htk; have HDK := hide hdk
      have hj0 : (0 : Int) ≤ (T : Int) := by omega
      have hj1 : (T : Int) ≤ (n : Int) := by omega
      have hnc' := unhide HNC
      have hj2 : (n : Int) ≤ (c : Int) := by omega
      have hj3 : (T : Int) ≤ (c : Int) := by omega
      clear ownA srcA blA hL2 htk hdk hcut e5 hnc'
      go_wp2_with fail
      obtain ⟨hi0, hz0, hz1, hz2⟩ := unhide HI
      go_region_held3 (fun _ => True) (trivial)
        ((first
          | (refine step_append_src _ (by rfl) (.tmp 37) (.tmp 40) 24 (by rfl) w2.heap.size 23 i0 _ 5 56 Tryz.underlying24 hi0 hz0 hz1 hz2 rfl (by omega) (by rfl) (unhide HA).1 (by rfl) (unhide HA).2.1 (rows_one clR _) (by unfold maxLen; omega) (by omega) (by simp <;> omega) ?_
             intro v6 w6 own1 hg1 hat1
             have hg1 : (w2.drew.alloc (.cells #[] 23)).grownBy w6 (some (w2.heap.size)) := hg1
             have b6 := (unhide HA).2.2.grown hg1 (unhide HA).2.2.size (fun j hj => by injection hj with hj; omega)
             rw [Nat.zero_add, List.nil_append] at own1
             have src2 := (((unhide HL2).after b6).take T).src_n (unhide HTK)
             have B6 := hide b6; have O1 := hide own1; have S2 := hide src2
             clear own1 hg1 hat1 src2 b6)
          | (refine step_append_src _ (by rfl) (.tmp 41) (.tmp 44) 24 (by rfl) w2.heap.size 23 i0 _ 5 56 Tryz.underlying24 hi0 hz0 hz1 hz2 rfl (by omega) (by rfl) (unhide O1) (by rfl) (unhide S2) (rows_one clR _) (by unfold maxLen; omega) (by omega) (by have := (unhide B6).size; omega) ?_
             intro v7 w7 own2 hg2 hat2
             have b7 : Below w2.heap.size w2 w7 := below_grown (unhide B6) (unhide O1) (Nat.le_refl _) hg2
             have src3 := ((unhide HL2).after b7).src_n (unhide HN)
             have B7 := hide b7; have O2 := hide own2; have S3 := hide src3
             clear own2 hg2 hat2 b7 src3)
          | (refine step_append_src _ (by rfl) (.tmp 45) (.tmp 46) 24 (by rfl) w2.heap.size 23 i0 _ 5 56 Tryz.underlying24 hi0 hz0 hz1 hz2 rfl (by omega) (by rfl) (unhide O2) (by rfl) (unhide S3) (rows_one clR _) (by unfold maxLen; omega) (by omega) (by have := (unhide B7).size; omega) ?_
             intro v8 w8 own3 hg3 hat3
             have b8 := below_grown (unhide B7) (unhide O2) (Nat.le_refl _) hg3
             have own4 : w8.ownsRow w2.heap.size 23 clR.sz v8 (n + n) ((turnL l T).flatMap clR.cells) := by
               have e8 : n + n = n - T + T + n := by omega
               have e9 : (turnL l T).flatMap clR.cells = (l.drop T).flatMap clR.cells ++ (l.take T).flatMap clR.cells ++ l.flatMap clR.cells := by unfold turnL; simp
               rw [e8, e9]; exact own3
             have O4 := hide own4
             have B8 := hide b8
             clear own3 own4 hg3 hat3 b8)))
      obtain ⟨A8, c8, rfl, hc8, hm8, hn8, hL8⟩ := list_of_own (unhide O4)
      obtain ⟨n2, hn2⟩ : ∃ m, m = n + n := ⟨_, rfl⟩
      rw [← hn2] at hc8 hn8 ⊢
      have HN8 := hide hn8
      have hn2' : n2 ≤ 40 := by omega
      have HL8 := hide hL8
      have B9 := hide ((unhide B2).trans ((unhide B8).mono (unhide B2).size))
      have HLX := hide ((unhide HX).after (unhide B9))
      unfold maxLen at hm8
      clear hn8 hL8 hn2 HA HL2 HTK HDK hA2 O4 O1 O2 S2 S3 B6 B7 B8 v2 v3 hi0 hz0 hz1 hz2
      go_wp2_with fail
      obtain ⟨hi0, hz0, hz1, hz2⟩ := unhide HI
      go_loopw [8, 9] (fun o i wr => ∃ (k : Nat) (v : Value), k ≤ n ∧ i = .int .i64 k ∧ o = v ∧ wr.ownsRow w8.heap.size 23 clR.sz v ((l.take k).filter (ofThing thing)).length (((l.take k).filter (ofThing thing)).flatMap clR.cells) ∧ Below w8.heap.size w8 wr) (fun _ i _ => n - (intOf i).toNat)
      case atStart => exact ⟨0, _, by omega, rfl, rfl, World.ownsRow_nil _ _ _ _, Below.refl _ _⟩
      case round =>
        obtain ⟨k, v0, hk, rfl, rfl, own, hb⟩ := hrel
        obtain ⟨wo, rfl⟩ : ∃ wo : World, wo = wr := ⟨_, rfl⟩
        by_cases hlt : k < n
        · obtain ⟨x, hx⟩ : ∃ x, l[k]? = some x := ⟨l[k]'(by rw [← unhide HN]; exact hlt), List.getElem?_eq_getElem _⟩
          obtain ⟨b, off, rfl, hbb, c0, c1, c2, c3, c4⟩ := cl_at ((unhide HLX).below hb) hx
          have hst := onlyL_take thing l k x hx
          have hyl : ((l.take k).filter (ofThing thing)).length ≤ 100000 := by
            have h1 := List.length_filter_le (ofThing thing) (l.take k)
            have h2 : (l.take k).length ≤ k := List.length_take_le _ _
            omega
          have hws := hb.size
          have i1 : (0 : Int) ≤ (k : Int) := by omega
          have i2 : (k : Int) < (n : Int) := by omega
          have HO := hide own; have HB := hide hb; have HST := hide hst
          clear own hb hst hx
          by_cases hr : x.thing = thing
          · have t1 := eqS_true hr
            have HR := hide hr
            clear hr
            go_wp2_with (at_builtin; refine wpList_push clR rfl (.tmp 61) (.tmp 66) 24 rfl w8.heap.size 23 i0 _ 56 Tryz.underlying24 hi0 hz0 hz1 hz2 rfl (by omega) rfl (unhide HO) x rfl rfl hyl hws ?_; intro v1 w5 own1 hg1; have H5 := hide (And.intro own1 hg1); clear own1 hg1)
            go_roundw
            case rel =>
              obtain ⟨own1, hg1⟩ := unhide H5
              have e := unhide HST
              rw [if_pos (unhide HR)] at e
              rw [← e] at own1
              exact ⟨k + 1, _, by omega, by go_num, rfl, own1, below_grown (unhide HB) (unhide HO) (Nat.le_refl _) hg1⟩
            case measure => simp [intOf]; omega
          · have t1 := eqS_false hr
            have HR := hide hr
            clear hr
            go_wp2_with fail
            go_roundw
            case rel =>
              have e := unhide HST
              rw [if_neg (unhide HR), List.append_nil] at e
              have own1 := unhide HO
              rw [← e] at own1
              exact ⟨k + 1, _, by omega, by go_num, rfl, own1, unhide HB⟩
            case measure => simp [intOf]; omega
        · have hkn : k = n := by omega
          subst hkn
          rw [List.take_of_length_le (by rw [← unhide HN]; omega)] at own
          obtain ⟨A4, c4, rfl, hc4, hc5, -, hL4⟩ := list_of_own own
          obtain ⟨m, hm⟩ : ∃ m, m = (l.filter (ofThing thing)).length := ⟨_, rfl⟩
          rw [← hm] at hc4 ⊢
          have hmn : m ≤ k := by rw [hm, unhide HN]; exact List.length_filter_le _ _
          have B10 := hide ((unhide B9).trans (hb.mono (unhide B9).size))
          have HL4 := hide hL4; have HMM := hide hm
          have HT4 := hide (fun (x : Cl) (hx : x ∈ l.filter (ofThing thing)) => unhide HT x (List.mem_filter.1 hx).1)
          have HT8 := hide (fun (x : Cl) (hx : x ∈ turnL l T) => unhide HT x ((turnL_mem l T x).2 hx))
          have HL8' := hide ((unhide HL8).after hb)
          have HLX' := hide ((unhide HLX).after hb)
          unfold maxLen at hc5
          clear own hb hL4 hm hi0 hz0 hz1 hz2 B9 HL8 HLX
          by_cases hE : wrongC l = 0
          · have hok := wrongC_ok hE
            have hok8 : OkL (turnL l T) := ⟨fun x hx => hok.1 x ((turnL_mem l T x).2 hx), by rw [← unhide HN8]; omega⟩
            have hok4 := OkL.filter hok (ofThing thing)
            have H1 := hide (Award_ok l _ k c wo (unhide HN) hok (unhide HT) (unhide HLX'))
            have H2 := hide (fun W h => Award_ok (turnL l T) A8 n2 c8 W (unhide HN8) hok8 (unhide HT8) h)
            have H3 := hide (fun W h => Award_ok (l.filter (ofThing thing)) A4 m c4 W (unhide HMM) hok4 (unhide HT4) h)
            clear hE hok hok8 hok4
            go_wp2_with fail
            (with_reducible refine (unhide H1).mono ?_); rintro e x1 ⟨va, a, rfl, ha, hal, own1, hb⟩
            have B11 := hide ((unhide B10).trans (hb.mono (unhide B10).size))
            obtain ⟨AA, ca, rfl, hca, hcam, -, hLA⟩ := list_of_own own1
            have HLA := hide hLA; have HAW := hide ha
            have HL8b := hide ((unhide HL8').after hb)
            have HL4b := hide ((unhide HL4).after hb)
            obtain ⟨na, hna⟩ : ∃ m, m = a.length := ⟨_, rfl⟩
            rw [← hna] at hal hca ⊢
            have HNA := hide hna
            unfold maxLen at hcam
            clear hb own1 hLA ha H1 HL4 HL8' B10 hna
            go_wp2_with fail
            (with_reducible refine (unhide H2 _ (unhide HL8b)).mono ?_); rintro e x2 ⟨vb, b, rfl, hbw, hbl, own2, hb⟩
            obtain rfl : b = a := hbw.same (fun x => (turnL_mem l T x).symm) (unhide HAW)
            have B12 := hide ((unhide B11).trans (hb.mono (unhide B11).size))
            rw [← unhide HNA] at own2
            obtain ⟨AB, cb, rfl, hcb, hcbm, -, hLB⟩ := list_of_own own2
            have HLB := hide hLB
            have HLA2 := hide ((unhide HLA).after hb)
            have HL4c := hide ((unhide HL4b).after hb)
            unfold maxLen at hcbm
            clear hb own2 hLB hbw hbl H2 HL8b B11 HLA HL4b
            go_wp2_with fail
            (with_reducible refine (unhide H3 _ (unhide HL4c)).mono ?_); rintro e x3 ⟨vc, d, rfl, hd, hdl, own3, hb⟩
            have B13 := hide ((unhide B12).trans (hb.mono (unhide B12).size))
            obtain ⟨hd1, hd2⟩ := only_short hd
            have HON := hide (fun (nm : ByteArray) (h : (thing, nm) ∈ b) => only_same (unhide HAW) hd h)
            obtain ⟨AD, cd, rfl, hcd, hcdm, -, hLD⟩ := list_of_own own3
            have HLA3 := hide ((unhide HLA2).after hb)
            have HLB3 := hide ((unhide HLB).after hb)
            have HLD := hide hLD
            obtain ⟨nd, hnd⟩ : ∃ m, m = d.length := ⟨_, rfl⟩
            rw [← hnd] at hd1 hcd ⊢
            have HND := hide hnd
            have u1 : decide ((1 : Int) < (nd : Int)) = false := by rw [decide_eq_false_iff_not]; omega
            have u2 : decide (1 < nd) = false := by rw [decide_eq_false_iff_not]; omega
            unfold maxLen at hcdm
            clear hb own3 hLD hd hdl hd2 H3 HL4c B12 HLA2 HLB hnd
            go_wp2_with fail
            (with_reducible refine (Awards_same b AA AB na ca cb x3 (unhide HNA) (by omega) (unhide HLA3) (unhide HLB3)).mono ?_); rintro e x4 ⟨rfl, hl⟩
            have B14 := hide ((unhide B13).trans (hl.1.mono (unhide B13).size))
            have HLA4 := hide ((unhide HLA3).after hl.1)
            have HLD4 := hide ((unhide HLD).after hl.1)
            clear hl B13 HLA3 HLB3 HLD
            go_wp2_with fail
            go_loopw [16] (fun i wr => ∃ j : Nat, j ≤ na ∧ i = .int .i64 j ∧ Laid x4 wr) (fun i _ => na - (intOf i).toNat)
            case atStart => exact ⟨0, by omega, rfl, Laid.refl _⟩
            case round =>
              obtain ⟨j, hj, rfl, hl⟩ := hrel
              obtain ⟨wi, rfl⟩ : ∃ wo : World, wo = wr := ⟨_, rfl⟩
              by_cases hlt2 : j < na
              · obtain ⟨⟨t, nm⟩, hz⟩ : ∃ x, b[j]? = some x := ⟨b[j]'(by rw [← unhide HNA]; exact hlt2), List.getElem?_eq_getElem _⟩
                obtain ⟨ba, oa, rfl, _, d0, d1⟩ := aw_at ((unhide HLA4).below hl.1) hz
                have HL := hide hl
                have j1 : (0 : Int) ≤ (j : Int) := by omega
                have j2 : (j : Int) < (na : Int) := by omega
                by_cases e1 : t = thing
                · subst e1
                  have t1 := eqS_true (rfl : t = t)
                  have hdd := unhide HON nm (List.mem_of_getElem? hz)
                  subst hdd
                  have hnd1 : nd = 1 := unhide HND
                  obtain ⟨bd, od, rfl, _, f0, f1⟩ := aw_at ((unhide HLD4).below hl.1) (i := 0) rfl
                  have u3 : ((nd : Int) != 1) = false := by simp; omega
                  have u4 : ((nd : Int) == 1) = true := by simp; omega
                  have u5 : (0 : Int) < (nd : Int) := by omega
                  have u6 : 0 < nd := by omega
                  have hne := neqAw_self t nm
                  clear hnd1 hl hz
                  simp only [Nat.zero_mul, Nat.add_zero] at f0 f1
                  go_wp2_with fail
                  go_quiet (fail)
                  go_wp2_with fail
                  all_goals
                    go_roundw
                    case rel => exact ⟨j + 1, by omega, by go_num, (unhide HL).drewN _⟩
                    case measure => simp [intOf]; omega
                · have t1 := eqS_false e1
                  clear hl hz e1
                  go_wp2_with fail
                  go_quiet (fail)
                  go_wp2_with fail
                  go_roundw
                  case rel => exact ⟨j + 1, by omega, by go_num, (unhide HL).drewN _⟩
                  case measure => simp [intOf]; omega
              · have HF := hide ((unhide B14).trans (hl.1.mono (unhide B14).size))
                clear hl
                go_wp2_with fail
                go_ret
                exact ⟨rfl, unhide HF⟩
          · have hwt := wrong_turn (T := T) (by rw [← unhide HN]; exact hn20) hE
            have H1 := hide (Award_bad l _ k c wo (unhide HN) (by omega) (unhide HT) (unhide HLX') hE)
            have H2 := hide (fun W h => Award_bad (turnL l T) A8 n2 c8 W (unhide HN8) (by omega) (unhide HT8) h (by rw [hwt]; exact hE))
            have H3 := hide (fun W h => Award_some (l.filter (ofThing thing)) A4 m c4 W (unhide HMM) (by omega) (unhide HT4) h)
            rw [hwt] at H2
            obtain ⟨e0, he0⟩ : ∃ k, k = wrongC l := ⟨_, rfl⟩
            rw [← he0] at H1 H2 hE
            have q1 : (e0 == 0) = false := by simpa using hE
            have q2 : (e0 != 0) = true := by simpa using hE
            have q3 : decide (e0 = 0) = false := by simpa using hE
            clear he0 hE hwt
            go_wp2_with fail
            (with_reducible refine (unhide H1).mono ?_); rintro e x1 ⟨rfl, hb⟩
            have B11 := hide ((unhide B10).trans (hb.mono (unhide B10).size))
            have HL8b := hide ((unhide HL8').after hb)
            have HL4b := hide ((unhide HL4).after hb)
            clear hb H1 HL4 HL8' B10
            go_wp2_with fail
            (with_reducible refine (unhide H2 _ (unhide HL8b)).mono ?_); rintro e x2 ⟨rfl, hb⟩
            have B12 := hide ((unhide B11).trans (hb.mono (unhide B11).size))
            have HL4c := hide ((unhide HL4b).after hb)
            clear hb H2 HL8b B11 HL4b
            go_wp2_with fail
            (with_reducible refine (unhide H3 _ (unhide HL4c)).mono ?_); rintro e x3 ⟨vc, vd, rfl, hb⟩
            have B13 := hide ((unhide B12).trans (hb.mono (unhide B12).size))
            clear hb H3 HL4c B12
            go_wp2_with fail
            go_ret
            exact ⟨rfl, unhide B13⟩
end Go.Proofs.YtgbheogmccfaaaaGreat
