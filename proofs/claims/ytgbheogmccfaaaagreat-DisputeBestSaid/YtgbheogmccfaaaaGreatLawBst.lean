/- Walk: the law DisputeBest. -/
import Derived.Test.YtgbheogmccfaaaaGreatLawSum
namespace Go.Proofs.YtgbheogmccfaaaaGreat
set_option linter.unusedVariables false
set_option linter.unusedSimpArgs false
open Go.RowKit Go.Maps

def okB (t : ByteArray) (c d : Cl) : Bool := !(decide (d.thing = t) && decide (0 < -clCmp d c))
def winB (l : List Cl) (t nm : ByteArray) (c : Cl) : Bool := decide (c.thing = t) && (decide (c.name = nm) && l.all (okB t c))
theorem win_any {l : List Cl} {a : List (ByteArray × ByteArray)} (ha : AwardsOf l a) {t nm : ByteArray} (h : (t, nm) ∈ a) : l.any (winB l t nm) = true := by
  obtain ⟨c, hw, e⟩ := (ha.mem t nm).1 h
  refine List.any_eq_true.2 ⟨c, hw.1, ?_⟩
  have h1 : l.all (okB t c) = true := List.all_eq_true.2 fun d hd => by
    unfold okB
    by_cases hd2 : d.thing = t
    · have h3 := hw.2.2 d hd hd2
      simp only [leC, decide_eq_true_eq] at h3
      have h4 := clCmp_swap c d
      simp [hd2]
      omega
    · simp [hd2]
  simp [winB, hw.2.1, e, h1]
theorem anyT_succ {α : Type} (p : α → Bool) (l : List α) (k : Nat) (x : α) (hx : l[k]? = some x) : (l.take (k + 1)).any p = ((l.take k).any p || p x) := by
  have hk : k < l.length := (List.getElem?_eq_some_iff.1 hx).1
  rw [List.take_succ_eq_append_getElem hk, (List.getElem?_eq_some_iff.1 hx).2, List.any_append]; simp
theorem allT_succ {α : Type} (p : α → Bool) (l : List α) (k : Nat) (x : α) (hx : l[k]? = some x) : (l.take (k + 1)).all p = ((l.take k).all p && p x) := by
  have hk : k < l.length := (List.getElem?_eq_some_iff.1 hx).1
  rw [List.take_succ_eq_append_getElem hk, (List.getElem?_eq_some_iff.1 hx).2, List.all_append]; simp
theorem found_any {l : List Cl} {a : List (ByteArray × ByteArray)} (ha : AwardsOf l a) {c : Cl} (hc : c ∈ l) : a.any (fun x => decide (x.1 = c.thing)) = true := by
  obtain ⟨d, hd⟩ := wins_exists l c hc
  exact List.any_eq_true.2 ⟨(c.thing, d.name), (ha.mem _ _).2 ⟨d, hd, rfl⟩, by simp⟩
theorem aw_in {w : World} {B b off : Nat} {xs : List (ByteArray × ByteArray)} (h : ListIn awR w B (some ⟨b, off, none⟩) xs) {i : Nat} {x : ByteArray × ByteArray} (hx : xs[i]? = some x) :
    w.cell? ⟨b, off + i * 2, none⟩ = some (.string x.1) ∧ w.cell? ⟨b, off + i * 2 + 1, none⟩ = some (.string x.2) := by
  obtain ⟨b', off', e, _, h'⟩ := aw_at h hx
  cases e
  exact h'
theorem eqS_true {a b : ByteArray} (h : a = b) : (a.toList == b.toList) = true := by rw [texts_ne]; simpa using h
theorem eqS_false {a b : ByteArray} (h : a ≠ b) : (a.toList == b.toList) = false := by rw [texts_ne]; simpa using h
theorem ltS_true {a b : ByteArray} (h : tx a < tx b) : Op.bytesLess a.toList b.toList = true := by rw [texts_lt]; simpa using h

set_option maxHeartbeats 8000000 in
set_option maxRecDepth 100000 in
theorem DisputeBest_any (l : List Cl) (A : Option Addr) (n c : Nat) (w : World) (hn : n = l.length) (hm : n ≤ maxLen) (ht : ∀ x ∈ l, Txt x) (hx : ListIn clR w w.heap.size A l) :
    Calls Tryz.prog 6 #[.slice A n c] w fun e w' => e = .returned (.bool true) ∧ Below w.heap.size w w' := by
  have HX := hide hx; have HN := hide hn; have HM := hide hm; have HT := hide ht
  have HLN := hide (fun (h : fewGo 0 l = true) => few_len h)
  clear hx hn hm ht
  go_enter Tryz.func6, Tryz.ntmps6
  go_wp2_with fail
  (with_reducible refine (awake_any _).mono ?_); rintro e w1 ⟨rfl, hb⟩
  have B1 := hide hb
  clear hb
  go_wp2_with fail
  (with_reducible refine (Few_any l A n c w1 (unhide HN) (unhide HM) ((unhide HX).after (unhide B1))).mono ?_); rintro e w2 ⟨rfl, hl⟩
  have B2 := hide ((unhide B1).trans (hl.1.mono (unhide B1).size))
  clear hl B1
  obtain ⟨r1, hr1⟩ : ∃ r, r = fewGo 0 l := ⟨_, rfl⟩
  rw [← hr1] at HLN ⊢
  clear hr1
  cases r1
  · go_wp2_with fail
    go_ret
    exact ⟨rfl, unhide B2⟩
  · have hl41 : n ≤ 41 := by rw [unhide HN]; exact unhide HLN rfl
    by_cases hE : wrongC l = 0
    · have H1 := hide (Award_ok l A n c w2 (unhide HN) (wrongC_ok hE) (unhide HT) ((unhide HX).after (unhide B2)))
      clear hE
      go_wp2_with fail
      (with_reducible refine (unhide H1).mono ?_); rintro e w3 ⟨v, a, rfl, ha, hal, own, hb⟩
      have B3 := hide ((unhide B2).trans (hb.mono (unhide B2).size))
      obtain ⟨A3, c3, rfl, hc3, hcm, -, hL3⟩ := list_of_own own
      obtain ⟨m, hm⟩ : ∃ m, m = a.length := ⟨_, rfl⟩
      rw [← hm] at hal hc3 ⊢
      have HMM := hide hm; have HLA := hide hL3; have HAW := hide ha
      have HLX := hide ((unhide HX).after (unhide B3))
      unfold maxLen at hcm
      clear own hb hL3 ha hm B2 H1
      go_wp2_with fail
      go_loopw [5] (fun i wr => ∃ k : Nat, k ≤ m ∧ i = .int .i64 k ∧ Laid w3 wr) (fun i _ => m - (intOf i).toNat)
      case atStart => exact ⟨0, by omega, rfl, Laid.refl _⟩
      case round =>
        obtain ⟨i, hi, rfl, hl⟩ := hrel
        obtain ⟨wo, rfl⟩ : ∃ wo : World, wo = wr := ⟨_, rfl⟩
        by_cases hlt : i < m
        · obtain ⟨⟨t, nm⟩, hxa⟩ : ∃ x, a[i]? = some x := ⟨a[i]'(by rw [← unhide HMM]; exact hlt), List.getElem?_eq_getElem _⟩
          obtain ⟨ba, oa, rfl, _, d0, d1⟩ := aw_at ((unhide HLA).below hl.1) hxa
          have hwin := win_any (unhide HAW) (List.mem_of_getElem? hxa)
          have HWIN := hide hwin
          have HXA := hide hxa
          have i1 : (0 : Int) ≤ (i : Int) := by omega
          have i2 : (i : Int) < (m : Int) := by omega
          have HL := hide hl
          have hway : (decide ((0 : Int) < (i : Int)) = false ∧ decide (0 < i) = false) ∨ ∃ (i' : Nat) (x : ByteArray × ByteArray), (decide ((0 : Int) < (i : Int)) = true ∧ decide (0 < i) = true) ∧ IntKind.i64.wrap ((i : Int) - 1) = (i' : Int) ∧ i' < m ∧ a[i']? = some x ∧ Op.bytesLess x.1.toList t.toList = true := by
            by_cases h0 : 0 < i
            · obtain ⟨i', rfl⟩ : ∃ i', i = i' + 1 := ⟨i - 1, by omega⟩
              obtain ⟨x, hx⟩ : ∃ x, a[i']? = some x := ⟨a[i']'(by rw [← unhide HMM]; omega), List.getElem?_eq_getElem _⟩
              have hs := List.pairwise_iff_getElem.1 (unhide HAW).sorted i' (i' + 1) (List.getElem?_eq_some_iff.1 hx).1 (List.getElem?_eq_some_iff.1 hxa).1 (by omega)
              rw [(List.getElem?_eq_some_iff.1 hx).2, (List.getElem?_eq_some_iff.1 hxa).2] at hs
              exact .inr ⟨i', x, ⟨by rw [decide_eq_true_eq]; omega, by simp⟩, wrapI (by omega) (by omega), by omega, hx, ltS_true hs⟩
            · exact .inl ⟨by rw [decide_eq_false_iff_not]; omega, by rw [decide_eq_false_iff_not]; omega⟩
          clear hwin hxa hl
          rcases hway with ⟨v1, v1'⟩ | ⟨i', x, ⟨v1, v1'⟩, cw, hi', hx', v2⟩
          rotate_left
          have e2 := aw_in ((unhide HLA).below (unhide HL).1) hx'
          obtain ⟨f0, f1⟩ := e2
          have i3 : (0 : Int) ≤ (i' : Int) := by omega
          have i4 : (i' : Int) < (m : Int) := by omega
          clear hx'
          all_goals
            go_wp2_with fail
            go_quiet (fail)
            go_wp2_with fail
            have HL1 := hide ((unhide HL).drewN nq)
            clear d0 d1 HL
            try clear f0 f1
            go_loopw [6, 7] (fun b k wr => ∃ (q : Nat) (bb : Bool), q ≤ n ∧ k = .int .i64 q ∧ b = .bool bb ∧ Hid (bb = (l.take q).any (winB l t nm)) ∧ Laid w3 wr) (fun _ k _ => n - (intOf k).toNat)
            case atStart => exact ⟨0, false, by omega, rfl, rfl, hide rfl, unhide HL1⟩
            case round =>
              obtain ⟨q, bb, hq, rfl, rfl, HBB, hl⟩ := hrel
              obtain ⟨wi, rfl⟩ : ∃ wo : World, wo = wr := ⟨_, rfl⟩
              by_cases hlt2 : q < n
              · obtain ⟨y, hy⟩ : ∃ x, l[q]? = some x := ⟨l[q]'(by rw [← unhide HN]; exact hlt2), List.getElem?_eq_getElem _⟩
                obtain ⟨b, off, rfl, hbb, c0, c1, c2, c3_, c4⟩ := cl_at ((unhide HLX).below hl.1) hy
                obtain ⟨d0, d1⟩ := aw_in ((unhide HLA).below hl.1) (unhide HXA)
                have hst := anyT_succ (winB l t nm) l q y hy
                rw [← unhide HBB] at hst
                have HST := hide hst
                have HL2 := hide hl
                have HY := hide hy
                have j1 : (0 : Int) ≤ (q : Int) := by omega
                have j2 : (q : Int) < (n : Int) := by omega
                have hway2 : ((y.thing.toList == t.toList) = false ∧ Hid (winB l t nm y = false)) ∨ ((y.thing.toList == t.toList) = true ∧ (y.name.toList == nm.toList) = false ∧ Hid (winB l t nm y = false)) ∨ ((y.thing.toList == t.toList) = true ∧ (y.name.toList == nm.toList) = true ∧ Hid (winB l t nm y = l.all (okB t y))) := by
                  by_cases e1 : y.thing = t
                  · by_cases e2 : y.name = nm
                    · exact .inr (.inr ⟨eqS_true e1, eqS_true e2, hide (by simp [winB, e1, e2])⟩)
                    · exact .inr (.inl ⟨eqS_true e1, eqS_false e2, hide (by simp [winB, e2])⟩)
                  · exact .inl ⟨eqS_false e1, hide (by simp [winB, e1])⟩
                clear hst hl hy
                rcases hway2 with ⟨p1, HW⟩ | ⟨p1, p2, HW⟩ | ⟨p1, p2, HW⟩
                rotate_left 2
                · go_wp2_with fail
                  go_quiet (fail)
                  go_wp2_with fail
                  have HL3 := hide ((unhide HL2).drewN nq)
                  clear c0 c1 c2 c3_ c4 d0 d1 HL2
                  go_loopw [8, 9] (fun b k wr => ∃ (s : Nat) (be : Bool), s ≤ n ∧ k = .int .i64 s ∧ b = .bool be ∧ Hid (be = (l.take s).all (okB t y)) ∧ Laid w3 wr) (fun _ k _ => n - (intOf k).toNat)
                  case atStart => exact ⟨0, true, by omega, rfl, rfl, hide rfl, unhide HL3⟩
                  case round =>
                    obtain ⟨s, be, hs, rfl, rfl, HBE, hl⟩ := hrel
                    obtain ⟨wk, rfl⟩ : ∃ wo : World, wo = wr := ⟨_, rfl⟩
                    by_cases hlt3 : s < n
                    · obtain ⟨z, hz⟩ : ∃ x, l[s]? = some x := ⟨l[s]'(by rw [← unhide HN]; exact hlt3), List.getElem?_eq_getElem _⟩
                      have hcl : ∀ W, Below w3.heap.size w3 W → (W.cell? ⟨ba, oa + i * 2, none⟩ = some (.string t) ∧ W.cell? ⟨b, off + s * 5, none⟩ = some (.string z.name) ∧ W.cell? ⟨b, off + s * 5 + 1, none⟩ = some (.string z.thing) ∧ W.cell? ⟨b, off + s * 5 + 2, none⟩ = some (.int .i64 z.right) ∧ W.cell? ⟨b, off + s * 5 + 3, none⟩ = some (.int .i64 z.day) ∧ W.cell? ⟨b, off + s * 5 + 4, none⟩ = some (.int .i64 z.amount) ∧ W.cell? ⟨b, off + q * 5, none⟩ = some (.string y.name) ∧ W.cell? ⟨b, off + q * 5 + 1, none⟩ = some (.string y.thing) ∧ W.cell? ⟨b, off + q * 5 + 2, none⟩ = some (.int .i64 y.right) ∧ W.cell? ⟨b, off + q * 5 + 3, none⟩ = some (.int .i64 y.day) ∧ W.cell? ⟨b, off + q * 5 + 4, none⟩ = some (.int .i64 y.amount)) := fun W hW => by
                        obtain ⟨a0, a1, a2, a3, a4⟩ := cl_in ((unhide HLX).below hW) hz
                        obtain ⟨b0, b1, b2, b3, b4⟩ := cl_in ((unhide HLX).below hW) (unhide HY)
                        exact ⟨(aw_in ((unhide HLA).below hW) (unhide HXA)).1, a0, a1, a2, a3, a4, b0, b1, b2, b3, b4⟩
                      obtain ⟨g0, g1, g2, g3, g4, g5, g6, g7, g8, g9, g10⟩ := hcl wk hl.1
                      have hst := allT_succ (okB t y) l s z hz
                      rw [← unhide HBE] at hst
                      have HST3 := hide hst
                      have HCL := hide hcl
                      have HL4 := hide hl
                      have HBT := hide (fun W => Better_any z y W)
                      obtain ⟨x1, hx1⟩ : ∃ x, x = -clCmp z y := ⟨_, rfl⟩
                      rw [← hx1] at HBT
                      have hway3 : ((z.thing.toList == t.toList) = false ∧ Hid (okB t y z = true)) ∨ ((z.thing.toList == t.toList) = true ∧ decide (0 < x1) = true ∧ Hid (okB t y z = false)) ∨ ((z.thing.toList == t.toList) = true ∧ decide (0 < x1) = false ∧ Hid (okB t y z = true)) := by
                        by_cases e1 : z.thing = t
                        · by_cases e2 : 0 < x1
                          · exact .inr (.inl ⟨eqS_true e1, by simpa using e2, hide (by rw [hx1] at e2; simp [okB, e1]; omega)⟩)
                          · exact .inr (.inr ⟨eqS_true e1, by simpa using e2, hide (by rw [hx1] at e2; simp [okB, e1]; omega)⟩)
                        · exact .inl ⟨eqS_false e1, hide (by simp [okB, e1])⟩
                      have k1 : (0 : Int) ≤ (s : Int) := by omega
                      have k2 : (s : Int) < (n : Int) := by omega
                      clear hst hcl hl hx1 hz
                      rcases hway3 with ⟨r1, HO⟩ | ⟨r1, r2, HO⟩ | ⟨r1, r2, HO⟩
                      · go_wp2_with fail
                        go_quiet (fail)
                        go_wp2_with fail
                        go_roundw
                        case rel => exact ⟨s + 1, be, by omega, by go_num, rfl, hide (by rw [unhide HST3, unhide HO, Bool.and_true]), (unhide HL4).drewN _⟩
                        case measure => simp [intOf]; omega
                      all_goals
                        have BD := hide (unhide HL4).drew
                        go_wp2_with fail
                        go_region_held3 (fun w' => w'.cell? ⟨ba, oa + i * 2, none⟩ = some (.string t) ∧ w'.cell? ⟨b, off + s * 5, none⟩ = some (.string z.name) ∧ w'.cell? ⟨b, off + s * 5 + 1, none⟩ = some (.string z.thing) ∧ w'.cell? ⟨b, off + s * 5 + 2, none⟩ = some (.int .i64 z.right) ∧ w'.cell? ⟨b, off + s * 5 + 3, none⟩ = some (.int .i64 z.day) ∧ w'.cell? ⟨b, off + s * 5 + 4, none⟩ = some (.int .i64 z.amount) ∧ w'.cell? ⟨b, off + q * 5, none⟩ = some (.string y.name) ∧ w'.cell? ⟨b, off + q * 5 + 1, none⟩ = some (.string y.thing) ∧ w'.cell? ⟨b, off + q * 5 + 2, none⟩ = some (.int .i64 y.right) ∧ w'.cell? ⟨b, off + q * 5 + 3, none⟩ = some (.int .i64 y.day) ∧ w'.cell? ⟨b, off + q * 5 + 4, none⟩ = some (.int .i64 y.amount)) (exact unhide HCL _ (unhide ‹Hid (Laid w3 _)›).1)
                          (first | (go_at_call 13; (with_reducible refine (unhide HBT _).mono ?_); rintro e w7 ⟨rfl, hl7⟩; have HL7 := hide ((unhide ‹Hid (Laid w3 _)›).trans hl7); clear hl7))
                        go_wp2_with fail
                        go_roundw
                        case rel => exact ⟨s + 1, _, by omega, by go_num, rfl, hide (by rw [unhide HST3, unhide HO]; simp), unhide HL7⟩
                        case measure => simp [intOf]; omega
                    · have hsn : s = n := by omega
                      have hall : be = l.all (okB t y) := by have := unhide HBE; rwa [List.take_of_length_le (by rw [← unhide HN]; omega)] at this
                      have HST2 := hide (show (l.take (q + 1)).any (winB l t nm) = (bb || be) by rw [unhide HST, unhide HW, hall])
                      have HL4 := hide hl
                      clear hall hl
                      cases bb
                      all_goals
                        go_wp2_with fail
                        go_roundw
                        case rel => exact ⟨q + 1, _, by omega, by go_num, rfl, hide (by rw [unhide HST2]; simp), unhide HL4⟩
                        case measure => simp [intOf]; omega
                all_goals
                  go_wp2_with fail
                  go_quiet (fail)
                  go_wp2_with fail
                  go_roundw
                  case rel => exact ⟨q + 1, bb, by omega, by go_num, rfl, hide (by rw [unhide HST, unhide HW, Bool.or_false]), (unhide HL2).drewN _⟩
                  case measure => simp [intOf]; omega
              · have hqn : q = n := by omega
                have hb1 : bb = true := by have := unhide HBB; rw [List.take_of_length_le (by rw [← unhide HN]; omega), unhide HWIN] at this; exact this
                subst hb1
                have HL3 := hide hl
                clear hl
                go_wp2_with fail
                go_roundw
                case rel => exact ⟨i + 1, by omega, by go_num, unhide HL3⟩
                case measure => simp [intOf]; omega
        · have HL := hide hl
          clear hl
          go_wp2_with fail
          go_loopw [10] (fun i wr => ∃ k : Nat, k ≤ n ∧ i = .int .i64 k ∧ Laid w3 wr) (fun i _ => n - (intOf i).toNat)
          case atStart => exact ⟨0, by omega, rfl, unhide HL⟩
          case round =>
            obtain ⟨q, hq, rfl, hl⟩ := hrel
            obtain ⟨wi, rfl⟩ : ∃ wo : World, wo = wr := ⟨_, rfl⟩
            by_cases hlt2 : q < n
            · obtain ⟨y, hy⟩ : ∃ x, l[q]? = some x := ⟨l[q]'(by rw [← unhide HN]; exact hlt2), List.getElem?_eq_getElem _⟩
              have HF := hide (found_any (unhide HAW) (List.mem_of_getElem? hy))
              have HY := hide hy
              have HL2 := hide hl
              have j1 : (0 : Int) ≤ (q : Int) := by omega
              have j2 : (q : Int) < (n : Int) := by omega
              clear hy hl
              go_wp2_with fail
              go_loopw [11, 12] (fun b k wr => ∃ (s : Nat) (be : Bool), s ≤ m ∧ k = .int .i64 s ∧ b = .bool be ∧ Hid (be = (a.take s).any (fun x => decide (x.1 = y.thing))) ∧ Laid w3 wr) (fun _ k _ => m - (intOf k).toNat)
              case atStart => exact ⟨0, false, by omega, rfl, rfl, hide rfl, unhide HL2⟩
              case round =>
                obtain ⟨s, be, hs, rfl, rfl, HBE, hl⟩ := hrel
                obtain ⟨wk, rfl⟩ : ∃ wo : World, wo = wr := ⟨_, rfl⟩
                by_cases hlt3 : s < m
                · obtain ⟨⟨t, nm⟩, hz⟩ : ∃ x, a[s]? = some x := ⟨a[s]'(by rw [← unhide HMM]; exact hlt3), List.getElem?_eq_getElem _⟩
                  obtain ⟨b, off, rfl, hbb, c0, c1, c2, c3_, c4⟩ := cl_at ((unhide HLX).below hl.1) (unhide HY)
                  obtain ⟨ba, oa, rfl, _, d0, d1⟩ := aw_at ((unhide HLA).below hl.1) hz
                  have hst := anyT_succ (fun x : ByteArray × ByteArray => decide (x.1 = y.thing)) a s (t, nm) hz
                  rw [← unhide HBE] at hst
                  have HST := hide hst
                  have HL3 := hide hl
                  have k1 : (0 : Int) ≤ (s : Int) := by omega
                  have k2 : (s : Int) < (m : Int) := by omega
                  have hway3 : ((t.toList == y.thing.toList) = true ∧ Hid (decide (t = y.thing) = true)) ∨ ((t.toList == y.thing.toList) = false ∧ Hid (decide (t = y.thing) = false)) := by
                    by_cases e1 : t = y.thing
                    · exact .inl ⟨eqS_true e1, hide (by simpa using e1)⟩
                    · exact .inr ⟨eqS_false e1, hide (by simpa using e1)⟩
                  clear hst hl hz
                  rcases hway3 with ⟨r1, HO⟩ | ⟨r1, HO⟩
                  all_goals
                    cases be
                    all_goals
                      go_wp2_with fail
                      go_quiet (fail)
                      go_wp2_with fail
                      go_roundw
                      case rel => exact ⟨s + 1, _, by omega, by go_num, rfl, hide (by rw [unhide HST]; first | rfl | (rw [unhide HO]; rfl)), (unhide HL3).drewN _⟩
                      case measure => simp [intOf]; omega
                · have hb1 : be = true := by have := unhide HBE; rw [List.take_of_length_le (by rw [← unhide HMM]; omega), unhide HF] at this; exact this
                  subst hb1
                  have HL3 := hide hl
                  clear hl
                  go_wp2_with fail
                  go_roundw
                  case rel => exact ⟨q + 1, by omega, by go_num, unhide HL3⟩
                  case measure => simp [intOf]; omega
            · have HFI := hide ((unhide B3).trans (hl.1.mono (unhide B3).size))
              clear hl
              go_wp2_with fail
              go_ret
              exact ⟨rfl, unhide HFI⟩
    · have H1 := hide (Award_bad l A n c w2 (unhide HN) (by omega) (unhide HT) ((unhide HX).after (unhide B2)) hE)
      obtain ⟨k, hk⟩ : ∃ k, k = wrongC l := ⟨_, rfl⟩
      rw [← hk] at H1 hE
      have q1 : (k == 0) = false := by simpa using hE
      have q2 : (k != 0) = true := by simpa using hE
      have q3 : decide (k = 0) = false := by simpa using hE
      clear hk hE
      go_wp2_with fail
      (with_reducible refine (unhide H1).mono ?_); rintro e w3 ⟨rfl, hb⟩
      have B3 := hide ((unhide B2).trans (hb.mono (unhide B2).size))
      clear hb B2 H1
      go_wp2_with fail
      go_ret
      exact ⟨rfl, unhide B3⟩
end Go.Proofs.YtgbheogmccfaaaaGreat
