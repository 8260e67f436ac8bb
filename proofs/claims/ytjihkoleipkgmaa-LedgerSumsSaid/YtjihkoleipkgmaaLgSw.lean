/- The law LedgerSums, walked. -/
import Derived.Test.YtjihkoleipkgmaaLgSu
namespace Go.Proofs.Ytjihkoleipkgmaa
set_option linter.unusedVariables false
set_option linter.unusedSimpArgs false
open Go.RowKit Go.Maps

theorem allChg_take (P : List Po) (k : Nat) (po : Po) (h : P[k]? = some po) (n c : ByteArray) : allChg (P.take (k + 1)) n c = allChg (P.take k) n c + chg po.ents n c := by
  rw [List.take_add_one, h, Option.toList_some, allChg_snoc]
theorem chg_take1 (x : List En) (k : Nat) (e : En) (h : x[k]? = some e) (n c : ByteArray) : chg (x.take (k + 1)) n c = chg (x.take k) n c + if isE n c e = true then e.amt else 0 := by
  rw [List.take_add_one, h, Option.toList_some, chg_snoc]
theorem none_list : (⟨#[110, 111, 110, 101]⟩ : ByteArray).toList = [110, 111, 110, 101] := by rw [ByteArray.toList_eq]

set_option maxHeartbeats 16000000 in
set_option maxRecDepth 100000 in
theorem LedgerSums_any (xs : List Aa) (A : Option Addr) (nn c : Nat) (w : World) (hn : nn = xs.length) (hc : nn ≤ maxLen) (hl : ListIn aaR w w.heap.size A xs) (hs : ∀ x ∈ xs, x.Came w) :
    Calls Try.prog 5 #[.slice A nn c] w fun e w' => e = .returned (.bool true) ∧ Below w.heap.size w w' := by
  have HN := hide hn; have HX := hide hl; have HS := hide hs; have HC := hide hc
  obtain ⟨fb, hfb⟩ : ∃ b, b = fewB xs := ⟨_, rfl⟩
  have HFB := hide hfb
  clear hn hl hs hc hfb
  go_enter Try.func5, Try.ntmps5
  go_wp2_with fail
  (with_reducible refine (awake_any w).mono ?_); rintro e w1 ⟨rfl, hb⟩
  have B1 := hide hb
  have HF := hide (few_any w1 xs A nn c (unhide HN) (unhide HC) ((unhide HX).after hb) (fun x hx => ⟨(unhide HS x hx).a, (unhide HS x hx).len⟩))
  rw [← unhide HFB] at HF
  clear hb
  go_wp2_with fail
  (with_reducible refine (unhide HF).mono ?_); rintro e w1' ⟨rfl, rfl⟩
  clear HF
  cases fb with
  | false =>
    go_wp2_with fail
    (with_reducible refine (awake_any w1).mono ?_); rintro e w2 ⟨rfl, hb⟩
    have B2 := hide ((unhide B1).trans (hb.mono (unhide B1).size))
    clear hb
    go_wp2_with fail
    go_ret
    exact ⟨rfl, unhide B2⟩
  | true =>
    obtain ⟨h40, hin⟩ := few_in (unhide HS) (unhide HFB).symm
    rw [← unhide HN] at h40
    have HP := hide (played_any w1 xs A nn c (unhide HN) (by omega) ((unhide HX).after (unhide B1)) (fun x hx => (hin x hx).after (unhide B1)))
    have hfew := few_run (xs := xs) (fun y hy => (hin y hy).good.len)
    rw [← unhide HN] at hfew
    have hbo := (run_ok xs).2
    obtain ⟨s, hsr⟩ : ∃ s, s = runS xs := ⟨_, rfl⟩
    rw [← hsr] at HP hfew hbo
    have HFW := hide hfew
    have HBO := hide hbo
    clear hin hsr hfew hbo
    go_wp2_with fail
    (with_reducible refine (unhide HP).mono ?_); rintro e w2 ⟨v, rfl, hL, hb⟩
    have HL := hide hL
    have B2 := hide ((unhide B1).trans (hb.mono (unhide B1).size))
    clear hL hb HP
    go_wp2_with fail
    (with_reducible refine (Posts_in w2 _ _ _ _ _ _ _ (unhide HL) (by omega) (fun po hpo => by have := (unhide HFW).ents po hpo; omega)).mono ?_); rintro e w3 ⟨A3, c3, rfl, hp3, hc3, hm3, hb⟩
    have B3 := hide ((unhide B2).trans (hb.mono (unhide B2).size))
    have P3 := hide hp3
    have L3 := hide hb
    clear hp3 hb
    go_wp2_with fail
    (with_reducible refine (Accounts_any w3 _ _ _ _ _ _ _ ((unhide HL).after (unhide L3)) (by omega) (by have := (unhide HFW).len; omega)).mono ?_); rintro e w4 ⟨A4, c4, ys, rfl, hac, hl4, hc4, hm4, hy4, hb⟩
    have B4 := hide ((unhide B3).trans (hb.mono (unhide B3).size))
    have P4 := hide ((unhide P3).after hb)
    have L4 := hide ((unhide L3).trans (hb.mono (unhide L3).size))
    have X4 := hide hl4
    have HAC := hide hac
    have hnp : s.P.length ≤ 90 := by have := (unhide HL).np; omega
    clear hb hl4 hac
    obtain ⟨ny, hny⟩ : ∃ k, k = ys.length := ⟨_, rfl⟩
    obtain ⟨np, hnp0⟩ : ∃ k, k = s.P.length := ⟨_, rfl⟩
    rw [← hny] at hc4 hy4 ⊢
    rw [← hnp0] at hc3 hnp ⊢
    unfold maxLen at hm3 hm4
    have HNY := hide hny; have HNP := hide hnp0
    clear hny hnp0
    go_wp2_with fail
    go_loopw [6, 7, 29] (fun _ _ i wr => ∃ k : Nat, k ≤ ny ∧ i = .int .i64 k ∧ Below w4.heap.size w4 wr) (fun _ _ i _ => ny - (intOf i).toNat)
    case atStart => exact ⟨0, Nat.zero_le _, rfl, Below.refl _ _⟩
    case round =>
      obtain ⟨k, hk, rfl, hb⟩ := hrel
      obtain ⟨wo, rfl⟩ : ∃ wo : World, wo = wr := ⟨_, rfl⟩
      by_cases hlt : k < ny
      · obtain ⟨y, hy⟩ : ∃ x, ys[k]? = some x := ⟨ys[k]'(by rw [← unhide HNY]; exact hlt), List.getElem?_eq_getElem _⟩
        obtain ⟨a, ha, hay⟩ := (unhide HAC).mem (List.mem_of_getElem? hy)
        obtain ⟨b1, o1, rfl, hbb1, e0, e1, e2⟩ := en_at ((unhide X4).after hb) hy
        obtain ⟨y1, hy1⟩ : ∃ z, z = y.acct := ⟨_, rfl⟩
        obtain ⟨y2, hy2⟩ : ∃ z, z = y.cur := ⟨_, rfl⟩
        obtain ⟨y3, hy3⟩ : ∃ z, z = y.amt := ⟨_, rfl⟩
        rw [← hy1] at e0; rw [← hy2] at e1; rw [← hy3] at e2
        have hbal : y3 = allChg s.P y1 y2 := by
          have h1 := (unhide HBO).bal a ha
          rw [hy1, hy2, hy3, ← hay]
          exact h1
        have hfa : findA s.A y1 y2 = some a := by
          have h1 := findA_mem (unhide HL).ok ha
          rw [hy1, hy2, ← hay]
          exact h1
        have hsm := (unhide HL).ok.small ha
        have hy3r : -1099511627776 ≤ y3 ∧ y3 ≤ 1099511627776 := by
          have e : y3 = a.bal := by rw [hy3, ← hay]; rfl
          unfold mostI at hsm
          rw [e]; omega
        have hysz : y1.size ≤ maxLen ∧ y2.size ≤ maxLen := by
          have h1 := (unhide HL).ok.name a ha
          have q1 := okName_size h1.1
          have q2 := okCur_size h1.2
          rw [hy1, hy2, ← hay]
          unfold toEn maxLen
          simp only
          omega
        have HBAL := hide hbal; have HFA := hide hfa; have HYR := hide hy3r; have HYS := hide hysz
        have hal := (Below.refl wo.heap.size wo).alloc (Nat.le_refl _) (.cells #[.string y1, .string y2, .int .i64 y3] 44)
        have hbx := hb.trans (hal.mono hb.size)
        have hKX := Whole.made wo 44 #[.string y1, .string y2, .int .i64 y3]
        have i1 : (0 : Int) ≤ (k : Int) := by omega
        have i2 : (k : Int) < (ny : Int) := by omega
        have HB := hide hb
        obtain ⟨wx, hwx⟩ : ∃ W, wo.alloc (.cells #[.string y1, .string y2, .int .i64 y3] 44) = W := ⟨_, rfl⟩
        rw [hwx] at hbx hKX
        have KX := hide hKX; have BX := hide hbx
        obtain ⟨bx, hbxn⟩ : ∃ b, wo.heap.size = b := ⟨_, rfl⟩
        rw [hbxn] at KX
        clear hy ha hay hy1 hy2 hy3 hbal hfa hsm hy3r hysz hb hal hbx hKX
        go_wp2_with fail
        clear hwx
        go_loopw [7, 35] (fun n j wr => ∃ q : Nat, q ≤ np ∧ j = .int .i64 q ∧ n = .int .i64 (wrap64 (allChg (s.P.take q) y1 y2)) ∧ Below wx.heap.size wx wr) (fun _ j _ => np - (intOf j).toNat)
        case atStart => exact ⟨0, Nat.zero_le _, rfl, by simp [allChg, wrap64], Below.refl _ _⟩
        case round =>
          obtain ⟨q, hq, rfl, rfl, hb⟩ := hrel
          obtain ⟨wp, rfl⟩ : ∃ wp : World, wp = wr := ⟨_, rfl⟩
          by_cases hlt : q < np
          · obtain ⟨po, hpo⟩ : ∃ x, s.P[q]? = some x := ⟨s.P[q]'(by rw [← unhide HNP]; exact hlt), List.getElem?_eq_getElem _⟩
            have hbw := (unhide BX).trans (hb.mono (unhide BX).size)
            obtain ⟨b2, o2, E, d, rfl, hbb2, f0, f1, f2, hE⟩ := ((unhide P4).after hbw).at hpo
            have hst := allChg_take s.P q po hpo y1 y2
            have hel := (unhide HFW).ents po (List.mem_of_getElem? hpo)
            obtain ⟨ne, hne⟩ : ∃ k, k = po.ents.length := ⟨_, rfl⟩
            rw [← hne] at f2 hel
            obtain ⟨S0, hS0⟩ : ∃ z, z = allChg (s.P.take q) y1 y2 := ⟨_, rfl⟩
            rw [← hS0] at hst ⊢
            have HST := hide hst; have HNE := hide hne; have HE := hide hE
            have hal := (Below.refl wp.heap.size wp).alloc (Nat.le_refl _) (.cells #[.int .i64 ((q : Int) + 1), .string po.text, .slice E ne d] 46)
            have hba := hb.trans (hal.mono hb.size)
            have cV := (Whole.made wp 46 #[.int .i64 ((q : Int) + 1), .string po.text, .slice E ne d]).cells 2
            simp only [List.getElem?_toArray, List.getElem?_cons_zero, List.getElem?_cons_succ] at cV
            have HEA := hide (hE.after hal)
            have i3 : (0 : Int) ≤ (q : Int) := by omega
            have i4 : (q : Int) < (np : Int) := by omega
            obtain ⟨wv, hwv⟩ : ∃ W, wp.alloc (.cells #[.int .i64 ((q : Int) + 1), .string po.text, .slice E ne d] 46) = W := ⟨_, rfl⟩
            rw [hwv] at hba cV HEA
            have BV := hide hba
            clear hpo hbw hst hne hS0 hE hal hba hb
            go_wp2_with fail
            clear hwv
            go_loopw [7, 42] (fun n j wr => ∃ m : Nat, m ≤ ne ∧ j = .int .i64 m ∧ n = .int .i64 (wrap64 (S0 + chg (po.ents.take m) y1 y2)) ∧ Below wv.heap.size wv wr) (fun _ j _ => ne - (intOf j).toNat)
            case atStart => exact ⟨0, Nat.zero_le _, rfl, by simp [chg], Below.refl _ _⟩
            case round =>
              obtain ⟨m, hm, rfl, rfl, hb⟩ := hrel
              obtain ⟨wz, rfl⟩ : ∃ wz : World, wz = wr := ⟨_, rfl⟩
              by_cases hlt : m < ne
              · obtain ⟨z, hz⟩ : ∃ x, po.ents[m]? = some x := ⟨po.ents[m]'(by rw [← unhide HNE]; exact hlt), List.getElem?_eq_getElem _⟩
                obtain ⟨b3, o3, rfl, hbb3, g0, g1, g2⟩ := en_at ((unhide HEA).after hb) hz
                have hst := chg_take1 po.ents m z hz y1 y2
                have hbx3 := (unhide BV).trans (hb.mono (unhide BV).size)
                have hal := (Below.refl wz.heap.size wz).alloc (Nat.le_refl _) (.cells #[.string z.acct, .string z.cur, .int .i64 z.amt] 44)
                have cX := ((unhide KX).after (hbx3.trans (hal.mono hbx3.size))).cells
                have x0 := cX 0; have x1 := cX 1
                simp only [List.getElem?_toArray, List.getElem?_cons_zero, List.getElem?_cons_succ] at x0 x1
                have hba := hb.trans (hal.mono hb.size)
                have HBA := hide hba
                have i5 : (0 : Int) ≤ (m : Int) := by omega
                have i6 : (m : Int) < (ne : Int) := by omega
                obtain ⟨S1, hS1⟩ : ∃ z, z = chg (po.ents.take m) y1 y2 := ⟨_, rfl⟩
                rw [← hS1] at hst ⊢
                have HST1 := hide hst
                clear hz hst hbx3 hal cX hba hS1 hb
                by_cases ha1 : z.acct = y1
                · have d1 := eqS_true ha1
                  by_cases ha2 : z.cur = y2
                  · have d2 := eqS_true ha2
                    have HI := hide (show isE y1 y2 z = true by simp [isE, ha1, ha2])
                    clear ha1 ha2
                    go_wp2_with fail
                    go_roundw
                    case rel => exact ⟨m + 1, by omega, by go_num, by rw [unhide HST1, if_pos (unhide HI), wrap_add, Int.add_assoc], unhide HBA⟩
                    case measure => simp [intOf]; omega
                  · have d2 := eqS_false ha2
                    have HI := hide (show isE y1 y2 z = false by simp [isE, ha2])
                    clear ha1 ha2
                    go_wp2_with fail
                    go_roundw
                    case rel => exact ⟨m + 1, by omega, by go_num, by rw [unhide HST1, unhide HI]; simp, unhide HBA⟩
                    case measure => simp [intOf]; omega
                · have d1 := eqS_false ha1
                  have HI := hide (show isE y1 y2 z = false by simp [isE, ha1])
                  clear ha1
                  go_wp2_with fail
                  go_roundw
                  case rel => exact ⟨m + 1, by omega, by go_num, by rw [unhide HST1, unhide HI]; simp, unhide HBA⟩
                  case measure => simp [intOf]; omega
              · obtain rfl : m = ne := by omega
                have hfin : po.ents.take m = po.ents := List.take_of_length_le (by rw [← unhide HNE]; omega)
                rw [hfin, ← unhide HST]
                have HBF := hide ((unhide BV).trans (hb.mono (unhide BV).size))
                clear hfin hb
                go_wp2_with fail
                go_roundw
                case rel => exact ⟨q + 1, by omega, by go_num, rfl, unhide HBF⟩
                case measure => simp [intOf]; omega
          · obtain rfl : q = np := by omega
            have hfin : s.P.take q = s.P := List.take_of_length_le (by rw [← unhide HNP]; omega)
            rw [hfin, ← unhide HBAL]
            have hw3 : wrap64 y3 = y3 := by have := unhide HYR; unfold wrap64; omega
            rw [hw3]
            have hbw := (unhide BX).trans (hb.mono (unhide BX).size)
            have cX := ((unhide KX).after hb).cells
            have x0 := cX 0; have x1 := cX 1; have x2 := cX 2
            simp only [List.getElem?_toArray, List.getElem?_cons_zero, List.getElem?_cons_succ] at x0 x1 x2
            have HF := hide (Free_any wp _ _ _ _ _ _ _ y1 y2 ((unhide HL).after ((unhide L4).trans (hbw.mono (unhide L4).size))) (unhide HYS).1 (unhide HYS).2)
            have hsm := look_small (unhide HL).ok y1 y2
            have hth : thereB s y1 y2 = true := by unfold thereB; rw [unhide HFA]; rfl
            rw [hth] at HF
            obtain ⟨fr, hfr⟩ : ∃ z, z = freeOf s y1 y2 := ⟨_, rfl⟩
            rw [← hfr] at HF hsm
            have HFR := hide (show decide (fr < 0) = false by rw [decide_eq_false_iff_not]; omega)
            have HTO := hide (fun W (hW : Below w4.heap.size w4 W) => Total_any W _ _ _ _ _ _ _ y2 ((unhide HL).after ((unhide L4).trans (hW.mono (unhide L4).size))) (by omega) (unhide HYS).2)
            have htz : wrap64 (totOf s y2) = 0 := by rw [tot_zero (unhide HL).ok (unhide HBO)]; simp [wrap64]
            simp only [htz] at HTO
            have HBW := hide hbw; have HKP := hide ((unhide KX).after hb)
            clear hfin hw3 hbw cX hsm hth hfr htz hb
            go_wp2_with fail
            (with_reducible refine (unhide HF).mono ?_); rintro e w5 ⟨rfl, hb⟩
            have cX := ((unhide HKP).after hb).cells
            clear x0 x1 x2
            have x0 := cX 0; have x1 := cX 1; have x2 := cX 2
            simp only [List.getElem?_toArray, List.getElem?_cons_zero, List.getElem?_cons_succ] at x0 x1 x2
            have hb5 := (unhide HBW).trans (hb.mono (unhide HBW).size)
            have B5 := hide hb5
            have hfr := unhide HFR
            clear cX hb hb5 HF
            go_wp2_with fail
            (with_reducible refine (unhide HTO _ (unhide B5)).mono ?_); rintro e w6 ⟨rfl, hb⟩
            have B6 := hide ((unhide B5).trans (hb.mono (unhide B5).size))
            clear hb HTO x0 x1 x2 hfr
            go_wp2_with fail
            go_roundw
            case rel => exact ⟨k + 1, by omega, by go_num, unhide B6⟩
            case measure => simp [intOf]; omega
      · have hbw := (unhide B4).trans (hb.mono (unhide B4).size)
        have HTO := hide (Total_any wo _ _ _ _ _ _ _ ⟨#[110, 111, 110, 101]⟩ ((unhide HL).after ((unhide L4).trans (hb.mono (unhide L4).size))) (by omega) (by decide))
        have htz : wrap64 (totOf s ⟨#[110, 111, 110, 101]⟩) = 0 := by rw [tot_zero (unhide HL).ok (unhide HBO)]; simp [wrap64]
        rw [htz] at HTO
        have BW := hide hbw
        clear hb hbw htz
        go_wp2_with fail
        (with_reducible refine (unhide HTO).mono ?_); rintro e w6 ⟨rfl, hb⟩
        have B6 := hide ((unhide BW).trans (hb.mono (unhide BW).size))
        clear hb HTO
        go_wp2_with fail
        go_ret
        exact ⟨rfl, unhide B6⟩
end Go.Proofs.Ytjihkoleipkgmaa
