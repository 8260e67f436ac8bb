/- Walk: wrong. -/
import Derived.Test.YtjihkoleipkgmaaLgF
namespace Go.Proofs.Ytjihkoleipkgmaa
set_option linter.unusedVariables false
set_option linter.unusedSimpArgs false
open Go.RowKit Go.Maps

set_option maxHeartbeats 8000000 in
set_option maxRecDepth 100000 in
theorem wrong_any (w : World) (base p ma mh n : Nat) (s : Lg) (v : Value) (text : ByteArray) (x : List En) (A : Option Addr) (nx cx : Nat) (h : LedgerAt w base p s ma mh v n) (hn : n ≤ 4000) (hx : ListIn enR w w.heap.size A x) (hnx : nx = x.length) (hxl : nx ≤ 100000)
    (ht : text.size ≤ maxLen) (hsz : ∀ e ∈ x, e.acct.size ≤ maxLen ∧ e.cur.size ≤ maxLen) :
    Calls Try.prog 55 #[.pointer (some ⟨p, 0, none⟩), .string text, .slice A nx cx] w fun e w' => e = .returned (.int .i64 (wrongE s text x)) ∧ Below w.heap.size w w' := by
  obtain ⟨ow, hW⟩ := h.main
  obtain ⟨ts, -, ht2, -⟩ := h.row
  obtain ⟨np, hnp⟩ : ∃ k, k = s.P.length := ⟨_, rfl⟩
  rw [← hnp] at ht2
  obtain ⟨Ap, cp, hv, -, -, -, -⟩ := list_of_own ht2
  have hnp4 : np ≤ 4000 := by have := h.np; omega
  have H1 := hide (fun h => @wrong_1 s text x h)
  have H4 := hide (fun h => @wrong_4 s text x h)
  have H3 := hide (fun h => @wrong_3 s text x h)
  have H2 := hide (fun h h1 h2 e he => @wrong_2 s text x h h1 h2 e he)
  have H0 := hide (fun h => @wrong_0 s text x h)
  have HACC := hide h.acc
  have cP := hW.cells 2
  simp only [List.getElem?_toArray, List.getElem?_cons_zero, List.getElem?_cons_succ] at cP
  have hp := hW.lt
  have hmal := h.acc.lt
  have HW := hide hW
  have HX := hide hx; have HNX := hide hnx; have HSZ := hide hsz
  obtain ⟨r, hr⟩ : ∃ r, r = wrongE s text x := ⟨_, rfl⟩
  rw [← hr] at H1 H4 H3 H2 H0 ⊢
  clear h hW hx hsz ht2 hnp hr
  subst hv
  by_cases hC : 4096 < text.size ∨ nx < 1 ∨ 64 < nx
  · have HR := hide (show r = 1 from unhide H1 (by rw [← unhide HNX]; exact hC))
    clear H1 H4 H3 H2 H0 HSZ HX HACC HW hnx
    by_cases t1 : 4096 < text.size
    · have d1 : decide ((4096 : Int) < (text.size : Int)) = true := by rw [decide_eq_true_eq]; omega
      go_enter Try.func55, Try.ntmps55
      go_wp2_with fail
      go_ret
      exact ⟨by rw [unhide HR]; rfl, Below.refl _ _⟩
    · have d1 : decide ((4096 : Int) < (text.size : Int)) = false := by rw [decide_eq_false_iff_not]; omega
      by_cases t2 : nx < 1
      · have d2 : decide ((nx : Int) < 1) = true := by rw [decide_eq_true_eq]; omega
        go_enter Try.func55, Try.ntmps55
        go_wp2_with fail
        go_ret
        exact ⟨by rw [unhide HR]; rfl, Below.refl _ _⟩
      · have d2 : decide ((nx : Int) < 1) = false := by rw [decide_eq_false_iff_not]; omega
        have t3 : 64 < nx := by omega
        have d3 : decide ((64 : Int) < (nx : Int)) = true := by rw [decide_eq_true_eq]; omega
        go_enter Try.func55, Try.ntmps55
        go_wp2_with fail
        go_ret
        exact ⟨by rw [unhide HR]; rfl, Below.refl _ _⟩
  · have HC := hide (show ¬ (4096 < text.size ∨ x.length < 1 ∨ 64 < x.length) by rw [← unhide HNX]; exact hC)
    have d1 : decide ((4096 : Int) < (text.size : Int)) = false := by rw [decide_eq_false_iff_not]; omega
    have d2 : decide ((nx : Int) < 1) = false := by rw [decide_eq_false_iff_not]; omega
    have d3 : decide ((64 : Int) < (nx : Int)) = false := by rw [decide_eq_false_iff_not]; omega
    have d4 : decide ((4096 : Int) ≤ (np : Int)) = false := by rw [decide_eq_false_iff_not]; omega
    have hx64 : nx ≤ 64 := by omega
    clear hC hnx H1
    go_enter Try.func55, Try.ntmps55
    go_wp2_with fail
    go_loopw [8, 9, 10, 37] (fun _ _ _ i wr => ∃ k : Nat, k ≤ nx ∧ i = .int .i64 k ∧ Below w.heap.size w wr ∧ Hid ((x.take k).any (missE s) = false)) (fun _ _ _ i _ => nx - (intOf i).toNat)
    case atStart => exact ⟨0, by omega, rfl, Below.refl _ _, hide rfl⟩
    case round =>
      obtain ⟨k, hk, rfl, hb, HI⟩ := hrel
      obtain ⟨wo, rfl⟩ : ∃ wo : World, wo = wr := ⟨_, rfl⟩
      by_cases hlt : k < nx
      · obtain ⟨e, hx⟩ : ∃ e, x[k]? = some e := ⟨x[k]'(by rw [← unhide HNX]; exact hlt), List.getElem?_eq_getElem _⟩
        obtain ⟨b, off, rfl, hbb, c0, c1, c2⟩ := en_at ((unhide HX).below hb) hx
        obtain ⟨z1, z2⟩ := unhide HSZ e (List.mem_of_getElem? hx)
        have HST := hide (any_step (missE s) x k e hx)
        have HIT := hide (any_here (missE s) x k e hx)
        have hms : missE s e = !thereB s e.acct e.cur := by unfold missE thereB; cases findA s.A e.acct e.cur <;> rfl
        have k1 := ((unhide HW).after hb).alloc (.cells #[.string e.acct, .string e.cur, .int .i64 e.amt] 44)
        have k2 := Whole.made wo 44 #[.string e.acct, .string e.cur, .int .i64 e.amt]
        have kM := ((unhide HACC).after hb).alloc (.cells #[.string e.acct, .string e.cur, .int .i64 e.amt] 44)
        have kb := hb.alloc hb.size (.cells #[.string e.acct, .string e.cur, .int .i64 e.amt] 44)
        have hl1 := look_accT kM.drew e.acct e.cur z1 z2
        have hl2 := fun o => look_accT (kM.alloc o).drew e.acct e.cur z1 z2
        obtain ⟨q1, hq1⟩ : ∃ q, q = flOf s e.acct e.cur := ⟨_, rfl⟩
        obtain ⟨q2, hq2⟩ : ∃ q, q = balOf s e.acct e.cur := ⟨_, rfl⟩
        obtain ⟨q3, hq3⟩ : ∃ q, q = heOf s e.acct e.cur := ⟨_, rfl⟩
        obtain ⟨q4, hq4⟩ : ∃ q, q = thereB s e.acct e.cur := ⟨_, rfl⟩
        rw [← hq1, ← hq2, ← hq3, ← hq4] at hl1
        simp only [← hq1, ← hq2, ← hq3, ← hq4] at hl2
        rw [← hq4] at hms
        have HMS := hide hms
        have cP1 := k1.drew.cells
        have cP2 := fun o => (k1.alloc o).drew.cells
        have cE := k2.drew.cells
        have cE2 := fun o => (k2.alloc o).drew.cells
        have HB2 := hide (fun o => (kb.alloc kb.size o).drew)
        have i1 : (0 : Int) ≤ (k : Int) := by omega
        have i2 : (k : Int) < (nx : Int) := by omega
        clear hx hb hq1 hq2 hq3 hq4 hms k1 k2 kM kb cP z1 z2
        go_wp2_with fail
        go_region
        clear cP1 cP2 cE cE2 hl1 hl2 c0 c1 c2
        cases q4
        · have HR := hide (show r = 4 from unhide H4 (unhide HC) (unhide HIT (unhide HMS)))
          go_wp2_with fail
          go_ret
          exact ⟨by rw [unhide HR]; rfl, unhide HB2 _⟩
        · go_wp2_with fail
          go_roundw
          case rel => exact ⟨k + 1, by omega, by go_num, unhide HB2 _, hide (by rw [unhide HST, unhide HI, unhide HMS]; rfl)⟩
          case measure => simp [intOf]; omega
      · have hend : x.any (missE s) = false := by have := unhide HI; rwa [List.take_of_length_le (by rw [← unhide HNX]; omega)] at this
        have HE := hide hend
        have HB := hide hb
        have i2 : decide ((k : Int) < (nx : Int)) = false := by rw [decide_eq_false_iff_not]; omega
        clear hend hb HI
        have hm0 : MapAt txtKeys (wo.alloc (.map #[] 0)) wo.heap.size 0 (sumF (x.take 0)) := (MapAt.made txtKeys wo).congr fun c _ => rfl
        have hb0 := (unhide HB).alloc (unhide HB).size (.map #[] 0)
        obtain ⟨W0, hW0⟩ : ∃ W, W = wo.alloc (.map #[] 0) := ⟨_, rfl⟩
        obtain ⟨ms, hms⟩ : ∃ b, b = wo.heap.size := ⟨_, rfl⟩
        rw [← hW0] at hm0 hb0
        rw [← hms] at hm0
        have hmsl : w.heap.size ≤ ms := by rw [hms]; exact (unhide HB).size
        have HM0 := hide (And.intro hm0 hb0)
        have hmm := @run_makeMap Try.prog
        clear hm0 hb0 HB cP
        go_wp2_with fail
        rw [← hW0, ← hms]
        clear hW0 hms
        go_loopw [13, 60] (fun _ i wr => ∃ k : Nat, k ≤ nx ∧ i = .int .i64 k ∧ MapAt txtKeys wr ms k (sumF (x.take k)) ∧ Below w.heap.size w wr ∧ Hid ((x.take k).any farE = false)) (fun _ i _ => nx - (intOf i).toNat)
        case atStart => exact ⟨0, by omega, rfl, (unhide HM0).1, (unhide HM0).2, hide rfl⟩
        case round =>
          obtain ⟨j, hj, rfl, hM, hb, HI⟩ := hrel
          obtain ⟨wp, rfl⟩ : ∃ wp : World, wp = wr := ⟨_, rfl⟩
          by_cases hlt : j < nx
          · obtain ⟨e, hx⟩ : ∃ e, x[j]? = some e := ⟨x[j]'(by rw [← unhide HNX]; exact hlt), List.getElem?_eq_getElem _⟩
            obtain ⟨b, off, rfl, hbb, c0, c1, c2⟩ := en_at ((unhide HX).below hb) hx
            obtain ⟨z1, z2⟩ := unhide HSZ e (List.mem_of_getElem? hx)
            have HST := hide (any_step farE x j e hx)
            have HIT := hide (any_here farE x j e hx)
            have HSS := hide (sumF_step x j e hx)
            have hle := csum_le (x.take j) (unhide HI) e.cur
            have hjl : ((x.take j).length : Int) ≤ 64 := by rw [List.length_take]; omega
            have hle2 : -(64 * mostI) ≤ csum (x.take j) e.cur ∧ csum (x.take j) e.cur ≤ 64 * mostI := by
              have : ((x.take j).length : Int) * mostI ≤ 64 * mostI := Int.mul_le_mul_of_nonneg_right hjl (by unfold mostI; omega)
              omega
            unfold mostI at hle2
            have k2 := Whole.made wp 44 #[.string e.acct, .string e.cur, .int .i64 e.amt]
            have kM := hM.alloc (.cells #[.string e.acct, .string e.cur, .int .i64 e.amt] 44)
            have kb := hb.alloc hb.size (.cells #[.string e.acct, .string e.cur, .int .i64 e.amt] 44)
            have hl := look_sum kM e.cur z2
            obtain ⟨z, hz⟩ : ∃ z, z = csum (x.take j) e.cur := ⟨_, rfl⟩
            rw [← hz] at hl hle2
            obtain ⟨am, ham⟩ : ∃ a, a = e.amt := ⟨_, rfl⟩
            rw [← ham] at k2 kM kb c2 hl
            have cE := k2.cells
            have HK := hide (And.intro kM kb)
            have HG := hide z2
            have HZ := hide (And.intro hz ham)
            have i1 : (0 : Int) ≤ (j : Int) := by omega
            have i2 : (j : Int) < (nx : Int) := by omega
            clear hx hb hM k2 kM kb z1 z2 hz ham hle hjl
            by_cases t1 : am < -mostI
            · have e1 : decide (am < -1099511627776) = true := by unfold mostI at t1; rw [decide_eq_true_eq]; exact t1
              have HR := hide (show r = 3 from unhide H3 (unhide HC) (unhide HE) (unhide HIT (by unfold farE; rw [← (unhide HZ).2, decide_eq_true t1]; rfl)))
              clear t1
              go_wp2_with fail
              go_ret
              exact ⟨by rw [unhide HR]; rfl, (unhide HK).2⟩
            · have e1 : decide (am < -1099511627776) = false := by unfold mostI at t1; rw [decide_eq_false_iff_not]; exact t1
              by_cases t2 : mostI < am
              · have e2 : decide (1099511627776 < am) = true := by unfold mostI at t2; rw [decide_eq_true_eq]; exact t2
                have HR := hide (show r = 3 from unhide H3 (unhide HC) (unhide HE) (unhide HIT (by unfold farE; rw [← (unhide HZ).2, decide_eq_true t2, Bool.or_true])))
                clear t1 t2
                go_wp2_with fail
                go_ret
                exact ⟨by rw [unhide HR]; rfl, (unhide HK).2⟩
              · have e2 : decide (1099511627776 < am) = false := by unfold mostI at t2; rw [decide_eq_false_iff_not]; exact t2
                have HF := hide (show farE e = false by unfold farE; rw [← (unhide HZ).2, decide_eq_false t1, decide_eq_false t2]; rfl)
                have cz : IntKind.i64.wrap (z + am) = z + am := IntWalk.i64_in _ (by unfold mostI at t1 t2; omega)
                clear t1 t2 hle2
                go_wp2_with (at_mapUpdate; refine wpList_put _ rfl _ _ _ 119 rfl (J := txtKeys) Try.underlying119 rfl (unhide HK).1 (by unfold maxLen; omega) (y := e.cur) (unhide HG) (val := .int .i64 (z + am)) rfl rfl ?_; intro w4 hm4 hg4; have HM4 := hide (And.intro hm4 hg4); clear hm4 hg4)
                go_roundw
                case rel =>
                  refine ⟨j + 1, by omega, by go_num, (unhide HM4).1.congr fun c _ => ?_, (unhide HK).2.grown (unhide HM4).2 (unhide HK).2.size (fun q hq => by cases hq; exact hmsl), hide (by rw [unhide HST, unhide HI, unhide HF]; rfl)⟩
                  rw [unhide HSS, (unhide HZ).1, (unhide HZ).2]
                case measure => simp [intOf]; omega
          · have hend : x.any farE = false := by have := unhide HI; rwa [List.take_of_length_le (by rw [← unhide HNX]; omega)] at this
            have hM2 : MapAt txtKeys wp ms j (sumF x) := by rwa [List.take_of_length_le (by rw [← unhide HNX]; omega)] at hM
            have HE2 := hide hend
            have HB := hide hb
            have hmlt := hM2.lt
            have HM2 := hide hM2
            have i2 : decide ((j : Int) < (nx : Int)) = false := by rw [decide_eq_false_iff_not]; omega
            clear hend hb HI hM hM2
            go_wp2_with (at_range; refine wpList_going _ rfl _ 119 rfl 9 2 (J := txtKeys) Try.underlying119 ms j rfl (unhide HM2) ?_; intro w1 cnt hgo hgr hs1)
            try go_frame
            go_loopw [15] (fun _ wr => ∃ todo cnt, Going txtKeys wr ms wp.heap.size j (sumF x) todo cnt ∧ Below w.heap.size w wr ∧ Hid (∀ c, txtKeys.good c → (sumF x c).isSome = true → todo c = false → csum x c = 0)) (fun _ wr => wr.rangeLeft ms wp.heap.size)
            case atStart => exact ⟨_, _, hgo, (unhide HB).grown hgr (unhide HB).size (fun q hq => by cases hq), hide fun c _ h1 h2 => by rw [h1] at h2; cases h2⟩
            case round =>
              obtain ⟨todo, cnt2, hg, hb, HT⟩ := hrel
              obtain ⟨wq, rfl⟩ : ∃ wq : World, wq = wr := ⟨_, rfl⟩
              have HB3 := hide hb
              clear hb
              go_wp2_with (at_next; refine wpList_going_next _ rfl _ rfl (fun key kl h => txt_inv h) rfl hg ?_ ?_)
              · intro hc0 hl0
                have HR := hide (show r = 0 from unhide H0 (unhide HC) (unhide HE) (unhide HE2) fun e he => by
                  have hgd : txtKeys.good e.cur := (unhide HSZ e he).2
                  refine unhide HT e.cur hgd ?_ (hl0 e.cur hgd)
                  unfold sumF
                  rw [if_pos (show inC x e.cur = true from List.any_eq_true.2 ⟨e, he, by simp⟩)]
                  rfl)
                clear hl0 hc0 hg
                go_wp2_with fail
                go_ret
                exact ⟨by rw [unhide HR]; rfl, unhide HB3⟩
              · intro c u w2 cnt3 hgood htodo hfx hg2 hlt2 hgr2 hsz2 hen
                obtain ⟨rfl, e0, he0, hc0⟩ := sumF_some hfx
                have HCS := hide (fun (hne : csum x c ≠ 0) => unhide H2 (unhide HC) (unhide HE) (unhide HE2) e0 he0 (by rw [hc0]; exact hne))
                have hb2 : Below w.heap.size w w2 := (unhide HB3).grown hgr2 (unhide HB3).size (fun q hq => by cases hq; have := (unhide HB).size; omega)
                have HB4 := hide hb2
                have HG1 := hide hg; have HG2 := hide hg2; have HLT := hide hlt2
                have HST := hide (fun d hd h1 (h2 : (todo d && !decide (d = c)) = false) => show csum x d = 0 ∨ d = c from by
                  by_cases e : d = c
                  · exact .inr e
                  · exact .inl (unhide HT d hd h1 (by simpa [e] using h2)))
                have ekv : txtKeys.kv c = .string c := rfl
                simp only [ekv] at hen ⊢
                clear ekv hsz2 hgood htodo hfx hg hg2 hlt2 hb2 he0 hc0
                obtain ⟨z, hz⟩ : ∃ z, z = csum x c := ⟨_, rfl⟩
                rw [← hz] at HCS hen ⊢
                have HZ := hide hz
                clear hz
                by_cases t : z = 0
                · subst t
                  go_wp2_with fail
                  go_roundw
                  case rel =>
                    exact ⟨_, _, unhide HG2, unhide HB4, hide fun d hd h1 h2 => (unhide HST d hd h1 h2).elim id fun e => by rw [e]; exact (unhide HZ).symm⟩
                  case measure => rw [(unhide HG2).measure, (unhide HG1).measure]; exact unhide HLT
                · have HR := hide (show r = 2 from unhide HCS t)
                  have t' : (z == 0) = false := by simpa using t
                  have t'' : (z != 0) = true := by simpa using t
                  have t3 : decide (z = 0) = false := by simpa using t
                  clear t
                  go_wp2_with fail
                  go_ret
                  exact ⟨by rw [unhide HR]; rfl, unhide HB4⟩
end Go.Proofs.Ytjihkoleipkgmaa
