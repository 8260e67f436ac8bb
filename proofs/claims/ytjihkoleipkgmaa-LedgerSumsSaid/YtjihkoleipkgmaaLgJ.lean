/- Walk: Post. -/
import Derived.Test.YtjihkoleipkgmaaLgI
namespace Go.Proofs.Ytjihkoleipkgmaa
set_option linter.unusedVariables false
set_option linter.unusedSimpArgs false
open Go.RowKit Go.Maps

theorem grown_below {w w' : World} (hb : Below w.heap.size w w') (row : Option Nat) : w.grownBy w' row := ⟨hb.os, hb.tape, hb.output, hb.size, fun i hi _ => hb.block i hi⟩
/-- what is known half way through the changes -/
def PostI (s : Lg) (x : List En) (todo : ByteArray × ByteArray → Bool) (lk : Bool) : Prop :=
  (∀ y, keyKeys.good y → inX x y.1 y.2 = true → todo y = false → overY s x y = false) ∧ (lk = false → ∀ y, keyKeys.good y → inX x y.1 y.2 = true → todo y = false → lackY s x y = false) ∧ (lk = true → ∃ y : ByteArray × ByteArray, inX x y.1 y.2 = true ∧ lackY s x y = true)
theorem PostI.step {s : Lg} {x : List En} {todo : ByteArray × ByteArray → Bool} {lk : Bool} (b' : Bool) {y0 : ByteArray × ByteArray} (h : PostI s x todo lk) (hy0 : inX x y0.1 y0.2 = true) (hb : b' = (lk || lackY s x y0)) (hov : overY s x y0 = false) : PostI s x (fun y => todo y && !decide (y = y0)) b' := by
  obtain ⟨HO, HN, HY⟩ := h
  refine ⟨fun y hg hy ht => ?_, fun hf y hg hy ht => ?_, fun htr => ?_⟩
  · by_cases e : y = y0
    · rw [e]; exact hov
    · exact HO y hg hy (by simpa [e] using ht)
  · subst hb
    rw [Bool.or_eq_false_iff] at hf
    by_cases e : y = y0
    · rw [e]; exact hf.2
    · exact HN hf.1 y hg hy (by simpa [e] using ht)
  · subst hb
    rw [Bool.or_eq_true] at htr
    rcases htr with h1 | h1
    · exact HY h1
    · exact ⟨y0, hy0, h1⟩
set_option maxHeartbeats 8000000 in
set_option maxRecDepth 100000 in
theorem Post_any (w : World) (base p ma mh n : Nat) (s : Lg) (v : Value) (text : ByteArray) (x : List En) (A : Option Addr) (nx cx : Nat) (h : LedgerAt w base p s ma mh v n) (hn : n ≤ 4000) (hx : ListIn enR w w.heap.size A x) (hnx : nx = x.length) (hxl : nx ≤ 100000)
    (ht : text.size ≤ maxLen) (hsz : ∀ e ∈ x, e.acct.size ≤ maxLen ∧ e.cur.size ≤ maxLen) (hfA : x ≠ [] → ∀ b off, A = some ⟨b, off, none⟩ → ¬ foot p ma mh v b) :
    Calls Try.prog 29 #[.pointer (some ⟨p, 0, none⟩), .string text, .slice A nx cx] w fun e w' => e = .returned (.tuple #[.int .i64 (postN s text x), .int .i64 (postE s text x)]) ∧ PostQ w base p ma mh n s v text x w' := by
  have HWR := hide (wrong_any w base p ma mh n s v text x A nx cx h hn hx hnx hxl ht hsz)
  have HL := hide h
  have HX := hide hx; have HNX := hide hnx; have HSZ := hide hsz; have HFA := hide hfA
  obtain ⟨we, hwe⟩ : ∃ z, z = wrongE s text x := ⟨_, rfl⟩
  rw [← hwe] at HWR
  have HWE := hide hwe
  clear h hx hsz hfA hwe hnx
  go_enter Try.func29, Try.ntmps29
  go_wp2_with fail
  (with_reducible refine (unhide HWR).mono ?_); rintro e wb ⟨rfl, hb⟩
  have HB := hide hb
  clear hb HWR
  by_cases hw0 : we = 0
  case neg =>
    have hne : wrongE s text x ≠ 0 := by rw [← unhide HWE]; exact hw0
    have HPE := hide (And.intro (post_w hne) hne)
    have e1 : (we == 0) = false := by simpa using hw0
    have e2 : (we != 0) = true := by simpa using hw0
    have e3 : decide (we = 0) = false := by simpa using hw0
    clear hne hw0
    go_wp2_with fail
    go_ret2
    obtain ⟨q1, q2⟩ := unhide HPE
    have q3 : postE s text x ≠ 0 := by rw [q1]; exact q2
    exact ⟨by unfold postN; rw [if_neg q3, q1, ← unhide HWE]; rfl, .bad (unhide HL) (unhide HB) q3⟩
  case pos =>
    subst hw0
    obtain ⟨hC, hmiss, hfar⟩ := wrong_ok (unhide HWE).symm
    rw [← unhide HNX] at hC
    have hx64 : nx ≤ 64 := by omega
    have HNE := hide (show x ≠ [] from fun e => by have := unhide HNX; rw [e] at this; simp at this; omega)
    have HW0 := hide (unhide HWE).symm
    have HMI := hide hmiss; have HFR := hide hfar
    have hm0 : MapAt keyKeys (wb.alloc (.map #[] 0)) wb.heap.size 0 (chF (x.take 0)) := (MapAt.made keyKeys wb).congr fun c _ => rfl
    have hb0 := (unhide HB).alloc (unhide HB).size (.map #[] 0)
    obtain ⟨W0, hW0⟩ : ∃ W, W = wb.alloc (.map #[] 0) := ⟨_, rfl⟩
    obtain ⟨mc, hmc⟩ : ∃ b, b = wb.heap.size := ⟨_, rfl⟩
    rw [← hW0] at hm0 hb0
    rw [← hmc] at hm0
    have hmcl : w.heap.size ≤ mc := by rw [hmc]; exact (unhide HB).size
    have HM0 := hide (And.intro hm0 hb0)
    have hmm := @run_makeMap Try.prog
    clear hm0 hb0 HB hC hmiss hfar
    go_wp2_with fail
    rw [← hW0, ← hmc]
    clear hW0 hmc hmm
    go_loopw [11, 26] (fun _ i wr => ∃ k : Nat, k ≤ nx ∧ i = .int .i64 k ∧ MapAt keyKeys wr mc k (chF (x.take k)) ∧ Below w.heap.size w wr) (fun _ i _ => nx - (intOf i).toNat)
    case atStart => exact ⟨0, by omega, rfl, (unhide HM0).1, (unhide HM0).2⟩
    case round =>
      obtain ⟨j, hj, rfl, hM, hb⟩ := hrel
      obtain ⟨wp, rfl⟩ : ∃ wp : World, wp = wr := ⟨_, rfl⟩
      by_cases hlt : j < nx
      · obtain ⟨e, hx⟩ : ∃ e, x[j]? = some e := ⟨x[j]'(by rw [← unhide HNX]; exact hlt), List.getElem?_eq_getElem _⟩
        obtain ⟨b, off, rfl, hbb, c0, c1, c2⟩ := en_at ((unhide HX).below hb) hx
        obtain ⟨z1, z2⟩ := unhide HSZ e (List.mem_of_getElem? hx)
        have HSS := hide (chF_step x j e hx)
        have hle := chg_64 (x.take j) (any_take_false (unhide HFR) j) (by rw [List.length_take]; omega) e.acct e.cur
        have hfe : farE e = false := by
          have h1 := List.any_eq_false.1 (unhide HFR) e (List.mem_of_getElem? hx)
          simpa using h1
        unfold farE at hfe
        rw [Bool.or_eq_false_iff, decide_eq_false_iff_not, decide_eq_false_iff_not] at hfe
        unfold mostI at hfe
        have k2 := (Whole.made wp 44 #[.string e.acct, .string e.cur, .int .i64 e.amt]).drew
        have kM := (hM.alloc (.cells #[.string e.acct, .string e.cur, .int .i64 e.amt] 44)).drew
        have kb := (hb.alloc hb.size (.cells #[.string e.acct, .string e.cur, .int .i64 e.amt] 44)).drew
        have hl1 := look_chg kM e.acct e.cur z1 z2
        have hmlt := hM.lt
        obtain ⟨v0, st, w1, hen, hlk, hM1, hg1, hstore⟩ := kM.entry Try.underlying82 zero64 (by unfold maxLen; omega) (x := (e.acct, e.cur)) ⟨z1, z2⟩
        have hv0 : v0 = .int .i64 (chg (x.take j) e.acct e.cur) := (Result.ok.inj (hlk.symm.trans hl1)).1
        subst hv0
        have hl2 : (Instr.lookup 82 (.map (some mc)) (.agg #[.string e.acct, .string e.cur]) false).run Try.prog w1 = .ok (.int .i64 (chg (x.take j) e.acct e.cur)) w1 := hM1.look_some (t := 82) (e := 2) Try.underlying82 (zero64 _) (x := (e.acct, e.cur)) ⟨z1, z2⟩ (by simp) false
        have hen' : (Instr.mapEntry 82 (.map (some mc)) (.agg #[.string e.acct, .string e.cur])).run Try.prog (wp.alloc (.cells #[.string e.acct, .string e.cur, .int .i64 e.amt] 44)).drew = .ok (.tuple #[.int .i64 (chg (x.take j) e.acct e.cur), .int .i64 (st : Int)]) w1 := hen
        have cz0 : IntKind.i64.wrap (chg (x.take j) e.acct e.cur + e.amt) = chg (x.take j) e.acct e.cur + e.amt := IntWalk.i64_in _ (by omega)
        obtain ⟨w3, hst3, hM3, hg3⟩ := hstore w1 (.int .i64 (chg (x.take j) e.acct e.cur + e.amt)) rfl
        have k3 := k2.turn (turn_row (S := fun b => b = mc) hg1 rfl) (fun e => by omega)
        have hB1 := kb.grown hg1 kb.size (fun q hq => by cases hq; exact hmcl)
        have cE := k2.cells
        have cE3 := k3.cells
        obtain ⟨z, hz⟩ : ∃ z, z = chg (x.take j) e.acct e.cur := ⟨_, rfl⟩
        obtain ⟨am, ham⟩ : ∃ a, a = e.amt := ⟨_, rfl⟩
        obtain ⟨r, hr⟩ : ∃ a, a = z + am := ⟨_, rfl⟩
        have cz2 : wrap64 (z + am) = r := by rw [hr, hz, ham, ← IntWalk.i64_left]; exact cz0
        have cz : IntKind.i64.wrap (z + am) = r := by rw [hr, hz, ham]; exact cz0
        rw [← hz] at hl1 hl2 hen' hst3 hM3
        rw [← ham] at hl1 hen' hst3 hM3 cE cE3 c2
        rw [← hr] at hst3 hM3
        clear cz0
        have HF := hide (And.intro hM3 (And.intro hB1 hg3))
        have HZ := hide (And.intro hz (And.intro ham hr))
        have i1 : (0 : Int) ≤ (j : Int) := by omega
        have i2 : (j : Int) < (nx : Int) := by omega
        clear hx hb hM k2 k3 kM kb z1 z2 hz ham hr hle hfe hen hlk hM1 hg1 hstore hM3 hg3 hB1
        go_wp2_with fail
        go_region
        all_goals clear cE cE3 hl1 hl2 hen' hst3 c0 c1 c2 cz cz2
        all_goals
          go_wp2_with fail
          go_roundw
          case rel =>
            refine ⟨j + 1, by omega, by go_num, (unhide HF).1.congr fun c _ => ?_, (unhide HF).2.1.grown (unhide HF).2.2 (unhide HF).2.1.size (fun q hq => by cases hq; exact hmcl)⟩
            rw [unhide HSS]
            by_cases hc : c = (e.acct, e.cur)
            · rw [if_pos hc, if_pos hc, (unhide HZ).2.2, (unhide HZ).1, (unhide HZ).2.1]
            · rw [if_neg hc, if_neg hc]
          case measure => simp [intOf]; omega
      · have hM2 : MapAt keyKeys wp mc j (chF x) := by rwa [List.take_of_length_le (by rw [← unhide HNX]; omega)] at hM
        have HB := hide hb
        have hwp := hb.size
        have hmlt := hM2.lt
        have HM2 := hide hM2
        clear hb hM hM2
        go_wp2_with (at_range; refine wpList_going _ rfl _ 82 rfl 68 2 (J := keyKeys) Try.underlying82 mc j rfl (unhide HM2) ?_; intro w1 cnt hgo hgr hs1)
        try go_frame
        go_loopw [12, 13, 14, 15] (fun lk _ _ _ wr => ∃ (todo : ByteArray × ByteArray → Bool) (cnt : Nat) (b : Bool), Going keyKeys wr mc wp.heap.size j (chF x) todo cnt ∧ lk = .bool b ∧ Below w.heap.size w wr ∧ PostI s x todo b) (fun _ _ _ _ wr => wr.rangeLeft mc wp.heap.size)
        case atStart =>
          have hin : ∀ y, inX x y.1 y.2 = true → (chF x y).isSome = true := fun y hy => by unfold chF; rw [if_pos hy]; rfl
          exact ⟨_, _, false, hgo, rfl, (unhide HB).grown hgr (unhide HB).size (fun q hq => by cases hq), (fun y _ h1 h2 => absurd ((hin y h1).symm.trans h2) (by simp)), (fun _ y _ h1 h2 => absurd ((hin y h1).symm.trans h2) (by simp)), (fun h => by cases h)⟩
        case round =>
          obtain ⟨todo, cnt2, lk, hg, rfl, hb, HI⟩ := hrel
          obtain ⟨wq, rfl⟩ : ∃ wq : World, wq = wr := ⟨_, rfl⟩
          have HB3 := hide hb
          clear hb
          go_wp2_with (at_next; refine wpList_going_next _ rfl _ rfl (fun key kl h => key_inv h) rfl hg ?_ ?_)
          · intro hc0 hl0
            have hgood : ∀ y : ByteArray × ByteArray, inX x y.1 y.2 = true → keyKeys.good y := fun y hy => by
              obtain ⟨e, he, h1, h2⟩ := inX_mem hy
              have := unhide HSZ e he
              rw [h1, h2] at this
              exact this
            have hno : ∀ y : ByteArray × ByteArray, inX x y.1 y.2 = true → overY s x y = false := fun y hy => HI.1 y (hgood y hy) hy (hl0 y.1 y.2 (hgood y hy))
            cases lk
            case true =>
              obtain ⟨y, hy1, hy2⟩ := HI.2.2 rfl
              have HPE := hide (post_10 (unhide HW0) hno hy1 hy2)
              clear hno hgood hl0 hc0 hg hy1 hy2
              go_wp2_with fail
              go_ret2
              have q1 := unhide HPE
              exact ⟨by unfold postN; rw [q1]; rfl, .bad (unhide HL) (unhide HB3) (by rw [q1]; decide)⟩
            case false =>
              have hlk : ∀ y : ByteArray × ByteArray, inX x y.1 y.2 = true → lackY s x y = false := fun y hy => HI.2.1 rfl y (hgood y hy) hy (hl0 y.1 y.2 (hgood y hy))
              have hpe := post_0 (unhide HW0) hno hlk
              have hall := post_all (unhide HL).ok hpe
              have HPE := hide hpe
              have hin : ∀ a c, inX x a c = true → (findA s.A a c).isSome = true := fun a c hy => by
                obtain ⟨e, he, h1, h2⟩ := inX_mem hy
                have h3 := List.any_eq_false.1 (unhide HMI) e he
                unfold missE at h3
                rw [h1, h2] at h3
                cases hf : findA s.A a c with
                | none => rw [hf] at h3; simp at h3
                | some a => rfl
              have hmcf : ¬ foot p ma mh v mc := fun hf => by have := ((unhide HL).lt mc hf).2; omega
              have HBK := hide (book_any wq base p ma mh n s v text x A nx cx mc j ((unhide HL).after (unhide HB3)) hn ((unhide HX).after (unhide HB3)) (unhide HNX) hx64 (unhide HFA (unhide HNE)) hg.map hmcf hin hall)
              clear hno hgood hl0 hc0 hg hlk hpe hall hin hmcf
              go_wp2_with fail
              (with_reducible refine (unhide HBK).mono ?_); rintro e w9 ⟨rfl, v9, hL9, hT9, hv9⟩
              have H9 := hide (And.intro hL9 (And.intro hT9 hv9))
              clear hL9 hT9 hv9
              go_wp2_with fail
              go_ret2
              have q1 := unhide HPE
              obtain ⟨hL9, hT9, hv9⟩ := unhide H9
              refine ⟨by unfold postN; rw [q1]; rfl, v9, by rw [if_pos q1]; exact hL9, (Turn.of_below (unhide HB3)).trans hT9, hv9.imp id fun ⟨g, h1, h2⟩ => ⟨g, h1, Nat.le_trans (unhide HB3).size h2⟩⟩
          · intro yn yc u w2 cnt3 hgood htodo hfx hg2 hlt hgr2 hsz2 hen
            obtain ⟨hyin, rfl⟩ := chF_some hfx
            obtain ⟨a, ha⟩ : ∃ a, findA s.A yn yc = some a := by
              obtain ⟨e, he, h1, h2⟩ := inX_mem hyin
              have h3 := List.any_eq_false.1 (unhide HMI) e he
              unfold missE at h3
              simp only at h1 h2
              rw [h1, h2] at h3
              cases hf : findA s.A yn yc with
              | none => rw [hf] at h3; simp at h3
              | some a => exact ⟨a, rfl⟩
            have hov : overY s x (yn, yc) = decide (mostI < balOf s yn yc + chg x yn yc) := by unfold overY balOf; simp only [ha]
            have hla : lackY s x (yn, yc) = (decide (chg x yn yc < 0) && decide (freeOf s yn yc < -chg x yn yc)) := by unfold lackY freeOf; simp only [ha]
            have hsm := look_small (unhide HL).ok yn yc
            have hcl := chg_64 x (unhide HFR) (by rw [← unhide HNX]; exact hx64) yn yc
            unfold mostI at hsm hov
            simp only at hen ⊢
            have ekv : keyKeys.kv (yn, yc) = .agg #[.string yn, .string yc] := rfl
            simp only [ekv] at hen ⊢
            clear ekv hsz2
            obtain ⟨ow, hW⟩ := (unhide HL).main
            have hb2 : Below w.heap.size w w2 := (unhide HB3).grown hgr2 (unhide HB3).size (fun q hq => by cases hq; exact hwp)
            have a1 := (hW.after hb2).alloc (.cells #[.string yn, .string yc] 68)
            have a2 := Whole.made w2 68 #[.string yn, .string yc]
            have aM := ((unhide HL).acc.after hb2).alloc (.cells #[.string yn, .string yc] 68)
            have hl1 := look_accF aM.drew yn yc hgood.1 hgood.2
            have hl2 := fun o => look_accF (aM.alloc o).drew yn yc hgood.1 hgood.2
            obtain ⟨q1, hq1⟩ : ∃ q, q = flOf s yn yc := ⟨_, rfl⟩
            obtain ⟨q2, hq2⟩ : ∃ q, q = balOf s yn yc := ⟨_, rfl⟩
            obtain ⟨q3, hq3⟩ : ∃ q, q = heOf s yn yc := ⟨_, rfl⟩
            obtain ⟨q5, hq5⟩ : ∃ q, q = freeOf s yn yc := ⟨_, rfl⟩
            obtain ⟨d, hd⟩ : ∃ q, q = chg x yn yc := ⟨_, rfl⟩
            obtain ⟨z, hz⟩ : ∃ q, q = q2 + d := ⟨_, rfl⟩
            obtain ⟨nd, hnd⟩ : ∃ q, q = -d := ⟨_, rfl⟩
            rw [← hq1, ← hq2, ← hq3] at hl1
            simp only [← hq1, ← hq2, ← hq3] at hl2
            rw [← hd] at hen hov hla hcl ⊢
            rw [← hq2, ← hz] at hov
            rw [← hq5, ← hnd] at hla
            rw [← hq1, ← hq2, ← hq3, ← hq5] at hsm
            have HFE := hide (fun W => free_any q1 q2 q3 q5 W (by omega) (by omega) (by omega) (by omega))
            have cz : IntKind.i64.wrap (q2 + d) = z := by rw [hz]; exact IntWalk.i64_in _ (by omega)
            have cz2 : wrap64 (q2 + d) = z := by rw [← IntWalk.i64_left]; exact cz
            have cn : IntKind.i64.wrap (-d) = nd := by rw [hnd]; exact IntWalk.i64_in _ (by omega)
            have cn2 : wrap64 (-d) = nd := by rw [← IntWalk.i64_left]; exact cn
            have cP := a1.drew.cells
            have cP2 := fun o => (a1.alloc o).drew.cells
            have cK := a2.drew.cells
            have cK2 := fun o => (a2.alloc o).drew.cells
            have HB5 := hide (fun o => ((((Below.refl w2.heap.size w2).alloc (Nat.le_refl _) (.cells #[.string yn, .string yc] 68)).alloc (by simp) o).drew))
            have HB2 := hide hb2
            have HYI := hide hyin
            have HOV := hide hov; have HLA := hide hla
            have HG1 := hide hg; have HG2 := hide hg2; have HLT := hide hlt
            have hp := hW.lt
            clear hyin ha hov hla hsm hcl hW hb2 a1 a2 aM hq1 hq2 hq3 hq5 hd hz hnd hg hg2 hlt hgood htodo hfx
            go_wp2_with fail
            go_region
            clear cP cP2 cK cK2 hl1 hl2
            by_cases ho : 1099511627776 < z
            · have e1 : decide ((1099511627776 : Int) < z) = true := by rw [decide_eq_true_eq]; exact ho
              have HPE := hide (post_3 (y := (yn, yc)) (unhide HW0) (unhide HYI) (by rw [unhide HOV]; exact e1))
              clear ho
              go_wp2_with fail
              go_ret2
              have q1 := unhide HPE
              exact ⟨by unfold postN; rw [q1]; rfl, .bad (unhide HL) ((unhide HB2).trans ((unhide HB5 _).mono (unhide HB2).size)) (by rw [q1]; decide)⟩
            · have e1 : decide ((1099511627776 : Int) < z) = false := by rw [decide_eq_false_iff_not]; exact ho
              have HOF := hide (show overY s x (yn, yc) = false by rw [unhide HOV]; exact e1)
              clear ho
              cases lk
              case true =>
                have HPS := PostI.step true HI (unhide HYI) rfl (unhide HOF)
                clear HI
                go_wp2_with fail
                go_roundw
                case rel => exact ⟨_, _, true, (unhide HG2).kept (grown_below (unhide HB5 _) none) (by simp) (by simp), rfl, (unhide HB2).trans ((unhide HB5 _).mono (unhide HB2).size), HPS⟩
                case measure => rw [((unhide HG2).kept (grown_below (unhide HB5 _) none) (by simp) (by simp)).measure, (unhide HG1).measure]; exact unhide HLT
              case false =>
                by_cases hn : d < 0
                · have e2 : decide (d < 0) = true := by rw [decide_eq_true_eq]; exact hn
                  go_wp2_with fail
                  (with_reducible refine (unhide HFE _).mono ?_); rintro e w9 ⟨rfl, hb9⟩
                  have HB9 := hide ((unhide HB5 _).trans (hb9.mono (unhide HB5 _).size))
                  clear hb9
                  by_cases hf : q5 < nd
                  · have e3 : decide (q5 < nd) = true := by rw [decide_eq_true_eq]; exact hf
                    have HPS := PostI.step true HI (unhide HYI) (by rw [unhide HLA, e2, e3]; rfl) (unhide HOF)
                    clear HI hf hn
                    go_wp2_with fail
                    go_roundw
                    case rel => exact ⟨_, _, true, (unhide HG2).kept (grown_below (unhide HB9) none) (by simp) (by simp), rfl, (unhide HB2).trans ((unhide HB9).mono (unhide HB2).size), HPS⟩
                    case measure => rw [((unhide HG2).kept (grown_below (unhide HB9) none) (by simp) (by simp)).measure, (unhide HG1).measure]; exact unhide HLT
                  · have e3 : decide (q5 < nd) = false := by rw [decide_eq_false_iff_not]; exact hf
                    have HPS := PostI.step false HI (unhide HYI) (by rw [unhide HLA, e2, e3]; rfl) (unhide HOF)
                    clear HI hf hn
                    go_wp2_with fail
                    go_roundw
                    case rel => exact ⟨_, _, false, (unhide HG2).kept (grown_below (unhide HB9) none) (by simp) (by simp), rfl, (unhide HB2).trans ((unhide HB9).mono (unhide HB2).size), HPS⟩
                    case measure => rw [((unhide HG2).kept (grown_below (unhide HB9) none) (by simp) (by simp)).measure, (unhide HG1).measure]; exact unhide HLT
                · have e2 : decide (d < 0) = false := by rw [decide_eq_false_iff_not]; exact hn
                  have HPS := PostI.step false HI (unhide HYI) (by rw [unhide HLA, e2]; rfl) (unhide HOF)
                  clear HI hn
                  go_wp2_with fail
                  go_roundw
                  case rel => exact ⟨_, _, false, (unhide HG2).kept (grown_below (unhide HB5 _) none) (by simp) (by simp), rfl, (unhide HB2).trans ((unhide HB5 _).mono (unhide HB2).size), HPS⟩
                  case measure => rw [((unhide HG2).kept (grown_below (unhide HB5 _) none) (by simp) (by simp)).measure, (unhide HG1).measure]; exact unhide HLT
end Go.Proofs.Ytjihkoleipkgmaa
