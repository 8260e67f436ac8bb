/- The law LedgerTakes, walked. -/
import Derived.Test.YtjihkoleipkgmaaLgX
namespace Go.Proofs.Ytjihkoleipkgmaa
set_option linter.unusedVariables false
set_option linter.unusedSimpArgs false
open Go.RowKit Go.Maps

/-- acts but those on one hold -/
def otherS (s : Lg) (x : Aa) : Lg := if x.a = ⟨#[107, 101, 112, 116]⟩ then s else actS s x
def restS (s : Lg) (xs : List Aa) : Lg := xs.foldl otherS s
theorem restS_step (s : Lg) (xs : List Aa) (k : Nat) (x : Aa) (h : xs[k]? = some x) : restS s (xs.take (k + 1)) = otherS (restS s (xs.take k)) x := by
  unfold restS
  rw [List.take_add_one, h, Option.toList_some, List.foldl_append]; rfl
theorem findH_less (s : Lg) (h : Ho) (sum : Int) {i : ByteArray} (hi : h.id ≠ i) : findH (lessS s h sum).H i = findH s.H i := by
  unfold lessS
  simp only
  split
  · rw [List.append_nil, findH_drop, if_neg (fun e => hi e.symm)]
  · rw [findH_snoc, findH_drop, if_neg (fun e => hi e.symm), if_neg hi]
    cases findH s.H i <;> rfl
theorem kept_stays {s : Lg} {x : Aa} {i : ByteArray} {g : Ho} (hi : x.a ≠ i) (h : findH s.H i = some g) : findH (actS s x).H i = some g := by
  unfold actS
  split
  · split
    · exact h
    · exact h
  · split
    · split
      · exact h
      · exact h
    · split
      · split
        · show findH (s.H ++ [_]) i = _
          rw [findH_snoc, h]; rfl
        · exact h
      · split
        · split
          · rename_i he
            obtain ⟨g2, a, h1, -⟩ := takeE_zero he
            have e : hoOf s x.a = g2 := by unfold hoOf; rw [h1]; rfl
            have hid := (findH_some h1).2
            rw [e]
            show findH (lessS s g2 x.n).H i = _
            rw [findH_less s g2 x.n (by rw [hid]; exact hi)]; exact h
          · exact h
        · cases hf : findH s.H x.a with
          | none => exact h
          | some g2 =>
            have hid := (findH_some hf).2
            show findH (lessS s g2 g2.amt).H i = _
            rw [findH_less s g2 g2.amt (by rw [hid]; exact hi)]; exact h
theorem rest_kept {s : Lg} {g : Ho} (xs : List Aa) (h : findH s.H ⟨#[107, 101, 112, 116]⟩ = some g) : findH (restS s xs).H ⟨#[107, 101, 112, 116]⟩ = some g := by
  unfold restS
  induction xs generalizing s with
  | nil => exact h
  | cons x t ih =>
    refine ih ?_
    unfold otherS
    split
    · exact h
    · rename_i hne; exact kept_stays hne h
/-- the last taking -/
theorem take_whole {s : Lg} (hs : LgOk s) {g : Ho} {to : ByteArray} {a : Ac} (hg : findH s.H g.id = some g) (ha : findA s.A to g.cur = some a) (hne : to ≠ g.acct) (hb : a.bal + g.amt ≤ mostI) (t : ByteArray) :
    takeE s g.id to g.amt = 0 ∧ hoOf s g.id = g ∧ balOf (takeS s g to g.amt t) to g.cur = balOf s to g.cur + g.amt ∧ balOf (takeS s g to g.amt t) g.acct g.cur = balOf s g.acct g.cur - g.amt ∧ letE (takeS s g to g.amt t) g.id = 4 := by
  obtain ⟨hgm, -⟩ := findH_some hg
  obtain ⟨-, q1, -, b, hb2⟩ := hs.hold g hgm
  have hbal : ∀ n c, balOf (takeS s g to g.amt t) n c = match findA s.A n c with | some x => x.bal + chg (takeX g to g.amt) x.name x.cur | none => 0 := fun n c => by
    unfold balOf
    have e : (takeS s g to g.amt t).A = addA (takeX g to g.amt) s.A := rfl
    rw [e, findA_add]
    cases findA s.A n c <;> rfl
  refine ⟨?_, by unfold hoOf; rw [hg]; rfl, ?_, ?_, ?_⟩
  · unfold takeE
    rw [hg]
    simp only
    rw [ha]
    simp only
    rw [if_neg hne, if_neg (by omega), if_neg (by omega)]
  · rw [hbal, ha]
    simp only
    obtain ⟨-, e1, e2⟩ := findA_some ha
    rw [e1, e2, chg_take hne]
    have e3 : isH to g.cur g = false := by simp [isH]; exact fun e => hne e.symm
    rw [e3]
    unfold balOf
    rw [ha]
    simp
  · rw [hbal, hb2]
    simp only
    obtain ⟨-, e1, e2⟩ := findA_some hb2
    rw [e1, e2, chg_take hne]
    have e3 : isH g.acct g.cur g = true := by simp [isH]
    rw [if_pos e3, if_neg (fun e => hne e.1)]
    unfold balOf
    rw [hb2]
    simp only
    omega
  · unfold letE
    have e : (takeS s g to g.amt t).H = dropH s.H g.id := by
      show (lessS s g g.amt).H = _
      unfold lessS
      simp
    rw [e, findH_drop, if_pos rfl]; rfl
theorem kept_list : (⟨#[107, 101, 112, 116]⟩ : ByteArray).toList = [107, 101, 112, 116] := by rw [ByteArray.toList_eq]
theorem sink_ok : okName ⟨#[115, 105, 110, 107]⟩ = true := by kernel_rfl
theorem eur_ok : okCur ⟨#[69, 85, 82]⟩ = true := by kernel_rfl
theorem open_sink (s : Lg) : (openE s ⟨#[115, 105, 110, 107]⟩ ⟨#[69, 85, 82]⟩ 0 = 0 ∨ openE s ⟨#[115, 105, 110, 107]⟩ ⟨#[69, 85, 82]⟩ 0 = 5) ∧
    (findA (if openE s ⟨#[115, 105, 110, 107]⟩ ⟨#[69, 85, 82]⟩ 0 = 0 then openS s ⟨#[115, 105, 110, 107]⟩ ⟨#[69, 85, 82]⟩ 0 else s).A ⟨#[115, 105, 110, 107]⟩ ⟨#[69, 85, 82]⟩).isSome = true ∧
    (if openE s ⟨#[115, 105, 110, 107]⟩ ⟨#[69, 85, 82]⟩ 0 = 0 then openS s ⟨#[115, 105, 110, 107]⟩ ⟨#[69, 85, 82]⟩ 0 else s).H = s.H := by
  have he : openE s ⟨#[115, 105, 110, 107]⟩ ⟨#[69, 85, 82]⟩ 0 = if (findA s.A ⟨#[115, 105, 110, 107]⟩ ⟨#[69, 85, 82]⟩).isSome = true then 5 else 0 := by
    unfold openE
    rw [sink_ok, eur_ok, if_neg (by simp), if_neg (by unfold mostI; omega)]
  rw [he]
  by_cases h : (findA s.A ⟨#[115, 105, 110, 107]⟩ ⟨#[69, 85, 82]⟩).isSome = true
  · rw [if_pos h, if_neg (by decide)]
    exact ⟨.inr rfl, h, rfl⟩
  · rw [if_neg h, if_pos rfl]
    refine ⟨.inl rfl, ?_, rfl⟩
    show (findA (s.A ++ [_]) _ _).isSome = true
    rw [findA_snoc]
    simp

set_option maxHeartbeats 16000000 in
set_option maxRecDepth 100000 in
theorem LedgerTakes_any (xs ys : List Aa) (A A2 : Option Addr) (nn c nm c2 : Nat) (sum : Int) (w : World) (hn : nn = xs.length) (hc : nn ≤ maxLen) (hl : ListIn aaR w w.heap.size A xs) (hs : ∀ x ∈ xs, x.Came w) (hn2 : nm = ys.length) (hc2 : nm ≤ maxLen) (hl2 : ListIn aaR w w.heap.size A2 ys) (hs2 : ∀ x ∈ ys, x.Came w) (hsum : -9223372036854775808 ≤ sum ∧ sum ≤ 9223372036854775807) :
    Calls Try.prog 3 #[.slice A nn c, .int .i64 sum, .slice A2 nm c2] w fun e w' => e = .returned (.bool true) ∧ Below w.heap.size w w' := by
  have HN := hide hn; have HX := hide hl; have HS := hide hs; have HC := hide hc
  have HN2 := hide hn2; have HX2 := hide hl2; have HS2 := hide hs2; have HC2 := hide hc2
  obtain ⟨fb, hfb⟩ : ∃ b, b = fewB xs := ⟨_, rfl⟩
  obtain ⟨fb2, hfb2⟩ : ∃ b, b = fewB ys := ⟨_, rfl⟩
  have HFB := hide hfb; have HFB2 := hide hfb2
  clear hn hl hs hc hfb hn2 hl2 hs2 hc2 hfb2
  go_enter Try.func3, Try.ntmps3
  go_wp2_with fail
  (with_reducible refine (awake_any w).mono ?_); rintro e w1 ⟨rfl, hb⟩
  have B1 := hide hb
  have HF := hide (few_any w1 xs A nn c (unhide HN) (unhide HC) ((unhide HX).after hb) (fun x hx => ⟨(unhide HS x hx).a, (unhide HS x hx).len⟩))
  have HF2 := hide (few_any w1 ys A2 nm c2 (unhide HN2) (unhide HC2) ((unhide HX2).after hb) (fun x hx => ⟨(unhide HS2 x hx).a, (unhide HS2 x hx).len⟩))
  rw [← unhide HFB] at HF
  rw [← unhide HFB2] at HF2
  clear hb
  go_wp2_with fail
  (with_reducible refine (unhide HF).mono ?_); rintro e w1' ⟨rfl, rfl⟩
  clear HF
  cases fb with
  | false =>
    go_wp2_with fail
    (with_reducible refine (awake_any w1).mono ?_); rintro e w2 ⟨rfl, hb⟩
    have B2 := hide ((unhide B1).trans (hb.mono (unhide B1).size))
    clear hb
    go_wp2_with fail
    go_ret
    exact ⟨rfl, unhide B2⟩
  | true =>
  go_wp2_with fail
  (with_reducible refine (unhide HF2).mono ?_); rintro e w1' ⟨rfl, rfl⟩
  clear HF2
  cases fb2 with
  | false =>
    go_wp2_with fail
    (with_reducible refine (awake_any w1).mono ?_); rintro e w2 ⟨rfl, hb⟩
    have B2 := hide ((unhide B1).trans (hb.mono (unhide B1).size))
    clear hb
    go_wp2_with fail
    go_ret
    exact ⟨rfl, unhide B2⟩
  | true =>
    obtain ⟨h40, hin⟩ := few_in (unhide HS) (unhide HFB).symm
    rw [← unhide HN] at h40
    obtain ⟨h402, hin2⟩ := few_in (unhide HS2) (unhide HFB2).symm
    rw [← unhide HN2] at h402
    have HP := hide (played_any w1 xs A nn c (unhide HN) (by omega) ((unhide HX).after (unhide B1)) (fun x hx => (hin x hx).after (unhide B1)))
    obtain ⟨s, hsr⟩ : ∃ s, s = runS xs := ⟨_, rfl⟩
    rw [← hsr] at HP
    have HIN2 := hide (fun x hx => (hin2 x hx).after (unhide B1))
    have HXX := hide ((unhide HX2).after (unhide B1))
    clear hin hin2 hsr
    go_wp2_with fail
    (with_reducible refine (unhide HP).mono ?_); rintro e w2 ⟨v, rfl, hL, hb⟩
    have H2 := hide (And.intro hL hb)
    have HH := hide (Hold_any w2 _ _ _ _ _ _ _ ⟨#[107, 101, 112, 116]⟩ ⟨#[97]⟩ ⟨#[69, 85, 82]⟩ sum hL (by omega) (by decide) (by decide) (by decide))
    obtain ⟨he, hhe⟩ : ∃ z, z = holdE s ⟨#[107, 101, 112, 116]⟩ ⟨#[97]⟩ ⟨#[69, 85, 82]⟩ sum := ⟨_, rfl⟩
    rw [← hhe] at HH
    have HHE := hide hhe
    clear hL hb HP hhe
    go_wp2_with fail
    (with_reducible refine (unhide HH).mono ?_); rintro e w5 ⟨rfl, hq⟩
    have HQ := hide hq
    clear hq HH
    by_cases h0 : he = 0
    · subst h0
      obtain ⟨k1, k2, k3, k4, k5⟩ := kept_hold keptT_ok (unhide HHE).symm
      have hk := (hold_let (n := ⟨#[97]⟩) (c := ⟨#[69, 85, 82]⟩) (sum := sum) k1).1
      unfold mostI at k4
      have H5 : Hid (LedgerAt w5 w1.heap.size (w1.heap.size + 2) (holdS s ⟨#[107, 101, 112, 116]⟩ ⟨#[97]⟩ ⟨#[69, 85, 82]⟩ sum) w1.heap.size (w1.heap.size + 1) v (2 * nn + 1) ∧ Below w1.heap.size w1 w5) := by
        have hq := unhide HQ
        unfold HoldQ at hq
        rw [if_pos (unhide HHE).symm] at hq
        exact hide ⟨hq.1, turn_below (unhide H2).2 (unhide H2).1 hq.2⟩
      obtain ⟨s2, hs2⟩ : ∃ s2, s2 = holdS s ⟨#[107, 101, 112, 116]⟩ ⟨#[97]⟩ ⟨#[69, 85, 82]⟩ sum := ⟨_, rfl⟩
      rw [← hs2] at hk H5
      have HK := hide hk
      have hsum1 : 1 ≤ sum ∧ sum ≤ 1099511627776 := ⟨k3, k4⟩
      have hw51 := (unhide H5).2.size
      clear k1 k2 k3 k4 k5 hs2 HQ hk
      go_wp2_with fail
      go_loopw [41] (fun i wr => ∃ (k : Nat) (v : Value), k ≤ nm ∧ i = .int .i64 k ∧ LedgerAt wr w1.heap.size (w1.heap.size + 2) (restS s2 (ys.take k)) w1.heap.size (w1.heap.size + 1) v (2 * nn + 1 + 2 * k) ∧ Below w1.heap.size w1 wr) (fun i _ => nm - (intOf i).toNat)
      case atStart => exact ⟨0, v, Nat.zero_le _, rfl, (unhide H5).1, (unhide H5).2⟩
      case round =>
        obtain ⟨k, v, hk, rfl, hL, hb⟩ := hrel
        obtain ⟨wp, rfl⟩ : ∃ wp : World, wp = wr := ⟨_, rfl⟩
        by_cases hlt : k < nm
        · obtain ⟨x, hx⟩ : ∃ x, ys[k]? = some x := ⟨ys[k]'(by rw [← unhide HN2]; exact hlt), List.getElem?_eq_getElem _⟩
          obtain ⟨b, off, rfl, hbb, c0, c1, c2, c3, c4, c5⟩ := aa_at ((unhide HXX).after hb) hx
          have hin := unhide HIN2 x (List.mem_of_getElem? hx)
          have hal := (Below.refl wp.heap.size wp).alloc (Nat.le_refl _) (.cells #[.int .u8 (x.kind : Int), .string x.a, .string x.b, .string x.c, .int .i64 x.n, .slice x.A x.ents.length x.cap] 31)
          have hK1 := Whole.made wp 31 #[.int .u8 (x.kind : Int), .string x.a, .string x.b, .string x.c, .int .i64 x.n, .slice x.A x.ents.length x.cap]
          have hL1 := hL.after hal
          have hb1 := hb.trans (hal.mono hb.size)
          have hin2 := hin.after hb1
          have HST := hide (restS_step s2 ys k x hx)
          have i1 : (0 : Int) ≤ (k : Int) := by omega
          have i2 : (k : Int) < (nm : Int) := by omega
          by_cases hka : x.a = ⟨#[107, 101, 112, 116]⟩
          · have e1 : (x.a.toList == [107, 101, 112, 116]) = true := by rw [← kept_list]; exact eqS_true hka
            have HO := hide (show otherS (restS s2 (ys.take k)) x = restS s2 (ys.take k) by unfold otherS; rw [if_pos hka])
            have HF := hide (And.intro hL1 hb1)
            have cA := hK1.cells
            clear hka hx hin hL1 hb1 hL hb hK1 hal hin2
            go_wp2_with fail
            go_roundw
            case rel => exact ⟨k + 1, v, by omega, by go_num, by rw [unhide HST, unhide HO]; exact (unhide HF).1.mono (by omega), (unhide HF).2⟩
            case measure => simp [intOf]; omega
          · have e1 : (x.a.toList == [107, 101, 112, 116]) = false := by rw [← kept_list]; exact eqS_false hka
            have HO := hide (show otherS (restS s2 (ys.take k)) x = actS (restS s2 (ys.take k)) x by unfold otherS; rw [if_neg hka])
            have HDO := hide (do_any _ w1.heap.size (w1.heap.size + 2) w1.heap.size (w1.heap.size + 1) (2 * nn + 1 + 2 * k) (restS s2 (ys.take k)) v x hL1 (by omega) hin2.good hin2.list (fun hne b off e hf => by
              have h1 := hin.far hne b off e
              have h2 := (hL1.lt b hf).1
              omega))
            have HLB := hide (And.intro hL1 hb1)
            have cA := hK1.cells
            clear hka hx hin hin2 hL hb hL1 hb1 hK1 hal
            go_wp2_with fail
            (with_reducible refine (unhide HDO).mono ?_); rintro e w3 ⟨rfl, hq⟩
            have HQ3 := hide hq
            clear hq cA c0 c1 c2 c3 c4 c5 hbb
            go_wp2_with fail
            go_roundw
            case rel =>
              obtain ⟨v', h1, h2, h3⟩ := unhide HQ3
              rw [← unhide HO, ← unhide HST] at h1
              exact ⟨k + 1, v', by omega, by go_num, h1.mono (by omega), turn_below (unhide HLB).2 (unhide HLB).1 h2⟩
            case measure => simp [intOf]; omega
        · have HK3 := hide (rest_kept (ys.take k) (unhide HK))
          obtain ⟨s3, hs3⟩ : ∃ s3, s3 = restS s2 (ys.take k) := ⟨_, rfl⟩
          rw [← hs3] at hL HK3
          have hle : 2 * nn + 1 + 2 * k ≤ 170 := by omega
          have HLB := hide (And.intro (hL.mono hle) hb)
          clear hs3 hL hb hle
          obtain ⟨o1, o2, o3⟩ := open_sink s3
          have HOP := hide (Open_any wp _ _ _ _ _ s3 v ⟨#[115, 105, 110, 107]⟩ ⟨#[69, 85, 82]⟩ 0 (unhide HLB).1 (by omega) (by decide) (by decide))
          obtain ⟨oe, hoe⟩ : ∃ oe, oe = openE s3 ⟨#[115, 105, 110, 107]⟩ ⟨#[69, 85, 82]⟩ 0 := ⟨_, rfl⟩
          unfold OpenQ at HOP
          rw [← hoe] at o1 o2 o3 HOP
          obtain ⟨s4, hs4⟩ : ∃ s4, s4 = (if oe = 0 then openS s3 ⟨#[115, 105, 110, 107]⟩ ⟨#[69, 85, 82]⟩ 0 else s3) := ⟨_, rfl⟩
          rw [← hs4] at o2 o3 HOP
          have HS4 := hide (And.intro o2 o3)
          clear hoe hs4 o2 o3
          have w1' : (oe != 0 && oe != 5) = false := by rcases o1 with rfl | rfl <;> rfl
          go_wp2_with fail
          (with_reducible refine (unhide HOP).mono ?_); rintro e w3 ⟨rfl, hL4, hT4⟩
          have H4 := hide (And.intro hL4 (turn_below (unhide HLB).2 (unhide HLB).1 hT4))
          clear hL4 hT4 HOP w1'
          obtain ⟨a, ha⟩ := Option.isSome_iff_exists.1 (unhide HS4).1
          have hk4 : findH s4.H ⟨#[107, 101, 112, 116]⟩ = some ⟨⟨#[107, 101, 112, 116]⟩, ⟨#[97]⟩, ⟨#[69, 85, 82]⟩, sum⟩ := by rw [(unhide HS4).2]; exact unhide HK3
          have hsm := look_small (unhide H4).1.ok ⟨#[115, 105, 110, 107]⟩ ⟨#[69, 85, 82]⟩
          have hsm2 := look_small (unhide H4).1.ok ⟨#[97]⟩ ⟨#[69, 85, 82]⟩
          obtain ⟨b1, hb1⟩ : ∃ b, b = balOf s4 ⟨#[115, 105, 110, 107]⟩ ⟨#[69, 85, 82]⟩ := ⟨_, rfl⟩
          obtain ⟨b2, hb2⟩ : ∃ b, b = balOf s4 ⟨#[97]⟩ ⟨#[69, 85, 82]⟩ := ⟨_, rfl⟩
          rw [← hb1] at hsm
          rw [← hb2] at hsm2
          unfold mostI at hsm hsm2
          have hbb1 : -1099511627776 ≤ b1 ∧ b1 ≤ 1099511627776 := by omega
          have hbb2 : -1099511627776 ≤ b2 ∧ b2 ≤ 1099511627776 := by omega
          have HA := hide (And.intro ha hk4)
          have HB1 := hide (fun W h => Balance_any W _ _ _ _ _ s4 v ⟨#[115, 105, 110, 107]⟩ ⟨#[69, 85, 82]⟩ (h : LedgerAt W w1.heap.size (w1.heap.size + 2) s4 w1.heap.size (w1.heap.size + 1) v 171) (by decide) (by decide))
          have HB2 := hide (fun W h => Balance_any W _ _ _ _ _ s4 v ⟨#[97]⟩ ⟨#[69, 85, 82]⟩ (h : LedgerAt W w1.heap.size (w1.heap.size + 2) s4 w1.heap.size (w1.heap.size + 1) v 171) (by decide) (by decide))
          simp only [← hb1] at HB1
          simp only [← hb2] at HB2
          have HBB := hide (And.intro hb1 hb2)
          have cz : IntKind.i64.wrap (b1 + sum) = b1 + sum := IntWalk.i64_in _ (by omega)
          have cz' : IntKind.i64.wrap (b2 - sum) = b2 - sum := IntWalk.i64_in _ (by omega)
          obtain ⟨z, hz⟩ : ∃ z, z = b1 + sum := ⟨_, rfl⟩
          obtain ⟨y, hy⟩ : ∃ y, y = b2 - sum := ⟨_, rfl⟩
          have cz1 : IntKind.i64.wrap (b1 + sum) = z := by rw [hz]; exact cz
          have cz2 : wrap64 (b1 + sum) = z := by rw [← IntWalk.i64_left]; exact cz1
          have cy1 : IntKind.i64.wrap (b2 - sum) = y := by rw [hy]; exact cz'
          have cy2 : wrap64 (b2 - sum) = y := by rw [← IntWalk.i64_left]; exact cy1
          have HZ := hide (And.intro hz hy)
          clear ha hk4 hsm hsm2 hb1 hb2 cz cz' hz hy
          have HCZ := hide (And.intro cz1 (And.intro cz2 (And.intro cy1 cy2)))
          clear cz1 cz2 cy1 cy2
          have HOK := o1
          have o5 : (oe == 0 || oe == 5) = true := by rcases o1 with rfl | rfl <;> rfl
          generalize thereB s4 ⟨#[115, 105, 110, 107]⟩ ⟨#[69, 85, 82]⟩ = t1 at HB1
          generalize thereB s4 ⟨#[97]⟩ ⟨#[69, 85, 82]⟩ = t2 at HB2
          have HOK2 := hide HOK
          rcases o1 with rfl | rfl
          all_goals
            clear HOK o5
            go_wp2_with fail
            (with_reducible refine (unhide HB1 _ (unhide H4).1).mono ?_); rintro e w6 ⟨rfl, hb⟩
            have H6 := hide (And.intro ((unhide H4).1.after hb) ((unhide H4).2.trans (hb.mono (unhide H4).2.size)))
            clear hb
            obtain ⟨cz1, cz2, cy1, cy2⟩ := unhide HCZ
            by_cases hbig : 1099511627776 < z
            · have d1 : decide ((1099511627776 : Int) < z) = true := by rw [decide_eq_true_eq]; exact hbig
              clear hbig cy1 cy2
              go_wp2_with fail
              go_ret
              exact ⟨rfl, (unhide B1).trans ((unhide H6).2.mono (unhide B1).size)⟩
            · have d1 : decide ((1099511627776 : Int) < z) = false := by rw [decide_eq_false_iff_not]; exact hbig
              have hfin := take_whole (t := takeT ⟨#[107, 101, 112, 116]⟩) (g := ⟨⟨#[107, 101, 112, 116]⟩, ⟨#[97]⟩, ⟨#[69, 85, 82]⟩, sum⟩) (a := a) (unhide H4).1.ok (to := ⟨#[115, 105, 110, 107]⟩) (unhide HA).2 (unhide HA).1 (show (⟨#[115, 105, 110, 107]⟩ : ByteArray) ≠ ⟨#[97]⟩ by decide) (by
                have e1 : balOf s4 ⟨#[115, 105, 110, 107]⟩ ⟨#[69, 85, 82]⟩ = a.bal := by unfold balOf; rw [(unhide HA).1]
                have e2 := (unhide HBB).1
                have e3 := (unhide HZ).1
                unfold mostI
                simp only
                omega)
              simp only at hfin
              obtain ⟨f1, f2, f3, f4, f5⟩ := hfin
              rw [← (unhide HBB).1, ← (unhide HZ).1] at f3
              rw [← (unhide HBB).2, ← (unhide HZ).2] at f4
              have HTK := hide (fun W h => Take_any W _ _ _ _ _ s4 v ⟨#[107, 101, 112, 116]⟩ ⟨#[115, 105, 110, 107]⟩ sum (h : LedgerAt W w1.heap.size (w1.heap.size + 2) s4 w1.heap.size (w1.heap.size + 1) v 171) (by omega) (by decide) (by decide) (ok_holds h.ok) hsum)
              unfold TakeQ at HTK
              rw [f2] at HTK
              simp only [f1, if_true] at HTK
              obtain ⟨s5, hs5⟩ : ∃ s5, s5 = takeS s4 ⟨⟨#[107, 101, 112, 116]⟩, ⟨#[97]⟩, ⟨#[69, 85, 82]⟩, sum⟩ ⟨#[115, 105, 110, 107]⟩ sum (takeT ⟨#[107, 101, 112, 116]⟩) := ⟨_, rfl⟩
              rw [← hs5] at f3 f4 f5 HTK
              have HF5 := hide (And.intro f3 (And.intro f4 f5))
              clear hbig f1 f2 f3 f4 f5 hs5
              have HCY := hide (And.intro cz1 (And.intro cz2 (And.intro cy1 cy2)))
              clear cy1 cy2
              go_wp2_with fail
              (with_reducible refine (unhide HB2 _ (unhide H6).1).mono ?_); rintro e w7 ⟨rfl, hb⟩
              have H7 := hide (And.intro ((unhide H6).1.after hb) ((unhide H6).2.trans (hb.mono (unhide H6).2.size)))
              clear hb
              go_wp2_with fail
              (with_reducible refine (unhide HTK _ (unhide H7).1).mono ?_); rintro e w8 ⟨rfl, v8, hL8, hT8, -⟩
              have H8 := hide (And.intro hL8 (turn_below (unhide H7).2 (unhide H7).1 hT8))
              have HB8 := hide (fun W h => Balance_any W _ _ _ _ _ s5 v8 ⟨#[115, 105, 110, 107]⟩ ⟨#[69, 85, 82]⟩ (h : LedgerAt W w1.heap.size (w1.heap.size + 2) s5 w1.heap.size (w1.heap.size + 1) v8 173) (by decide) (by decide))
              have HB9 := hide (fun W h => Balance_any W _ _ _ _ _ s5 v8 ⟨#[97]⟩ ⟨#[69, 85, 82]⟩ (h : LedgerAt W w1.heap.size (w1.heap.size + 2) s5 w1.heap.size (w1.heap.size + 1) v8 173) (by decide) (by decide))
              have HL9 := hide (fun W h => Let_any W _ _ _ _ _ s5 v8 ⟨#[107, 101, 112, 116]⟩ (h : LedgerAt W w1.heap.size (w1.heap.size + 2) s5 w1.heap.size (w1.heap.size + 1) v8 173) (by omega) (by decide) (ok_holds h.ok))
              obtain ⟨f3, f4, f5⟩ := unhide HF5
              simp only [f3] at HB8
              simp only [f4] at HB9
              simp only [f5] at HL9
              generalize thereB s5 ⟨#[115, 105, 110, 107]⟩ ⟨#[69, 85, 82]⟩ = t3 at HB8
              generalize thereB s5 ⟨#[97]⟩ ⟨#[69, 85, 82]⟩ = t4 at HB9
              clear hL8 hT8 f3 f4 f5 HTK
              go_wp2_with fail
              (with_reducible refine (unhide HB8 _ (unhide H8).1).mono ?_); rintro e w9 ⟨rfl, hb⟩
              have H9 := hide (And.intro ((unhide H8).1.after hb) ((unhide H8).2.trans (hb.mono (unhide H8).2.size)))
              clear hb
              go_wp2_with fail
              (with_reducible refine (unhide HB9 _ (unhide H9).1).mono ?_); rintro e w10 ⟨rfl, hb⟩
              have H10 := hide (And.intro ((unhide H9).1.after hb) ((unhide H9).2.trans (hb.mono (unhide H9).2.size)))
              clear hb cz1 cz2
              obtain ⟨cz1, cz2, cy1, cy2⟩ := unhide HCY
              go_wp2_with fail
              (with_reducible refine (unhide HL9 _ (unhide H10).1).mono ?_); rintro e w11 ⟨rfl, hq⟩
              have H11 := hide (turn_below (unhide H10).2 (unhide H10).1 hq.2)
              clear hq cz1 cz2 cy1 cy2
              go_wp2_with fail
              go_ret
              exact ⟨rfl, (unhide B1).trans ((unhide H11).mono (unhide B1).size)⟩
    · have hB5 : Below w1.heap.size w1 w5 := turn_below (unhide H2).2 (unhide H2).1 (unhide HQ).2
      have H5 := hide ((unhide B1).trans (hB5.mono (unhide B1).size))
      have d0 : (he != 0) = true := by simpa using h0
      have d0' : (he == 0) = false := by simpa using h0
      clear hB5 h0
      go_wp2_with fail
      go_ret
      exact ⟨rfl, unhide H5⟩
end Go.Proofs.Ytjihkoleipkgmaa
