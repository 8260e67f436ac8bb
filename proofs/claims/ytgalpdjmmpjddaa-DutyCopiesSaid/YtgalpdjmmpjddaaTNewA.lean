/- Walk: the program's New. -/
import Derived.Test.YtgalpdjmmpjddaaRowKeyA
import Derived.Test.YtgalpdjmmpjddaaReduceA
namespace Go.Proofs.Ytgalpdjmmpjddaa
set_option linter.unusedVariables false
set_option linter.unusedSimpArgs false
open Go.RowKit Go.Maps

/-- block p is a tariff of these rows -/
def TariffAt (w : World) (p : Nat) (xs : List Rt) : Prop := ∃ m n, Whole w p 70 #[.map (some m)] ∧ MapAt rowKeys w m n (rowF xs)
theorem TariffAt.after {w w' : World} {p : Nat} {xs : List Rt} (h : TariffAt w p xs) (hb : Below w.heap.size w w') : TariffAt w' p xs := by
  obtain ⟨m, n, h1, h2⟩ := h
  exact ⟨m, n, h1.after hb, h2.after hb⟩

/-- what New tells -/
def TNewQ (w : World) (xs : List Rt) (e : Ending) (w' : World) : Prop :=
  if mNew xs = 0 then e = .returned (.tuple #[.pointer (some ⟨w.heap.size + 1, 0, none⟩), .int .i64 0]) ∧ TariffAt w' (w.heap.size + 1) xs else e = .returned (.tuple #[.pointer none, .int .i64 (mNew xs)])

theorem TNewQ.bad {w : World} {xs : List Rt} {w' : World} {c : Int} (h : mNew xs = c) (hc : c ≠ 0) : TNewQ w xs (.returned (.tuple #[.pointer none, .int .i64 c])) w' := by
  unfold TNewQ
  rw [h, if_neg hc]

set_option maxHeartbeats 8000000 in
set_option maxRecDepth 100000 in
theorem TNew_any (xs : List Rt) (A : Option Addr) (n c : Nat) (w : World) (hn : n = xs.length) (hnc : n ≤ c) (hc : c ≤ maxLen) (hx : RatesIn w w.heap.size A xs)
    (hs : ∀ x ∈ xs, x.frm.size ≤ maxLen ∧ x.to_.size ≤ maxLen) (hr : ∀ x ∈ xs, x.num < 9223372036854775808 ∧ x.den < 9223372036854775808) :
    Calls Try.prog 10 #[.slice A n c] w fun e w' => TNewQ w xs e w' ∧ Below w.heap.size w w' := by
  obtain ⟨r, hr0⟩ : ∃ r, r = mNew xs := ⟨_, rfl⟩
  have hdef : r = if 4096 < n then 7 else newGo [] xs := by rw [hr0, hn]; rfl
  have HM := hide hr0
  have HD := hide hdef
  have HN := hide hn
  have HX := hide hx
  have HS := hide hs
  have HR := hide hr
  clear hr0 hn hx hs hr hdef
  unfold maxLen at hc
  have hmm := @run_makeMap Try.prog
  go_enter Try.func10, Try.ntmps10
  by_cases hlen : n ≤ 4096
  · have hst : r = newGo [] xs := by rw [unhide HD, if_neg (by omega)]
    have HG := hide hst
    clear hst
    have hl' : decide ((4096 : Int) < (n : Int)) = false := by rw [decide_eq_false_iff_not]; omega
    go_wp2_with fail
    go_loopw [20] (fun i wr => ∃ k : Nat, k ≤ n ∧ i = .int .i64 k ∧ Below w.heap.size w wr ∧ Whole wr (w.heap.size + 1) 70 #[.map (some w.heap.size)] ∧ MapAt rowKeys wr w.heap.size k (rowF (xs.take k)) ∧ Hid (r = newGo (xs.take k) (xs.drop k))) (fun i _ => n - (intOf i).toNat)
    case atStart =>
      exact ⟨0, by omega, rfl, ((Below.refl w.heap.size w).alloc (Nat.le_refl _) _).alloc (by simp) _, Whole.made_at _ _ _ _ (by simp), (MapAt.made rowKeys w).alloc _, hide (unhide HG)⟩
    case round =>
      obtain ⟨k, hk, rfl, hbw, hT, hM, HI⟩ := hrel
      obtain ⟨wo, rfl⟩ : ∃ wo : World, wo = wr := ⟨_, rfl⟩
      have hTs := hT.lt
      by_cases hlt : k < n
      · obtain ⟨x, hx⟩ : ∃ x, xs[k]? = some x := ⟨xs[k]'(by rw [← unhide HN]; exact hlt), List.getElem?_eq_getElem _⟩
        obtain ⟨b, off, rfl, hbb, c0, c1, c2, c3, c4⟩ := ((unhide HX).below hbw).at hx
        obtain ⟨s1, s2⟩ := unhide HS x (List.mem_of_getElem? hx)
        obtain ⟨q1, q2⟩ := unhide HR x (List.mem_of_getElem? hx)
        have hst := newGo_at xs k x hx
        rw [← unhide HI] at hst
        have hok : rowOk x = (okName x.frm && (decide (x.to_.size = 0) || okName x.to_) && fracB x.num x.den && decide (x.day = 0)) := rfl
        rw [hok] at hst
        have H1 := hide (fun W => name_any x.frm W s1)
        have H2 := hide (fun W => name_any x.to_ W s2)
        have H3 := hide (fun W => Reduce_any x.num x.den W q1 q2)
        have hgood : rowKeys.good (x.frm, x.to_) := ⟨s1, s2⟩
        have hem := empty_at x.to_
        obtain ⟨o1, ho1⟩ : ∃ o, o = okName x.frm := ⟨_, rfl⟩
        obtain ⟨o2, ho2⟩ : ∃ o, o = okName x.to_ := ⟨_, rfl⟩
        obtain ⟨o3, ho3⟩ : ∃ o, o = fracB x.num x.den := ⟨_, rfl⟩
        rw [← ho1, ← ho2, ← ho3] at hst
        rw [← ho1] at H1; rw [← ho2] at H2; rw [← ho3] at H3
        have HK := hide hst
        have HXK := hide hx
        have HGD := hide hgood
        have HB := hide hbw
        have HT := hide hT
        have HMA := hide hM
        clear hst hok ho1 ho2 ho3 hx hbw s1 s2 q1 q2 hT hM hgood
        go_wp2_with fail
        have hxw := (Whole.made wo 66 #[.string x.frm, .string x.to_, .int .i64 x.day, .int .i64 x.num, .int .i64 x.den]).alloc (.cells #[.string x.frm, .string x.to_] 72)
        have hkw := Whole.made_at (wo.alloc (.cells #[.string x.frm, .string x.to_, .int .i64 x.day, .int .i64 x.num, .int .i64 x.den] 66)) 72 #[.string x.frm, .string x.to_] (wo.heap.size + 1) (by simp)
        have htw := ((unhide HT).alloc (.cells #[.string x.frm, .string x.to_, .int .i64 x.day, .int .i64 x.num, .int .i64 x.den] 66)).alloc (.cells #[.string x.frm, .string x.to_] 72)
        have hmw := ((unhide HMA).alloc (.cells #[.string x.frm, .string x.to_, .int .i64 x.day, .int .i64 x.num, .int .i64 x.den] 66)).alloc (.cells #[.string x.frm, .string x.to_] 72)
        have hbw := ((unhide HB).alloc (unhide HB).size (.cells #[.string x.frm, .string x.to_, .int .i64 x.day, .int .i64 x.num, .int .i64 x.den] 66)).alloc (by have := (unhide HB).size; simp; omega) (.cells #[.string x.frm, .string x.to_] 72)
        obtain ⟨W2, hW2⟩ : ∃ W, W = (wo.alloc (.cells #[.string x.frm, .string x.to_, .int .i64 x.day, .int .i64 x.num, .int .i64 x.den] 66)).alloc (.cells #[.string x.frm, .string x.to_] 72) := ⟨_, rfl⟩
        have hsz2 : W2.heap.size = wo.heap.size + 1 + 1 := by rw [hW2]; simp
        rw [← hW2] at hxw hkw htw hmw hbw ⊢
        clear hW2 c0 c1 c2 c3 c4
        obtain ⟨f, hf⟩ : ∃ f, f = fnd x.frm x.to_ 0 (xs.take k) := ⟨_, rfl⟩
        have hlook : ∃ a1 a2 : Int, ∀ W : World, MapAt rowKeys W w.heap.size k (rowF (xs.take k)) → (Instr.lookup 68 (.map (some w.heap.size)) (.agg #[.string x.frm, .string x.to_]) true).run Try.prog W = .ok (.tuple #[.agg #[.int .i64 a1, .int .i64 a2], .bool (decide (0 ≤ f))]) W := by
          cases hff : (xs.take k).find? (fun y => hit y x.frm x.to_) with
          | none =>
            have hlt : f < 0 := by rw [hf]; exact (fnd_none _ _ _ _).2 hff
            refine ⟨0, 0, fun W hm => ?_⟩
            have := hm.look_none (t := 68) (e := 64) Try.underlying68 (zeroRatio _) (unhide HGD) (by rw [rowF, hff]; rfl) true
            rw [show decide (0 ≤ f) = false by rw [decide_eq_false_iff_not]; omega]
            exact this
          | some y =>
            have hge : 0 ≤ f := by
              rcases Int.lt_or_le f 0 with h | h
              · rw [hf] at h; rw [(fnd_none _ _ _ _).1 h] at hff; cases hff
              · exact h
            refine ⟨y.num, y.den, fun W hm => ?_⟩
            have := hm.look_some (t := 68) (e := 64) Try.underlying68 (zeroRatio _) (unhide HGD) (by rw [rowF, hff]; rfl) true
            rw [show decide (0 ≤ f) = true by rw [decide_eq_true_eq]; exact hge]
            exact this
        obtain ⟨a1, a2, hlk⟩ := hlook
        have hlook := hlk _ hmw.drew
        have hlookA := fun o => hlk _ (hmw.alloc o).drew
        clear hlk
        have HF := hide hf
        clear hf
        obtain ⟨kn, hkn⟩ : ∃ b, b = decide (0 ≤ f) := ⟨_, rfl⟩
        rw [← hkn] at hlook
        simp only [← hkn] at hlookA
        have hTz := htw.lt
        have cT := htw.cells
        have cK := hkw.cells
        have cT2 := fun o => (htw.alloc o).cells
        have cK2 := fun o => (hkw.alloc o).cells
        have HKN := hide hkn
        have HXW := hide hxw; have HKW := hide hkw; have HTW := hide htw; have HMW := hide hmw; have HBW := hide hbw
        clear hxw hkw htw hmw hbw HT HMA HB hkn
        go_region
        clear cT cK cT2 cK2 hlook hlookA
        have cX := ((unhide HXW).alloc (.cells #[.int .i64 a1, .int .i64 a2] 64)).drew.cells
        go_wp2_with fail
        (with_reducible refine (unhide H3 _).mono ?_); rintro e w4 ⟨⟨z1, z2, rfl⟩, hb⟩
        have HX4 := hide (((unhide HXW).alloc (.cells #[.int .i64 a1, .int .i64 a2] 64)).drew.after hb)
        have HK4 := hide (((unhide HKW).alloc (.cells #[.int .i64 a1, .int .i64 a2] 64)).drew.after hb)
        have HT4 := hide (((unhide HTW).alloc (.cells #[.int .i64 a1, .int .i64 a2] 64)).drew.after hb)
        have HM4 := hide (((unhide HMW).alloc (.cells #[.int .i64 a1, .int .i64 a2] 64)).drew.after hb)
        have HB4 := hide (((unhide HBW).alloc (unhide HBW).size (.cells #[.int .i64 a1, .int .i64 a2] 64)).drew.trans (hb.mono (by have := (unhide HBW).size; simp; omega)))
        clear cX hb HXW HKW HTW HMW HBW
        have cX := ((unhide HX4).alloc (.cells #[.int .i64 z1, .int .i64 z2] 64)).cells
        go_wp2_with fail
        (with_reducible refine (unhide H1 _).mono ?_); rintro e w6 ⟨rfl, hb⟩
        have HX6 := hide (((unhide HX4).alloc (.cells #[.int .i64 z1, .int .i64 z2] 64)).after hb)
        have HK6 := hide (((unhide HK4).alloc (.cells #[.int .i64 z1, .int .i64 z2] 64)).after hb)
        have HT6 := hide (((unhide HT4).alloc (.cells #[.int .i64 z1, .int .i64 z2] 64)).after hb)
        have HM6 := hide (((unhide HM4).alloc (.cells #[.int .i64 z1, .int .i64 z2] 64)).after hb)
        have HB6 := hide (((unhide HB4).alloc (unhide HB4).size (.cells #[.int .i64 z1, .int .i64 z2] 64)).trans (hb.mono (by have := (unhide HB4).size; simp; omega)))
        clear cX hb HX4 HK4 HT4 HM4 HB4
        have cX := (unhide HX6).cells
        cases o1
        · go_wp2_with fail
          go_ret2
          exact ⟨.bad (by rw [← unhide HM, unhide HK]; rfl) (by decide), unhide HB6⟩
        · by_cases hz : x.to_.size = 0
          · have hem' : x.to_.toList.isEmpty = true := by rw [hem]; simpa using hz
            clear hem
            cases o3
            · go_wp2_with fail
              go_ret2
              exact ⟨.bad (by rw [← unhide HM, unhide HK]; simp [hz]) (by decide), unhide HB6⟩
            · by_cases hday : x.day = 0
              · have hday' : decide (x.day = 0) = true := by rw [decide_eq_true_eq]; exact hday
                have hst : r = if 0 ≤ f then 5 else newGo (xs.take (k + 1)) (xs.drop (k + 1)) := by rw [unhide HK, ← unhide HF]; simp [hz, hday]
                have HK2 := hide hst
                clear hst
                by_cases hf0 : 0 ≤ f
                · have hkn : kn = true := by rw [unhide HKN, decide_eq_true_eq]; exact hf0
                  subst hkn
                  go_wp2_with fail
                  go_ret2
                  exact ⟨.bad (by rw [← unhide HM, unhide HK2, if_pos hf0]) (by decide), unhide HB6⟩
                · have hkn : kn = false := by rw [unhide HKN, decide_eq_false_iff_not]; exact hf0
                  subst hkn
                  have hf1 : f < 0 := by omega
                  go_wp2_with fail
                  refine wp_tail 7 (by kernel_rfl) (by kernel_rfl) ?_
                  simp only [List.take_succ_cons, List.take_zero, List.drop_succ_cons, List.drop_zero]
                  clear cX
                  have cX := (unhide HX6).drew.cells
                  have cK := (unhide HK6).drew.cells
                  have cT := (unhide HT6).drew.cells
                  have hTz := (unhide HT6).lt
                  repeat still_step
                  refine wpStill_nil ?_
                  clear cX cK cT
                  go_wp2_with (at_mapUpdate; refine wpList_put _ rfl _ _ _ 68 rfl (J := rowKeys) Try.underlying68 rfl (unhide HM6).drew (by unfold maxLen; omega) (unhide HGD) rfl rfl ?_; intro w9 hm9 hg9)
                  go_roundw
                  case rel =>
                    refine ⟨k + 1, by omega, by go_num, (unhide HB6).drew.grown hg9 (unhide HB6).drew.size (fun j hj => by cases hj; omega), ?_, hm9.congr fun y _ => ?_, hide (by rw [unhide HK2, if_neg (by omega)])⟩
                    · exact (hg9.block _ (unhide HT6).drew.lt (by intro e; injection e with e; omega)).trans (unhide HT6).drew
                    · rw [take_snoc xs k x (unhide HXK)]; exact rowF_snoc _ _ (by rw [← unhide HF]; exact hf1) _
                  case measure => simp [intOf]; omega
              · have hday' : decide (x.day = 0) = false := by rw [decide_eq_false_iff_not]; exact hday
                go_wp2_with fail
                go_ret2
                exact ⟨.bad (by rw [← unhide HM, unhide HK]; simp [hz, hday]) (by decide), unhide HB6⟩

          · have hem' : x.to_.toList.isEmpty = false := by rw [hem]; simpa using hz
            clear hem
            go_wp2_with fail
            (with_reducible refine (unhide H2 _).mono ?_); rintro e w7 ⟨rfl, hb⟩
            have HX7 := hide ((unhide HX6).after hb)
            have HK7 := hide ((unhide HK6).after hb)
            have HT7 := hide ((unhide HT6).after hb)
            have HM7 := hide ((unhide HM6).after hb)
            have HB7 := hide ((unhide HB6).trans (hb.mono (unhide HB6).size))
            clear cX hb HX6 HK6 HT6 HM6 HB6
            have HX6 := HX7; have HK6 := HK7; have HT6 := HT7; have HM6 := HM7; have HB6 := HB7
            clear HX7 HK7 HT7 HM7 HB7
            have cX := (unhide HX6).cells
            cases o2
            · go_wp2_with fail
              go_ret2
              exact ⟨.bad (by rw [← unhide HM, unhide HK]; simp [hz]) (by decide), unhide HB6⟩
            · cases o3
              · go_wp2_with fail
                go_ret2
                exact ⟨.bad (by rw [← unhide HM, unhide HK]; simp [hz]) (by decide), unhide HB6⟩
              · by_cases hday : x.day = 0
                · have hday' : decide (x.day = 0) = true := by rw [decide_eq_true_eq]; exact hday
                  have hst : r = if 0 ≤ f then 5 else newGo (xs.take (k + 1)) (xs.drop (k + 1)) := by rw [unhide HK, ← unhide HF]; simp [hz, hday]
                  have HK2 := hide hst
                  clear hst
                  by_cases hf0 : 0 ≤ f
                  · have hkn : kn = true := by rw [unhide HKN, decide_eq_true_eq]; exact hf0
                    subst hkn
                    go_wp2_with fail
                    go_ret2
                    exact ⟨.bad (by rw [← unhide HM, unhide HK2, if_pos hf0]) (by decide), unhide HB6⟩
                  · have hkn : kn = false := by rw [unhide HKN, decide_eq_false_iff_not]; exact hf0
                    subst hkn
                    have hf1 : f < 0 := by omega
                    go_wp2_with fail
                    refine wp_tail 7 (by kernel_rfl) (by kernel_rfl) ?_
                    simp only [List.take_succ_cons, List.take_zero, List.drop_succ_cons, List.drop_zero]
                    clear cX
                    have cX := (unhide HX6).drew.cells
                    have cK := (unhide HK6).drew.cells
                    have cT := (unhide HT6).drew.cells
                    have hTz := (unhide HT6).lt
                    repeat still_step
                    refine wpStill_nil ?_
                    clear cX cK cT
                    go_wp2_with (at_mapUpdate; refine wpList_put _ rfl _ _ _ 68 rfl (J := rowKeys) Try.underlying68 rfl (unhide HM6).drew (by unfold maxLen; omega) (unhide HGD) rfl rfl ?_; intro w9 hm9 hg9)
                    go_roundw
                    case rel =>
                      refine ⟨k + 1, by omega, by go_num, (unhide HB6).drew.grown hg9 (unhide HB6).drew.size (fun j hj => by cases hj; omega), ?_, hm9.congr fun y _ => ?_, hide (by rw [unhide HK2, if_neg (by omega)])⟩
                      · exact (hg9.block _ (unhide HT6).drew.lt (by intro e; injection e with e; omega)).trans (unhide HT6).drew
                      · rw [take_snoc xs k x (unhide HXK)]; exact rowF_snoc _ _ (by rw [← unhide HF]; exact hf1) _
                    case measure => simp [intOf]; omega
                · have hday' : decide (x.day = 0) = false := by rw [decide_eq_false_iff_not]; exact hday
                  go_wp2_with fail
                  go_ret2
                  exact ⟨.bad (by rw [← unhide HM, unhide HK]; simp [hz, hday]) (by decide), unhide HB6⟩

      · have hend : r = 0 := by rw [unhide HI, List.drop_eq_nil_of_le (by rw [← unhide HN]; omega)]; rfl
        have htk : xs.take k = xs := List.take_of_length_le (by rw [← unhide HN]; omega)
        rw [htk] at hM
        have HE := hide hend
        have HB := hide hbw
        have HT := hide (show TariffAt wo (w.heap.size + 1) xs from ⟨_, _, hT, hM⟩)
        clear hend hbw hT hM
        go_wp2_with fail
        go_ret2
        refine ⟨?_, unhide HB⟩
        unfold TNewQ
        rw [← unhide HM, unhide HE, if_pos rfl]
        exact ⟨rfl, unhide HT⟩
  · have hst : r = 7 := by rw [unhide HD, if_pos (by omega)]
    have HG := hide hst
    clear hst
    have hl' : decide ((4096 : Int) < (n : Int)) = true := by rw [decide_eq_true_eq]; omega
    go_wp2_with fail
    go_ret2
    exact ⟨.bad (by rw [← unhide HM, unhide HG]) (by decide), Below.refl _ _⟩
end Go.Proofs.Ytgalpdjmmpjddaa
