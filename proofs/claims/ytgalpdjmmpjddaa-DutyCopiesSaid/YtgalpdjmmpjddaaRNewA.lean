/- Walks: the reference's New; are rows too many? -/
import Derived.Test.YtgalpdjmmpjddaaRatesA
import Derived.Test.YtgalpdjmmpjddaaScaleA
namespace Go.Proofs.Ytgalpdjmmpjddaa
set_option linter.unusedVariables false
set_option linter.unusedSimpArgs false
open Go.RowKit

/-- may a row be? -/
def rowOk (x : Rt) : Bool := okName x.frm && (decide (x.to_.size = 0) || okName x.to_) && fracB x.num x.den && decide (x.day = 0)
/-- what is wrong first -/
def newGo : List Rt → List Rt → Int
  | _, [] => 0
  | pre, x :: r => if rowOk x then (if 0 ≤ fnd x.frm x.to_ 0 pre then 5 else newGo (pre ++ [x]) r) else 1
def mNew (xs : List Rt) : Int := if 4096 < xs.length then 7 else newGo [] xs
/-- is a row long? (as a machine's int adds it) -/
def longR (x : Rt) : Bool := decide ((100 : Int) < wrap64 ((x.frm.size : Int) + (x.to_.size : Int)))
def mWide (xs : List Rt) : Bool := xs.any longR || decide (40 < xs.length)

theorem take_snoc {α : Type} (xs : List α) (k : Nat) (x : α) (hx : xs[k]? = some x) : xs.take (k + 1) = xs.take k ++ [x] := by
  have hk : k < xs.length := (List.getElem?_eq_some_iff.1 hx).1
  rw [List.take_succ_eq_append_getElem hk, (List.getElem?_eq_some_iff.1 hx).2]
theorem newGo_at (xs : List Rt) (k : Nat) (x : Rt) (hx : xs[k]? = some x) :
    newGo (xs.take k) (xs.drop k) = if rowOk x then (if 0 ≤ fnd x.frm x.to_ 0 (xs.take k) then 5 else newGo (xs.take (k + 1)) (xs.drop (k + 1))) else 1 := by
  have hk : k < xs.length := (List.getElem?_eq_some_iff.1 hx).1
  rw [List.drop_eq_getElem_cons hk, (List.getElem?_eq_some_iff.1 hx).2, newGo, take_snoc xs k x hx]
theorem empty_at (s : ByteArray) : (s.toList.isEmpty) = decide (s.size = 0) := empty_iff s

set_option maxHeartbeats 2000000 in
theorem wide_any (xs : List Rt) (A : Option Addr) (n c : Nat) (w : World) (hn : n = xs.length) (hm : n ≤ maxLen) (hx : RatesIn w w.heap.size A xs) (hs : ∀ x ∈ xs, x.frm.size ≤ maxLen ∧ x.to_.size ≤ maxLen) :
    Calls Try.prog 8 #[.slice A n c] w fun e w' => e = .returned (.bool (mWide xs)) ∧ Below w.heap.size w w' := by
  have HN := hide hn
  have HX := hide hx
  have HS := hide hs
  obtain ⟨r, hr⟩ : ∃ r, r = mWide xs := ⟨_, rfl⟩
  rw [← hr]
  have hdef : r = (xs.any longR || decide (40 < n)) := by rw [hr, hn]; rfl
  have HR := hide hdef
  clear hr hn hx hs hdef
  unfold maxLen at hm
  go_enter Try.func8, Try.ntmps8
  go_wp2_with fail
  go_loopw [7] (fun i wr => ∃ k : Nat, k ≤ n ∧ i = .int .i64 k ∧ Below w.heap.size w wr ∧ Hid ((xs.take k).any longR = false)) (fun i _ => n - (intOf i).toNat)
  case atStart => exact ⟨0, by omega, rfl, Below.refl _ _, hide rfl⟩
  case round =>
    obtain ⟨k, hk, rfl, hbw, HI⟩ := hrel
    obtain ⟨wo, rfl⟩ : ∃ wo : World, wo = wr := ⟨_, rfl⟩
    by_cases hlt : k < n
    · obtain ⟨x, hx⟩ : ∃ x, xs[k]? = some x := ⟨xs[k]'(by rw [← unhide HN]; exact hlt), List.getElem?_eq_getElem _⟩
      obtain ⟨b, off, rfl, hbb, c0, c1, c2, c3, c4⟩ := ((unhide HX).below hbw).at hx
      have HK := hide hx
      have HB := hide hbw
      clear hx hbw
      cases hw : longR x
      case true =>
        have hrt : r = true := by
          rw [unhide HR]
          have : xs.any longR = true := List.any_eq_true.2 ⟨x, List.mem_of_getElem? (unhide HK), hw⟩
          rw [this]; rfl
        have HT := hide hrt
        clear hrt
        unfold longR at hw
        go_wp2_with fail
        all_goals first
          | (go_ret; exact ⟨ret_bool (unhide HT).symm, (unhide HB).alloc (unhide HB).size _⟩)
      case false =>
        have hnext : (xs.take (k + 1)).any longR = false := by
          rw [take_snoc xs k x (unhide HK), List.any_append, unhide HI]
          simp [hw]
        have HT := hide hnext
        clear hnext
        unfold longR at hw
        go_wp2_with fail
        go_roundw
        case rel => exact ⟨k + 1, by omega, by go_num, (unhide HB).alloc (unhide HB).size _, HT⟩
        case measure => simp [intOf]; omega
    · have hend : r = decide (40 < n) := by
        have := unhide HI
        rw [List.take_of_length_le (by rw [← unhide HN]; omega)] at this
        rw [unhide HR, this]; rfl
      have HE := hide hend
      have HB := hide hbw
      clear hend hbw
      go_wp2_with fail
      all_goals (go_ret; exact ⟨ret_bool (by rw [unhide HE]; simp; omega), unhide HB⟩)

set_option maxHeartbeats 4000000 in
set_option maxRecDepth 100000 in
theorem RNew_any (xs : List Rt) (A : Option Addr) (n c : Nat) (w : World) (hn : n = xs.length) (hnc : n ≤ c) (hc : c ≤ maxLen) (hx : RatesIn w w.heap.size A xs) (hs : ∀ x ∈ xs, x.frm.size ≤ maxLen ∧ x.to_.size ≤ maxLen) :
    Calls Try.prog 11 #[.slice A n c] w fun e w' => e = .returned (.int .i64 (mNew xs)) ∧ Below w.heap.size w w' := by
  obtain ⟨r, hr⟩ : ∃ r, r = mNew xs := ⟨_, rfl⟩
  rw [← hr]
  have hdef : r = if 4096 < n then 7 else newGo [] xs := by rw [hr, hn]; rfl
  have HD := hide hdef
  have HN := hide hn
  have HX := hide hx
  have HS := hide hs
  clear hr hn hx hs hdef
  unfold maxLen at hc
  go_enter Try.func11, Try.ntmps11
  by_cases hlen : n ≤ 4096
  · have hst : r = newGo [] xs := by rw [unhide HD, if_neg (by omega)]
    have HR := hide hst
    clear hst
    have hl' : decide ((4096 : Int) < (n : Int)) = false := by rw [decide_eq_false_iff_not]; omega
    go_wp2_with fail
    go_loopw [3] (fun i wr => ∃ k : Nat, k ≤ n ∧ i = .int .i64 k ∧ Below w.heap.size w wr ∧ Hid (r = newGo (xs.take k) (xs.drop k))) (fun i _ => n - (intOf i).toNat)
    case atStart => exact ⟨0, by omega, rfl, Below.refl _ _, hide (unhide HR)⟩
    case round =>
      obtain ⟨k, hk, rfl, hbw, HI⟩ := hrel
      obtain ⟨wo, rfl⟩ : ∃ wo : World, wo = wr := ⟨_, rfl⟩
      by_cases hlt : k < n
      · obtain ⟨x, hx⟩ : ∃ x, xs[k]? = some x := ⟨xs[k]'(by rw [← unhide HN]; exact hlt), List.getElem?_eq_getElem _⟩
        obtain ⟨b, off, rfl, hbb, c0, c1, c2, c3, c4⟩ := ((unhide HX).below hbw).at hx
        obtain ⟨s1, s2⟩ := unhide HS x (List.mem_of_getElem? hx)
        have hst := newGo_at xs k x hx
        rw [← unhide HI] at hst
        have hok : rowOk x = (okName x.frm && (decide (x.to_.size = 0) || okName x.to_) && fracB x.num x.den && decide (x.day = 0)) := rfl
        rw [hok] at hst
        have H1 := hide (fun W => Name_any x.frm W s1)
        have H2 := hide (fun W => Name_any x.to_ W s2)
        have H3 := hide (fun W => Right_any x.num x.den W)
        have H4 := hide (fun (W : World) (hW : Below w.heap.size w W) => find_any (xs.take k) (some ⟨b, off, none⟩) k c x.frm x.to_ W (by rw [List.length_take, ← unhide HN]; omega) (by omega) ((((unhide HX).below hW).more hW.size).take k))
        have hem := empty_at x.to_
        obtain ⟨o1, ho1⟩ : ∃ o, o = okName x.frm := ⟨_, rfl⟩
        obtain ⟨o2, ho2⟩ : ∃ o, o = okName x.to_ := ⟨_, rfl⟩
        obtain ⟨o3, ho3⟩ : ∃ o, o = fracB x.num x.den := ⟨_, rfl⟩
        obtain ⟨f, hf⟩ : ∃ f, f = fnd x.frm x.to_ 0 (xs.take k) := ⟨_, rfl⟩
        rw [← ho1, ← ho2, ← ho3, ← hf] at hst
        rw [← ho1] at H1; rw [← ho2] at H2; rw [← ho3] at H3; rw [← hf] at H4
        have HK := hide hst
        have HXK := hide hx
        have HB := hide hbw
        clear hst hok ho1 ho2 ho3 hf hx hbw s1 s2
        go_wp2_with fail
        (with_reducible refine (unhide H1 _).mono ?_); rintro e w1 ⟨rfl, rfl⟩
        cases o1
        · go_wp2_with fail
          go_ret
          exact ⟨ret_int (by rw [unhide HK]; rfl), unhide HB⟩
        · by_cases hz : x.to_.size = 0
          · have hem' : x.to_.toList.isEmpty = true := by rw [hem]; simpa using hz
            clear hem
            go_wp2_with fail
            (with_reducible refine (unhide H3 _).mono ?_); rintro e w2 ⟨rfl, hb⟩
            have HB2 := hide ((unhide HB).trans (hb.mono (unhide HB).size))
            have hX2 := ((unhide HX).below (unhide HB2)).at (unhide HXK)
            obtain ⟨b', off', he', hbb', d0, d1, d2, d3, d4⟩ := hX2
            cases he'
            clear hb c0 c1 c2 c3 c4
            cases o3
            · go_wp2_with fail
              go_ret
              exact ⟨ret_int (by rw [unhide HK]; simp [hz]), unhide HB2⟩
            · by_cases hday : x.day = 0
              · have hday' : decide (x.day = 0) = true := by rw [decide_eq_true_eq]; exact hday
                have hst : r = if 0 ≤ f then 5 else newGo (xs.take (k + 1)) (xs.drop (k + 1)) := by rw [unhide HK]; simp [hz, hday]
                have HK2 := hide hst
                have H5 := hide (unhide H4 _ (unhide HB2).drew)
                clear hst
                go_wp2_with fail
                have hkc : k ≤ c := by omega
                refine wp_tail 14 (by kernel_rfl) (by kernel_rfl) ?_
                simp only [List.take_succ_cons, List.take_zero, List.drop_succ_cons, List.drop_zero]
                repeat still_step
                still_call (still_of (unhide H5))
                repeat still_step
                refine wpStill_nil ?_
                by_cases hf : 0 ≤ f
                · have hf' : decide (0 ≤ f) = true := by rw [decide_eq_true_eq]; exact hf
                  go_wp2_with fail
                  go_ret
                  exact ⟨ret_int (by rw [unhide HK2, if_pos hf]), (unhide HB2).drew⟩
                · have hf' : decide (0 ≤ f) = false := by rw [decide_eq_false_iff_not]; exact hf
                  go_wp2_with fail
                  go_roundw
                  case rel => exact ⟨k + 1, by omega, by go_num, (unhide HB2).drew, hide (by rw [unhide HK2, if_neg hf])⟩
                  case measure => simp [intOf]; omega
              · have hday' : decide (x.day = 0) = false := by rw [decide_eq_false_iff_not]; exact hday
                go_wp2_with fail
                go_ret
                exact ⟨ret_int (by rw [unhide HK]; simp [hz, hday]), unhide HB2⟩
          · have hem' : x.to_.toList.isEmpty = false := by rw [hem]; simpa using hz
            clear hem
            go_wp2_with fail
            (with_reducible refine (unhide H2 _).mono ?_); rintro e w1 ⟨rfl, rfl⟩
            cases o2
            · go_wp2_with fail
              go_ret
              exact ⟨ret_int (by rw [unhide HK]; simp [hz]), unhide HB⟩
            · go_wp2_with fail
              (with_reducible refine (unhide H3 _).mono ?_); rintro e w2 ⟨rfl, hb⟩
              have HB2 := hide ((unhide HB).trans (hb.mono (unhide HB).size))
              have hX2 := ((unhide HX).below (unhide HB2)).at (unhide HXK)
              obtain ⟨b', off', he', hbb', d0, d1, d2, d3, d4⟩ := hX2
              cases he'
              clear hb c0 c1 c2 c3 c4
              cases o3
              · go_wp2_with fail
                go_ret
                exact ⟨ret_int (by rw [unhide HK]; simp [hz]), unhide HB2⟩
              · by_cases hday : x.day = 0
                · have hday' : decide (x.day = 0) = true := by rw [decide_eq_true_eq]; exact hday
                  have hst : r = if 0 ≤ f then 5 else newGo (xs.take (k + 1)) (xs.drop (k + 1)) := by rw [unhide HK]; simp [hz, hday]
                  have HK2 := hide hst
                  have H5 := hide (unhide H4 _ (unhide HB2).drew)
                  clear hst
                  go_wp2_with fail
                  have hkc : k ≤ c := by omega
                  refine wp_tail 14 (by kernel_rfl) (by kernel_rfl) ?_
                  simp only [List.take_succ_cons, List.take_zero, List.drop_succ_cons, List.drop_zero]
                  repeat still_step
                  still_call (still_of (unhide H5))
                  repeat still_step
                  refine wpStill_nil ?_
                  by_cases hf : 0 ≤ f
                  · have hf' : decide (0 ≤ f) = true := by rw [decide_eq_true_eq]; exact hf
                    go_wp2_with fail
                    go_ret
                    exact ⟨ret_int (by rw [unhide HK2, if_pos hf]), (unhide HB2).drew⟩
                  · have hf' : decide (0 ≤ f) = false := by rw [decide_eq_false_iff_not]; exact hf
                    go_wp2_with fail
                    go_roundw
                    case rel => exact ⟨k + 1, by omega, by go_num, (unhide HB2).drew, hide (by rw [unhide HK2, if_neg hf])⟩
                    case measure => simp [intOf]; omega
                · have hday' : decide (x.day = 0) = false := by rw [decide_eq_false_iff_not]; exact hday
                  go_wp2_with fail
                  go_ret
                  exact ⟨ret_int (by rw [unhide HK]; simp [hz, hday]), unhide HB2⟩
      · have hend : r = 0 := by rw [unhide HI, List.drop_eq_nil_of_le (by rw [← unhide HN]; omega)]; rfl
        have HE := hide hend
        have HB := hide hbw
        clear hend hbw
        go_wp2_with fail
        go_ret
        exact ⟨ret_int (unhide HE).symm, unhide HB⟩
  · have hst : r = 7 := by rw [unhide HD, if_pos (by omega)]
    have HR := hide hst
    clear hst
    have hl' : decide ((4096 : Int) < (n : Int)) = true := by rw [decide_eq_true_eq]; omega
    go_wp2_with fail
    go_ret
    exact ⟨ret_int (unhide HR).symm, Below.refl _ _⟩
end Go.Proofs.Ytgalpdjmmpjddaa
