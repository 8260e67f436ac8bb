/- Walks: may claims be? -/
import Derived.Test.YtgbheogmccfaaaaGreatMayC
namespace Go.Proofs.YtgbheogmccfaaaaGreat
set_option linter.unusedVariables false
set_option linter.unusedSimpArgs false
open Go.RowKit

def badC (x : Cl) : Bool := !mayC x
/-- the error of claims -/
def wrongC (xs : List Cl) : Int := if xs.any badC = true then 1 else if 4096 < xs.length then 7 else 0
theorem wrongC_ok {xs : List Cl} (h : wrongC xs = 0) : (∀ x ∈ xs, mayC x = true) ∧ xs.length ≤ 4096 := by
  unfold wrongC at h
  split at h
  · cases h
  · rename_i h1
    split at h
    · cases h
    · refine ⟨fun x hx => ?_, by omega⟩
      by_cases hm : mayC x = true
      · exact hm
      · exact absurd (List.any_eq_true.2 ⟨x, hx, by simp [badC, hm]⟩) h1
theorem any_take_succ (xs : List Cl) (k : Nat) (x : Cl) (hx : xs[k]? = some x) : (xs.take (k + 1)).any badC = ((xs.take k).any badC || badC x) := by
  have hk : k < xs.length := (List.getElem?_eq_some_iff.1 hx).1
  rw [List.take_succ_eq_append_getElem hk, (List.getElem?_eq_some_iff.1 hx).2, List.any_append]; simp
theorem any_bad (xs : List Cl) (k : Nat) (x : Cl) (hx : xs[k]? = some x) (hb : badC x = true) : xs.any badC = true := List.any_eq_true.2 ⟨x, List.mem_of_getElem? hx, hb⟩

set_option maxHeartbeats 4000000 in
set_option maxRecDepth 100000 in
theorem idxCl_any (xs : List Cl) (A : Option Addr) (n c : Nat) (w : World) (hn : n = xs.length) (hlen : n ≤ 100000) (hx : ListIn clR w w.heap.size A xs) (ht : ∀ x ∈ xs, Txt x) :
    Calls Tryz.prog 71 #[.slice A n c, .func (.func 39) #[] #[]] w fun e w' => ∃ i : Int, e = .returned (.int .i64 i) ∧ decide (0 ≤ i) = xs.any badC ∧ Below w.heap.size w w' := by
  have eg : ∀ args W, (callFunc 39 args).run Tryz.prog W = .ok (.enter 39 args) W := enters_of Tryz.func39 (by kernel_rfl) rfl
  have HN := hide hn; have HX := hide hx; have HT := hide ht
  clear hn hx ht
  go_enter Tryz.func71, Tryz.ntmps71
  go_wp2_with fail
  go_loopw [8] (fun i wr => ∃ k : Nat, k ≤ n ∧ i = .int .i64 k ∧ Below w.heap.size w wr ∧ Hid ((xs.take k).any badC = false)) (fun i _ => n - (intOf i).toNat)
  case atStart => exact ⟨0, by omega, rfl, Below.refl _ _, hide rfl⟩
  case round =>
    obtain ⟨k, hk, rfl, hb, HI⟩ := hrel
    obtain ⟨wo, rfl⟩ : ∃ wo : World, wo = wr := ⟨_, rfl⟩
    by_cases hlt : k < n
    · obtain ⟨x, hx⟩ : ∃ x, xs[k]? = some x := ⟨xs[k]'(by rw [← unhide HN]; exact hlt), List.getElem?_eq_getElem _⟩
      obtain ⟨b, off, rfl, hbb, c0, c1, c2, c3, c4⟩ := cl_at ((unhide HX).below hb) hx
      have HC := hide (fun W => all1_any x W (unhide HT x (List.mem_of_getElem? hx)))
      have HBX := hide (any_bad xs k x hx)
      have HTK := hide (any_take_succ xs k x hx)
      have hbd : badC x = !mayC x := rfl
      rw [← hbd] at HC
      have i1 : (0 : Int) ≤ (k : Int) := by omega
      have i2 : (k : Int) < (n : Int) := by omega
      have HB := hide hb
      clear hx hbd hb
      generalize badC x = bb at *
      go_wp2_with fail
      (with_reducible refine (unhide HC _).mono ?_); rintro e w1 ⟨rfl, hl⟩
      have HB1 := hide ((unhide HB).trans (hl.1.mono (unhide HB).size))
      clear hl c0 c1 c2 c3 c4
      cases bb
      · go_wp2_with fail
        go_roundw
        case rel => exact ⟨k + 1, by omega, by go_num, unhide HB1, hide (by rw [unhide HTK, unhide HI]; rfl)⟩
        case measure => simp [intOf]; omega
      · go_wp2_with fail
        go_ret
        exact ⟨_, rfl, by first | (rw [unhide HBX rfl]; simp) | (rw [unhide HBX trivial]; simp), unhide HB1⟩
    · have hend : xs.any badC = false := by have := unhide HI; rwa [List.take_of_length_le (by rw [← unhide HN]; omega)] at this
      have HE := hide hend
      have HB := hide hb
      clear hend hb
      go_wp2_with fail
      go_ret
      exact ⟨_, rfl, by rw [unhide HE]; rfl, unhide HB⟩
theorem conCl_any (xs : List Cl) (A : Option Addr) (n c : Nat) (w : World) (hn : n = xs.length) (hlen : n ≤ 100000) (hx : ListIn clR w w.heap.size A xs) (ht : ∀ x ∈ xs, Txt x) :
    Calls Tryz.prog 38 #[.slice A n c, .func (.func 39) #[] #[]] w fun e w' => e = .returned (.bool (xs.any badC)) ∧ Below w.heap.size w w' := by
  have H := hide (idxCl_any xs A n c w hn hlen hx ht)
  clear hn hx ht
  generalize xs.any badC = r at *
  go_enter Tryz.func38, Tryz.ntmps38
  go_wp2_with fail
  (with_reducible refine (unhide H).mono ?_); rintro e w1 ⟨i, rfl, hi, hb⟩
  have HB := hide hb; have HI := hide hi
  clear hb hi
  go_wp2_with fail
  go_ret
  exact ⟨ret_bool (unhide HI), unhide HB⟩
theorem all_any (xs : List Cl) (A : Option Addr) (n c : Nat) (w : World) (hn : n = xs.length) (hlen : n ≤ 100000) (hx : ListIn clR w w.heap.size A xs) (ht : ∀ x ∈ xs, Txt x) :
    Calls Tryz.prog 29 #[.slice A n c] w fun e w' => e = .returned (.int .i64 (wrongC xs)) ∧ Below w.heap.size w w' := by
  have H := hide (conCl_any xs A n c w hn hlen hx ht)
  obtain ⟨r, hr⟩ : ∃ r, r = wrongC xs := ⟨_, rfl⟩
  rw [← hr]
  unfold wrongC at hr
  rw [← hn] at hr
  have HR := hide hr
  clear hn hx ht hr
  generalize xs.any badC = bb at *
  go_enter Tryz.func29, Tryz.ntmps29
  go_wp2_with fail
  (with_reducible refine (unhide H).mono ?_); rintro e w1 ⟨rfl, hb⟩
  have HB := hide hb
  clear hb
  cases bb
  · by_cases h : 4096 < n
    · have he : r = 7 := by rw [unhide HR]; simp [h]
      have t0 : decide ((4096 : Int) < (n : Int)) = true := by rw [decide_eq_true_eq]; omega
      have HE := hide he
      clear he
      go_wp2_with fail
      go_ret
      exact ⟨by rw [unhide HE]; rfl, unhide HB⟩
    · have he : r = 0 := by rw [unhide HR]; simp [h]
      have t0 : decide ((4096 : Int) < (n : Int)) = false := by rw [decide_eq_false_iff_not]; omega
      have HE := hide he
      clear he
      go_wp2_with fail
      go_ret
      exact ⟨by rw [unhide HE]; rfl, unhide HB⟩
  · have he : r = 1 := by rw [unhide HR]; simp
    have HE := hide he
    clear he
    go_wp2_with fail
    go_ret
    exact ⟨by rw [unhide HE]; rfl, unhide HB⟩

set_option maxHeartbeats 4000000 in
set_option maxRecDepth 100000 in
theorem Wrong_any (xs : List Cl) (A : Option Addr) (n c : Nat) (w : World) (hn : n = xs.length) (hlen : n ≤ 100000) (hx : ListIn clR w w.heap.size A xs) (ht : ∀ x ∈ xs, Txt x) :
    Calls Tryz.prog 19 #[.slice A n c] w fun e w' => e = .returned (.int .i64 (wrongC xs)) ∧ Below w.heap.size w w' := by
  have HN := hide hn; have HX := hide hx; have HT := hide ht
  obtain ⟨r, hr⟩ : ∃ r, r = wrongC xs := ⟨_, rfl⟩
  rw [← hr]
  unfold wrongC at hr
  rw [← hn] at hr
  have HR := hide hr
  clear hn hx ht hr
  go_enter Tryz.func19, Tryz.ntmps19
  go_wp2_with fail
  go_loopw [3] (fun i wr => ∃ k : Nat, k ≤ n ∧ i = .int .i64 k ∧ Below w.heap.size w wr ∧ Hid ((xs.take k).any badC = false)) (fun i _ => n - (intOf i).toNat)
  case atStart => exact ⟨0, by omega, rfl, Below.refl _ _, hide rfl⟩
  case round =>
    obtain ⟨k, hk, rfl, hb, HI⟩ := hrel
    obtain ⟨wo, rfl⟩ : ∃ wo : World, wo = wr := ⟨_, rfl⟩
    by_cases hlt : k < n
    · obtain ⟨x, hx⟩ : ∃ x, xs[k]? = some x := ⟨xs[k]'(by rw [← unhide HN]; exact hlt), List.getElem?_eq_getElem _⟩
      obtain ⟨b, off, rfl, hbb, c0, c1, c2, c3, c4⟩ := cl_at ((unhide HX).below hb) hx
      have HC := hide (fun W => RMay_any x W (unhide HT x (List.mem_of_getElem? hx)))
      have HBX := hide (any_bad xs k x hx)
      have HTK := hide (any_take_succ xs k x hx)
      have hbd : badC x = !mayC x := rfl
      rw [hbd] at HBX HTK
      have i1 : (0 : Int) ≤ (k : Int) := by omega
      have i2 : (k : Int) < (n : Int) := by omega
      have HB := hide hb
      clear hx hbd hb
      generalize mayC x = bb at *
      go_wp2_with fail
      (with_reducible refine (unhide HC _).mono ?_); rintro e w1 ⟨rfl, hl⟩
      have HB1 := hide ((unhide HB).trans (hl.1.mono (unhide HB).size))
      clear hl c0 c1 c2 c3 c4
      cases bb
      · have he : r = 1 := by
          rw [unhide HR]
          have : xs.any badC = true := by first | exact unhide HBX rfl | exact unhide HBX trivial
          rw [this]; simp
        have HE := hide he
        clear he
        go_wp2_with fail
        go_ret
        exact ⟨by rw [unhide HE]; rfl, unhide HB1⟩
      · go_wp2_with fail
        go_roundw
        case rel => exact ⟨k + 1, by omega, by go_num, unhide HB1, hide (by rw [unhide HTK, unhide HI]; rfl)⟩
        case measure => simp [intOf]; omega
    · have hend : xs.any badC = false := by have := unhide HI; rwa [List.take_of_length_le (by rw [← unhide HN]; omega)] at this
      have hR := unhide HR
      rw [hend] at hR
      have HB := hide hb
      clear hend hb
      by_cases h : 4096 < n
      · have he : r = 7 := by rw [hR]; simp [h]
        have t0 : decide ((4096 : Int) < (n : Int)) = true := by rw [decide_eq_true_eq]; omega
        have HE := hide he
        clear he hR
        go_wp2_with fail
        go_ret
        exact ⟨by rw [unhide HE]; rfl, unhide HB⟩
      · have he : r = 0 := by rw [hR]; simp [h]
        have t0 : decide ((4096 : Int) < (n : Int)) = false := by rw [decide_eq_false_iff_not]; omega
        have HE := hide he
        clear he hR
        go_wp2_with fail
        go_ret
        exact ⟨by rw [unhide HE]; rfl, unhide HB⟩
end Go.Proofs.YtgbheogmccfaaaaGreat
