/- The law LedgerLets, walked. -/
import Derived.Test.YtjihkoleipkgmaaLgW
namespace Go.Proofs.Ytjihkoleipkgmaa
set_option linter.unusedVariables false
set_option linter.unusedSimpArgs false
open Go.RowKit Go.Maps

/-- an act as it is read -/
structure Aa.Came (w : World) (x : Aa) : Prop where
  kind : x.kind < 256
  a : x.a.size ≤ maxLen
  b : x.b.size ≤ maxLen
  c : x.c.size ≤ maxLen
  n : -9223372036854775808 ≤ x.n ∧ x.n ≤ 9223372036854775807
  len : x.ents.length ≤ maxLen
  ents : ∀ e ∈ x.ents, e.acct.size ≤ maxLen ∧ e.cur.size ≤ maxLen
  list : ListIn enR w w.heap.size x.A x.ents
theorem Aa.Came.in_ {w : World} {x : Aa} (h : x.Came w) (hf : longA x = false) : x.In w := by
  unfold longA at hf
  rw [Bool.or_eq_false_iff, decide_eq_false_iff_not, decide_eq_false_iff_not] at hf
  exact ⟨⟨h.kind, by omega, h.b, h.c, h.n, by omega, h.ents⟩, h.list⟩
theorem few_in {w : World} {xs : List Aa} (h : ∀ x ∈ xs, x.Came w) (hf : fewB xs = true) : xs.length ≤ 40 ∧ ∀ x ∈ xs, x.In w := by
  unfold fewB at hf
  rw [Bool.and_eq_true, decide_eq_true_eq, Bool.not_eq_true', List.any_eq_false] at hf
  exact ⟨hf.2, fun x hx => (h x hx).in_ (by simpa using hf.1 x hx)⟩

theorem kept_hold {s : Lg} {i n c : ByteArray} {sum : Int} (hi : okName i = true) (he : holdE s i n c sum = 0) : findH s.H i = none ∧ (findA s.A n c).isSome = true ∧ 1 ≤ sum ∧ sum ≤ mostI ∧ sum ≤ freeOf s n c := by
  rw [holdE_eq, hi] at he
  rw [if_neg (by simp)] at he
  split at he
  · cases he
  · rename_i h1
    split at he
    · cases he
    · rename_i h2
      split at he
      · cases he
      · rename_i h3
        split at he
        · cases he
        · rename_i h4
          refine ⟨?_, ?_, by omega, by omega, by omega⟩
          · cases hf : findH s.H i with
            | none => rfl
            | some g => rw [hf] at h1; simp at h1
          · unfold thereB at h2
            cases hf : findA s.A n c with
            | none => rw [hf] at h2; simp at h2
            | some g => rfl
theorem hold_free {s : Lg} {i n c : ByteArray} {sum : Int} (ha : (findA s.A n c).isSome = true) : freeOf (holdS s i n c sum) n c = freeOf s n c - sum ∧ balOf (holdS s i n c sum) n c = balOf s n c := by
  obtain ⟨a, ha⟩ := Option.isSome_iff_exists.1 ha
  obtain ⟨h1, h2, h3⟩ := findA_some ha
  have e : (holdS s i n c sum).A = s.A := rfl
  unfold freeOf balOf
  rw [e, ha]
  refine ⟨?_, rfl⟩
  simp only
  unfold Lg.free Lg.held
  have e2 : (holdS s i n c sum).H = s.H ++ [⟨i, n, c, sum⟩] := rfl
  rw [e2, heldOf_snoc, h2, h3]
  have e3 : isH n c ⟨i, n, c, sum⟩ = true := by simp [isH]
  rw [if_pos e3]
  simp only
  omega
theorem hold_let {s : Lg} {i n c : ByteArray} {sum : Int} (hf : findH s.H i = none) : findH (holdS s i n c sum).H i = some ⟨i, n, c, sum⟩ ∧ (letS (holdS s i n c sum) ⟨i, n, c, sum⟩).H = s.H := by
  have e2 : (holdS s i n c sum).H = s.H ++ [⟨i, n, c, sum⟩] := rfl
  refine ⟨?_, ?_⟩
  · rw [e2, findH_snoc, hf]; simp
  · rw [letS_H, e2]
    unfold dropH
    rw [List.filter_append]
    have h1 : s.H.filter (fun h => !hasId i h) = s.H := List.filter_eq_self.2 fun g hg => by
      have h2 := List.find?_eq_none.1 hf g hg
      simpa using h2
    simp only
    rw [h1]
    simp [hasId]
theorem let_free {s : Lg} {i n c : ByteArray} {sum : Int} (hf : findH s.H i = none) : freeOf (letS (holdS s i n c sum) ⟨i, n, c, sum⟩) n c = freeOf s n c := by
  have h1 := (hold_let (s := s) (n := n) (c := c) (sum := sum) hf).2
  have e : (letS (holdS s i n c sum) ⟨i, n, c, sum⟩).A = s.A := rfl
  unfold freeOf
  rw [e]
  cases findA s.A n c with
  | none => rfl
  | some a => simp only; unfold Lg.free Lg.held; rw [h1]

/-- what Hold refuses -/
theorem hold_no {s : Lg} {i n c : ByteArray} {sum : Int} (hi : okName i = true) (he : holdE s i n c sum ≠ 0) : holdE s i n c sum = 5 ∨ thereB s n c = false ∨ sum < 1 ∨ freeOf s n c < sum ∨ mostI < sum := by
  rw [holdE_eq, hi, if_neg (by simp)] at he ⊢
  split
  · exact .inl rfl
  · rename_i h1
    rw [if_neg h1] at he
    split at he
    · rename_i h2; exact .inr (.inl h2)
    · split at he
      · rename_i h3; omega
      · split at he
        · rename_i h4; exact .inr (.inr (.inr (.inl h4)))
        · exact absurd rfl he
def keptT : ByteArray := ⟨#[107, 101, 112, 116]⟩
theorem keptT_ok : okName ⟨#[107, 101, 112, 116]⟩ = true := by kernel_rfl

set_option maxHeartbeats 8000000 in
set_option maxRecDepth 100000 in
theorem LedgerLets_any (xs : List Aa) (A : Option Addr) (nn c : Nat) (sum : Int) (w : World) (hn : nn = xs.length) (hc : nn ≤ maxLen) (hl : ListIn aaR w w.heap.size A xs) (hs : ∀ x ∈ xs, x.Came w) (hsum : -9223372036854775808 ≤ sum ∧ sum ≤ 9223372036854775807) :
    Calls Try.prog 4 #[.slice A nn c, .int .i64 sum] w fun e w' => e = .returned (.bool true) ∧ Below w.heap.size w w' := by
  have HN := hide hn; have HX := hide hl; have HS := hide hs; have HC := hide hc
  obtain ⟨fb, hfb⟩ : ∃ b, b = fewB xs := ⟨_, rfl⟩
  have HFB := hide hfb
  clear hn hl hs hc hfb
  go_enter Try.func4, Try.ntmps4
  go_wp2_with fail
  (with_reducible refine (awake_any w).mono ?_); rintro e w1 ⟨rfl, hb⟩
  have B1 := hide hb
  have HF := hide (few_any w1 xs A nn c (unhide HN) (unhide HC) ((unhide HX).after hb) (fun x hx => ⟨(unhide HS x hx).a, (unhide HS x hx).len⟩))
  rw [← unhide HFB] at HF
  clear hb
  go_wp2_with fail
  (with_reducible refine (unhide HF).mono ?_); rintro e w1' ⟨rfl, rfl⟩
  clear HF
  cases fb with
  | false =>
    go_wp2_with fail
    (with_reducible refine (awake_any w1).mono ?_); rintro e w2 ⟨rfl, hb⟩
    have B2 := hide ((unhide B1).trans (hb.mono (unhide B1).size))
    clear hb
    go_wp2_with fail
    go_ret
    exact ⟨rfl, unhide B2⟩
  | true =>
    obtain ⟨h40, hin⟩ := few_in (unhide HS) (unhide HFB).symm
    rw [← unhide HN] at h40
    have HP := hide (played_any w1 xs A nn c (unhide HN) (by omega) ((unhide HX).after (unhide B1)) (fun x hx => (hin x hx).after (unhide B1)))
    obtain ⟨s, hsr⟩ : ∃ s, s = runS xs := ⟨_, rfl⟩
    rw [← hsr] at HP
    clear hin hsr
    go_wp2_with fail
    (with_reducible refine (unhide HP).mono ?_); rintro e w2 ⟨v, rfl, hL, hb⟩
    have H2 := hide (And.intro hL hb)
    have hsm := look_small hL.ok ⟨#[97]⟩ ⟨#[69, 85, 82]⟩
    clear hL hb HP
    go_wp2_with fail
    (with_reducible refine (Free_any w2 _ _ _ _ _ _ _ _ _ (unhide H2).1 (by decide) (by decide)).mono ?_); rintro e w3 ⟨rfl, hb⟩
    have H3 := hide (And.intro ((unhide H2).1.after hb) ((unhide H2).2.trans (hb.mono (unhide H2).2.size)))
    clear hb
    obtain ⟨f1, hf1⟩ : ∃ f, f = freeOf s ⟨#[97]⟩ ⟨#[69, 85, 82]⟩ := ⟨_, rfl⟩
    obtain ⟨t1, ht1⟩ : ∃ f, f = thereB s ⟨#[97]⟩ ⟨#[69, 85, 82]⟩ := ⟨_, rfl⟩
    obtain ⟨b1, hb1⟩ : ∃ f, f = balOf s ⟨#[97]⟩ ⟨#[69, 85, 82]⟩ := ⟨_, rfl⟩
    have HBA := hide (fun W h => Balance_any W _ _ _ _ _ s v ⟨#[97]⟩ ⟨#[69, 85, 82]⟩ (h : LedgerAt W w1.heap.size (w1.heap.size + 2) s w1.heap.size (w1.heap.size + 1) v (2 * nn)) (by decide) (by decide))
    rw [← hf1, ← ht1]
    rw [← hf1, ← hb1] at hsm
    simp only [← ht1, ← hb1] at HBA
    have HE := hide (And.intro hf1 (And.intro ht1 hb1))
    have hf1r : 0 ≤ f1 ∧ f1 ≤ 2199023255552 := by unfold mostI at hsm; omega
    clear hf1 ht1 hb1 hsm
    go_wp2_with fail
    (with_reducible refine (unhide HBA _ (unhide H3).1).mono ?_); rintro e w4 ⟨rfl, hb⟩
    have H4 := hide (And.intro ((unhide H3).1.after hb) ((unhide H3).2.trans (hb.mono (unhide H3).2.size)))
    clear hb HBA
    have HH := hide (Hold_any w4 _ _ _ _ _ _ _ ⟨#[107, 101, 112, 116]⟩ ⟨#[97]⟩ ⟨#[69, 85, 82]⟩ sum (unhide H4).1 (by omega) (by decide) (by decide) (by decide))
    obtain ⟨he, hhe⟩ : ∃ z, z = holdE s ⟨#[107, 101, 112, 116]⟩ ⟨#[97]⟩ ⟨#[69, 85, 82]⟩ sum := ⟨_, rfl⟩
    rw [← hhe] at HH
    have HHE := hide hhe
    clear hhe
    go_wp2_with fail
    (with_reducible refine (unhide HH).mono ?_); rintro e w5 ⟨rfl, hq⟩
    have HQ := hide hq
    clear hq HH
    by_cases h0 : he = 0
    · subst h0
      obtain ⟨k1, k2, k3, k4, k5⟩ := kept_hold keptT_ok (unhide HHE).symm
      have HK1 := hide k1
      obtain ⟨l1, l2⟩ := hold_free (i := ⟨#[107, 101, 112, 116]⟩) (sum := sum) k2
      obtain ⟨l3, l4⟩ := hold_let (n := ⟨#[97]⟩) (c := ⟨#[69, 85, 82]⟩) (sum := sum) k1
      have l5 := let_free (n := ⟨#[97]⟩) (c := ⟨#[69, 85, 82]⟩) (sum := sum) k1
      rw [← (unhide HE).1] at k5 l1 l5
      rw [← (unhide HE).2.2] at l2
      unfold mostI at k4
      have H5 : Hid (LedgerAt w5 w1.heap.size (w1.heap.size + 2) (holdS s ⟨#[107, 101, 112, 116]⟩ ⟨#[97]⟩ ⟨#[69, 85, 82]⟩ sum) w1.heap.size (w1.heap.size + 1) v (2 * nn + 1) ∧ Below w1.heap.size w1 w5) := by
        have hq := unhide HQ
        unfold HoldQ at hq
        rw [if_pos (unhide HHE).symm] at hq
        exact hide ⟨hq.1, turn_below (unhide H4).2 (unhide H4).1 hq.2⟩
      have hle : letE (holdS s ⟨#[107, 101, 112, 116]⟩ ⟨#[97]⟩ ⟨#[69, 85, 82]⟩ sum) ⟨#[107, 101, 112, 116]⟩ = 0 := by unfold letE; rw [l3]; rfl
      obtain ⟨s2, hs2⟩ : ∃ s2, s2 = holdS s ⟨#[107, 101, 112, 116]⟩ ⟨#[97]⟩ ⟨#[69, 85, 82]⟩ sum := ⟨_, rfl⟩
      rw [← hs2] at l1 l2 l3 l4 l5 H5 hle
      have HL := hide (And.intro l3 l5)
      have cz : IntKind.i64.wrap (f1 - sum) = f1 - sum := IntWalk.i64_in _ (by omega)
      obtain ⟨z, hz⟩ : ∃ z, z = f1 - sum := ⟨_, rfl⟩
      rw [← hz] at l1
      have cz1 : IntKind.i64.wrap (f1 - sum) = z := by rw [hz]; exact cz
      have cz2 : wrap64 (f1 - sum) = z := by rw [← IntWalk.i64_left]; exact cz1
      have HF5 := hide (Free_any w5 _ _ _ _ _ _ _ ⟨#[97]⟩ ⟨#[69, 85, 82]⟩ (unhide H5).1 (by decide) (by decide))
      have HB5 := hide (fun W h => Balance_any W _ _ _ _ _ s2 v ⟨#[97]⟩ ⟨#[69, 85, 82]⟩ (h : LedgerAt W w1.heap.size (w1.heap.size + 2) s2 w1.heap.size (w1.heap.size + 1) v (2 * nn + 1)) (by decide) (by decide))
      have HL5 := hide (fun W h => Let_any W _ _ _ _ _ s2 v ⟨#[107, 101, 112, 116]⟩ (h : LedgerAt W w1.heap.size (w1.heap.size + 2) s2 w1.heap.size (w1.heap.size + 1) v (2 * nn + 1)) (by omega) (by decide) (ok_holds h.ok))
      rw [l1] at HF5
      simp only [l2] at HB5
      simp only [hle] at HL5
      clear k1 k2 k3 k4 k5 l1 l2 l3 l4 l5 hs2 hle cz hz
      generalize thereB s2 ⟨#[97]⟩ ⟨#[69, 85, 82]⟩ = t2 at HF5 HB5
      go_wp2_with fail
      (with_reducible refine (unhide HF5).mono ?_); rintro e w6 ⟨rfl, hb⟩
      have H6 := hide (And.intro ((unhide H5).1.after hb) ((unhide H5).2.trans (hb.mono (unhide H5).2.size)))
      clear hb HF5
      go_wp2_with fail
      (with_reducible refine (unhide HB5 _ (unhide H6).1).mono ?_); rintro e w7 ⟨rfl, hb⟩
      have H7 := hide (And.intro ((unhide H6).1.after hb) ((unhide H6).2.trans (hb.mono (unhide H6).2.size)))
      clear hb HB5
      go_wp2_with fail
      (with_reducible refine (unhide HL5 _ (unhide H7).1).mono ?_); rintro e w8 ⟨rfl, hq⟩
      have H8 : Hid (LedgerAt w8 w1.heap.size (w1.heap.size + 2) (letS s2 ⟨⟨#[107, 101, 112, 116]⟩, ⟨#[97]⟩, ⟨#[69, 85, 82]⟩, sum⟩) w1.heap.size (w1.heap.size + 1) v (2 * nn + 2) ∧ Below w1.heap.size w1 w8) := by
        unfold LetQ at hq
        rw [(unhide HL).1] at hq
        exact hide ⟨hq.1, turn_below (unhide H7).2 (unhide H7).1 hq.2⟩
      clear hq HL5
      have HF8 := hide (Free_any w8 _ _ _ _ _ _ _ ⟨#[97]⟩ ⟨#[69, 85, 82]⟩ (unhide H8).1 (by decide) (by decide))
      rw [(unhide HL).2] at HF8
      generalize thereB (letS s2 ⟨⟨#[107, 101, 112, 116]⟩, ⟨#[97]⟩, ⟨#[69, 85, 82]⟩, sum⟩) ⟨#[97]⟩ ⟨#[69, 85, 82]⟩ = t3 at HF8
      go_wp2_with fail
      (with_reducible refine (unhide HF8).mono ?_); rintro e w9 ⟨rfl, hb⟩
      have H9 := hide ((unhide H8).2.trans (hb.mono (unhide H8).2.size))
      clear hb HF8 cz1 cz2
      go_wp2_with fail
      go_ret
      exact ⟨rfl, (unhide B1).trans ((unhide H9).mono (unhide B1).size)⟩
    · have hB5 : Below w1.heap.size w1 w5 := turn_below (unhide H4).2 (unhide H4).1 (unhide HQ).2
      have H5 := hide ((unhide B1).trans (hB5.mono (unhide B1).size))
      have hno := hold_no keptT_ok (by rw [← unhide HHE]; exact h0)
      rw [← unhide HHE, ← (unhide HE).1, ← (unhide HE).2.1] at hno
      have d0 : (he != 0) = true := by simpa using h0
      have d0' : (he == 0) = false := by simpa using h0
      clear hB5 h0
      unfold mostI at hno
      cases t1 with
      | false =>
        clear hno
        go_wp2_with fail
        go_ret
        exact ⟨rfl, unhide H5⟩
      | true =>
        by_cases h1 : sum < 1
        · have d1 : decide (sum < 1) = true := by rw [decide_eq_true_eq]; exact h1
          clear hno h1
          go_wp2_with fail
          go_ret
          exact ⟨rfl, unhide H5⟩
        · have d1 : decide (sum < 1) = false := by rw [decide_eq_false_iff_not]; exact h1
          by_cases h2 : f1 < sum
          · have d2 : decide (f1 < sum) = true := by rw [decide_eq_true_eq]; exact h2
            clear hno h1 h2
            go_wp2_with fail
            go_ret
            exact ⟨rfl, unhide H5⟩
          · have d2 : decide (f1 < sum) = false := by rw [decide_eq_false_iff_not]; exact h2
            by_cases h3 : 1099511627776 < sum
            · have d3 : decide (1099511627776 < sum) = true := by rw [decide_eq_true_eq]; exact h3
              clear hno h1 h2 h3
              go_wp2_with fail
              go_ret
              exact ⟨rfl, unhide H5⟩
            · have d3 : decide (1099511627776 < sum) = false := by rw [decide_eq_false_iff_not]; exact h3
              have h5 : he = 5 := by
                rcases hno with h | h | h | h | h
                · exact h
                · cases h
                · exact absurd h h1
                · exact absurd h h2
                · exact absurd h h3
              subst h5
              clear hno h1 h2 h3 d0 d0'
              go_wp2_with fail
              go_ret
              exact ⟨rfl, unhide H5⟩
end Go.Proofs.Ytjihkoleipkgmaa
