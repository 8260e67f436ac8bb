/- Walk: the law DutyTells (the example handed in as a premise, paid by the row). -/
import Derived.Test.YtgalpdjmmpjddaaTDutyA
namespace Go.Proofs.Ytgalpdjmmpjddaa
set_option linter.unusedVariables false
set_option linter.unusedSimpArgs false
open Go.RowKit Go.Maps

theorem newGo_ok : ∀ (xs pre : List Rt), newGo pre xs = 0 → ∀ x ∈ xs, rowOk x = true
  | [], _, _, x, hx => by simp at hx
  | y :: r, pre, h, x, hx => by
    rw [newGo] at h
    cases hy : rowOk y
    · rw [hy] at h; simp at h
    · rw [hy] at h
      simp at h
      split at h
      · simp at h
      · rcases List.mem_cons.1 hx with rfl | hr
        · exact hy
        · exact newGo_ok r _ h x hr
theorem good_of {xs : List Rt} (h : mNew xs = 0) (hr : ∀ x ∈ xs, x.num < 9223372036854775808 ∧ x.den < 9223372036854775808) : Good xs := by
  unfold mNew at h
  split at h
  · simp at h
  · intro x hx
    have h1 := newGo_ok xs [] h x hx
    have h2 := hr x hx
    simp [rowOk, fracB] at h1
    omega
theorem wide_len {xs : List Rt} (h : mWide xs = false) : xs.length ≤ 40 := by
  simp [mWide] at h; omega

/-- what the law's example is asked for -/
def AwakeQ : Prop := ∀ w : World, Calls Try.prog 9 #[] w fun e w' => e = .returned (.bool true) ∧ Below w.heap.size w w'

set_option maxHeartbeats 4000000 in
set_option maxRecDepth 100000 in
theorem DutyTells_any (haw : AwakeQ) (xs : List Rt) (A : Option Addr) (n c : Nat) (co og : ByteArray) (v : Int) (w : World) (hn : n = xs.length) (hnc : n ≤ c) (hc : c ≤ maxLen) (hx : RatesIn w w.heap.size A xs)
    (hs : ∀ x ∈ xs, x.frm.size ≤ maxLen ∧ x.to_.size ≤ maxLen) (hr : ∀ x ∈ xs, x.num < 9223372036854775808 ∧ x.den < 9223372036854775808) (hco : co.size ≤ maxLen) (hog : og.size ≤ maxLen) :
    Calls Try.prog 3 #[.slice A n c, .string co, .int .i64 v, .string og] w fun e w' => e = .returned (.bool true) ∧ Below w.heap.size w w' := by
  unfold AwakeQ at haw
  have HAW := hide haw
  have hnm : n ≤ maxLen := by omega
  have H1 := hide (wide_any xs A n c w hn hnm hx hs)
  obtain ⟨wd, hwd⟩ : ∃ b, b = mWide xs := ⟨_, rfl⟩
  rw [← hwd] at H1
  have HWD := hide hwd
  have HN := hide hn; have HX := hide hx; have HS := hide hs; have HR := hide hr
  have HSZ := hide (And.intro hnc (And.intro hc (And.intro hco hog)))
  clear haw hnm hwd hn hx hs hr hnc hc hco hog
  go_enter Try.func3, Try.ntmps3
  go_wp2_with fail
  (with_reducible refine (unhide H1).mono ?_); rintro e w1 ⟨rfl, hb⟩
  have HB1 := hide hb
  clear hb H1
  cases wd
  case true =>
    go_wp2_with fail
    (with_reducible refine (unhide HAW _).mono ?_); rintro e w2 ⟨rfl, hb⟩
    have HB2 := hide ((unhide HB1).trans (hb.mono (unhide HB1).size))
    clear hb
    go_wp2_with fail
    go_ret
    exact ⟨rfl, unhide HB2⟩
  case false =>
    have hl40 : n ≤ 40 := by rw [unhide HN]; exact wide_len (unhide HWD).symm
    cases hlong : decide ((100 : Int) < wrap64 ((co.size : Int) + (og.size : Int)))
    case true =>
      go_wp2_with fail
      (with_reducible refine (unhide HAW _).mono ?_); rintro e w2 ⟨rfl, hb⟩
      have HB2 := hide ((unhide HB1).trans (hb.mono (unhide HB1).size))
      clear hb
      go_wp2_with fail
      go_ret
      exact ⟨rfl, unhide HB2⟩
    case false =>
      go_wp2_with fail
      have hx1 := ((unhide HX).below (unhide HB1)).more (unhide HB1).size
      (with_reducible refine (TNew_any xs A n c _ (unhide HN) (unhide HSZ).1 (unhide HSZ).2.1 hx1 (unhide HS) (unhide HR)).mono ?_); rintro e w2 ⟨hq, hb⟩
      have HB2 := hide ((unhide HB1).trans (hb.mono (unhide HB1).size))
      have hx2 := ((unhide HX).below (unhide HB2)).more (unhide HB2).size
      have H3 := hide (RNew_any xs A n c w2 (unhide HN) (unhide HSZ).1 (unhide HSZ).2.1 hx2 (unhide HS))
      clear hb hx1 hx2
      unfold TNewQ at hq
      obtain ⟨k, hk⟩ : ∃ k, k = mNew xs := ⟨_, rfl⟩
      rw [← hk] at hq H3
      by_cases hk0 : k = 0
      · rw [if_pos hk0] at hq
        obtain ⟨rfl, hT⟩ := hq
        subst hk0
        have hg := good_of hk.symm (unhide HR)
        have HG := hide hg; have HT := hide hT
        clear hg hT hk
        go_wp2_with fail
        (with_reducible refine (unhide H3).mono ?_); rintro e w3 ⟨rfl, hb⟩
        have HB3 := hide ((unhide HB2).trans (hb.mono (unhide HB2).size))
        have H4 := hide (TDuty_any xs (w1.heap.size + 1) co v og w3 (unhide HG) ((unhide HT).after hb) (unhide HSZ).2.2.1 (unhide HSZ).2.2.2)
        clear hb HT
        obtain ⟨r, hr⟩ : ∃ r, r = mDuty xs co v og := ⟨_, rfl⟩
        rw [← hr] at H4
        have HRD := hide hr
        clear hr
        go_wp2_with fail
        (with_reducible refine (unhide H4).mono ?_); rintro e w4 ⟨rfl, hb⟩
        have HB4 := hide ((unhide HB3).trans (hb.mono (unhide HB3).size))
        have hx4 := ((unhide HX).below (unhide HB4)).more (unhide HB4).size
        have H5 := RDuty_any xs A n c co v og w4 (unhide HG) (unhide HN) (by omega) hx4
        rw [← unhide HRD] at H5
        have H5 := hide H5
        clear hb hx4
        obtain ⟨r1, r2⟩ := r
        simp only [dutyV] at H5 ⊢
        go_wp2_with fail
        (with_reducible refine (unhide H5).mono ?_); rintro e w5 ⟨rfl, hb⟩
        have HB5 := hide ((unhide HB4).trans (hb.mono (unhide HB4).size))
        clear hb
        go_wp2_with fail
        (with_reducible refine (unhide HAW _).mono ?_); rintro e w6 ⟨rfl, hb⟩
        have HB6 := hide ((unhide HB5).trans (hb.mono (unhide HB5).size))
        clear hb
        go_wp2_with fail
        go_ret
        exact ⟨rfl, unhide HB6⟩
      · rw [if_neg hk0] at hq
        subst hq
        have hk1 : (k != 0) = true := by simpa using hk0
        clear hk
        go_wp2_with fail
        (with_reducible refine (unhide H3).mono ?_); rintro e w3 ⟨rfl, hb⟩
        have HB3 := hide ((unhide HB2).trans (hb.mono (unhide HB2).size))
        clear hb
        go_wp2_with fail
        (with_reducible refine (unhide HAW _).mono ?_); rintro e w4 ⟨rfl, hb⟩
        have HB4 := hide ((unhide HB3).trans (hb.mono (unhide HB3).size))
        clear hb
        go_wp2_with fail
        go_ret
        exact ⟨rfl, unhide HB4⟩
end Go.Proofs.Ytgalpdjmmpjddaa
