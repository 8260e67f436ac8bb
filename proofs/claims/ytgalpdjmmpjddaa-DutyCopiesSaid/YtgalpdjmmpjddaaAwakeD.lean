/- Walk: the law's example. -/
import Derived.Test.YtgalpdjmmpjddaaEnterC
import Derived.Test.YtgalpdjmmpjddaaLawTells
namespace Go.Proofs.Ytgalpdjmmpjddaa
set_option linter.unusedVariables false
set_option linter.unusedSimpArgs false
open Go.RowKit Go.Maps

abbrev nuts : ByteArray := ⟨#[110, 117, 116, 115]⟩
abbrev oslo : ByteArray := ⟨#[111, 115, 108, 111]⟩
abbrev riga : ByteArray := ⟨#[114, 105, 103, 97]⟩
def exRows : List Rt := [⟨nuts, ⟨#[]⟩, 0, 1, 20⟩, ⟨nuts, oslo, 0, 0, 1⟩]
theorem ex_new : mNew exRows = 0 := by decide +kernel
theorem ex_riga : mDuty exRows nuts 101 riga = (6, 0) := by decide +kernel
theorem ex_oslo : mDuty exRows nuts 101 oslo = (0, 0) := by decide +kernel
abbrev nA : ByteArray := ⟨#[97]⟩
abbrev nB : ByteArray := ⟨#[98]⟩
theorem ex_a : enterE 10 [] nA 6 1 = 0 := by decide +kernel
theorem ex_b : enterE 10 ([] ++ [newBox nA 6 1]) nB 5 1 = 10 := by decide +kernel
theorem ex_used : used ([] ++ [newBox nA 6 1]) = 6 := by decide +kernel
theorem ex_lim : limI 10 = 10 := by decide
theorem ok_nil : BsOk [] := ⟨List.Pairwise.nil, by simp, by simp, by simp⟩
theorem ok_one : BsOk ([] ++ [newBox nA 6 1]) := ⟨by simp [Apart], by
  intro x hx
  simp at hx
  subst hx
  show nA.size ≤ maxLen
  decide +kernel, by
  intro x hx
  simp at hx
  subst hx
  simp [newBox], by simp⟩
theorem rates_made_at (w : World) (n : Nat) (hn : n = w.heap.size) (t : TypeId) (xs : List Rt) : RatesIn (w.alloc (.cells (xs.flatMap Rt.cells).toArray t)) (w.alloc (.cells (xs.flatMap Rt.cells).toArray t)).heap.size (some ⟨n, 0, none⟩) xs := by
  subst hn
  intro _
  refine ⟨w.heap.size, 0, rfl, by simp, fun i x hx j v hv => ?_⟩
  rw [Nat.zero_add, (Whole.made w t _).cells]
  have hf : ∀ (ys : List Rt) (i : Nat), ys[i]? = some x → (ys.flatMap Rt.cells)[i * 5 + j]? = some v := by
    intro ys
    induction ys with
    | nil => intro i h; simp at h
    | cons y r ih =>
      intro i h
      have hj : j < 5 := (List.getElem?_eq_some_iff.1 hv).1
      rw [List.flatMap_cons]
      cases i with
      | zero =>
        simp at h; subst h
        rw [List.getElem?_append_left (by show _ < 5; omega)]
        simpa using hv
      | succ i =>
        rw [List.getElem?_append_right (by show 5 ≤ _; omega)]
        have e : (i + 1) * 5 + j - y.cells.length = i * 5 + j := by show (i + 1) * 5 + j - 5 = _; omega
        rw [e]
        exact ih i (by simpa using h)
  simpa using hf xs i hx

theorem good_ex : Good exRows := good_of ex_new (by
  intro x hx
  simp [exRows] at hx
  rcases hx with rfl | rfl <;> simp)
theorem small_ex : ∀ x ∈ exRows, x.frm.size ≤ maxLen ∧ x.to_.size ≤ maxLen := by
  intro x hx
  simp [exRows] at hx
  rcases hx with rfl | rfl <;> exact ⟨by decide +kernel, by decide +kernel⟩
theorem sz_nuts : nuts.size ≤ maxLen := by decide +kernel
theorem sz_oslo : oslo.size ≤ maxLen := by decide +kernel
theorem sz_riga : riga.size ≤ maxLen := by decide +kernel
theorem sz_nA : nA.size ≤ maxLen := by decide +kernel
theorem sz_nB : nB.size ≤ maxLen := by decide +kernel

set_option maxHeartbeats 4000000 in
set_option maxRecDepth 100000 in
theorem awake_any : AwakeQ := by
  intro w
  have h1 : Calls Try.prog 10 #[.slice (some ⟨w.heap.size, 0, none⟩) 2 2]
      (w.alloc (.cells #[.string nuts, .string ⟨#[]⟩, .int .i64 0, .int .i64 1, .int .i64 20, .string nuts, .string oslo, .int .i64 0, .int .i64 0, .int .i64 1] 66)) _ :=
    TNew_any exRows (some ⟨w.heap.size, 0, none⟩) 2 2 _ rfl (Nat.le_refl _) (by unfold maxLen; omega) (rates_made_at w _ rfl 66 exRows) small_ex (by
      intro x hx
      simp [exRows] at hx
      rcases hx with rfl | rfl <;> simp)
  have H1 := hide h1; clear h1
  have H2 := hide (fun W => Open_any 10 W)
  have H3 := hide (fun W p hT => TDuty_any exRows p nuts 101 riga W good_ex hT sz_nuts sz_riga)
  have H4 := hide (fun W p hT => TDuty_any exRows p nuts 101 oslo W good_ex hT sz_nuts sz_oslo)
  rw [ex_riga] at H3
  rw [ex_oslo] at H4
  have H5 := hide (fun W p m hB hpm => Enter_in p m 0 10 6 1 nA [] W sz_nA hB (by omega) hpm ok_nil (by decide +kernel))
  have H6 := hide (fun W p m hB hpm => Enter_in p m (0 + 1) 10 5 1 nB ([] ++ [newBox nA 6 1]) W sz_nB hB (by omega) hpm ok_one (by decide +kernel))
  rw [ex_a] at H5
  rw [ex_b] at H6
  have H7 := hide (fun W p m n hB => Used_any p m n 10 ([] ++ [newBox nA 6 1]) W hB ok_one)
  rw [ex_used] at H7
  go_enter Try.func9, Try.ntmps9
  go_wp2_with fail
  (with_reducible refine (unhide H1).mono ?_); rintro e w1 ⟨hq, hb⟩
  unfold TNewQ at hq
  rw [ex_new, if_pos rfl] at hq
  obtain ⟨rfl, hT⟩ := hq
  have HB1 := hide (((Below.refl w.heap.size w).alloc (Nat.le_refl _) _).trans (hb.mono (by simp)))
  have hT : TariffAt w1 (w.heap.size + 1 + 1) exRows := by simpa using hT
  have HT := hide hT
  clear hb hT H1
  go_wp2_with fail
  (with_reducible refine (unhide H2 _).mono ?_); rintro e w2 ⟨rfl, hB, hb⟩
  rw [ex_lim] at hB
  have HB2 := hide ((unhide HB1).trans (hb.mono (unhide HB1).size))
  have HT2 := hide ((unhide HT).after hb)
  have HBD := hide hB
  have hm : w.heap.size ≤ w1.heap.size := (unhide HB1).size
  clear hb hB HT
  go_wp2_with fail
  (with_reducible refine (unhide H3 _ _ (unhide HT2)).mono ?_); rintro e w3 ⟨rfl, hb⟩
  have HB3 := hide ((unhide HB2).trans (hb.mono (unhide HB2).size))
  have HT3 := hide ((unhide HT2).after hb)
  have HBD3 := hide ((unhide HBD).after hb)
  clear hb HT2 HBD
  simp only [dutyV]
  go_wp2_with fail
  (with_reducible refine (unhide H4 _ _ (unhide HT3)).mono ?_); rintro e w4 ⟨rfl, hb⟩
  have HB4 := hide ((unhide HB3).trans (hb.mono (unhide HB3).size))
  have HBD4 := hide ((unhide HBD3).after hb)
  clear hb HT3 HBD3
  simp only [dutyV]
  go_wp2_with fail
  (with_reducible refine (unhide H5 _ _ _ (unhide HBD4) (by omega)).mono ?_); rintro e w5 ⟨rfl, hB, hg⟩
  have HB5 := hide ((unhide HB4).grown hg (unhide HB4).size (fun j hj => by cases hj; exact hm))
  rw [if_pos (by trivial)] at hB
  have HBD5 := hide hB
  clear hB hg HBD4
  go_wp2_with fail
  (with_reducible refine (unhide H6 _ _ _ (unhide HBD5) (by omega)).mono ?_); rintro e w6 ⟨rfl, hB, hg⟩
  have HB6 := hide ((unhide HB5).grown hg (unhide HB5).size (fun j hj => by cases hj; exact hm))
  rw [if_neg (by decide)] at hB
  have HBD6 := hide hB
  clear hB hg HBD5
  go_wp2_with fail
  (with_reducible refine (unhide H7 _ _ _ _ (unhide HBD6)).mono ?_); rintro e w7 ⟨rfl, hb⟩
  have HB7 := hide ((unhide HB6).trans (hb.mono (unhide HB6).size))
  clear hb
  go_wp2_with fail
  go_ret
  exact ⟨rfl, unhide HB7⟩

theorem DutyTells_all (xs : List Rt) (A : Option Addr) (n c : Nat) (co og : ByteArray) (v : Int) (w : World) (hn : n = xs.length) (hnc : n ≤ c) (hc : c ≤ maxLen) (hx : RatesIn w w.heap.size A xs)
    (hs : ∀ x ∈ xs, x.frm.size ≤ maxLen ∧ x.to_.size ≤ maxLen) (hr : ∀ x ∈ xs, x.num < 9223372036854775808 ∧ x.den < 9223372036854775808) (hco : co.size ≤ maxLen) (hog : og.size ≤ maxLen) :
    Calls Try.prog 3 #[.slice A n c, .string co, .int .i64 v, .string og] w fun e w' => e = .returned (.bool true) ∧ Below w.heap.size w w' := DutyTells_any awake_any xs A n c co og v w hn hnc hc hx hs hr hco hog
end Go.Proofs.Ytgalpdjmmpjddaa
