/- Walk: the reference's Scale, rounding up, of what is not below 0. -/
import Derived.Test.YtgalpdjmmpjddaaPartsA
namespace Go.Proofs.Ytgalpdjmmpjddaa
set_option linter.unusedVariables false
set_option linter.unusedSimpArgs false
open Go.RowKit

set_option maxHeartbeats 2000000 in
set_option maxRecDepth 100000 in
theorem ScaleR_any (s : ByteArray) (a n d : Nat) (w : World) (hs : s.size ≤ maxLen) (hcur : okCur s = true) (ha : a ≤ 1099511627776) (hn : n < 9223372036854775808) (hd0 : 1 ≤ d) (hd : d < 9223372036854775808) :
    Calls Try.prog 36 #[.agg #[.string s, .int .i64 a], .agg #[.int .i64 n, .int .i64 d], .int .i64 1] w fun e w' => e = .returned (scaleV s (mScale a n d)) ∧ Below w.heap.size w w' := by
  have hM1 := fun W => MayR_any s a W hs
  have hF := fun W => Right_any n d W
  rw [hcur] at hM1
  have i1 : inM (a : Int) = true := by simp [inM]; omega
  have i2 : fracB (n : Int) (d : Int) = true := by simp [fracB]; omega
  rw [i1] at hM1; rw [i2] at hF
  have hP := fun W => Parts_any a n d W (by omega) hn hd0 hd
  have hneg : decide ((a : Int) < 0) = false := by rw [decide_eq_false_iff_not]; omega
  clear i1 i2
  have HM1 := hide hM1; have HF := hide hF; have HP := hide hP
  clear hM1 hF hP
  have HH := hide (And.intro hs (And.intro hcur (And.intro ha (And.intro hn (And.intro hd0 hd)))))
  clear hs hcur ha hn hd0 hd
  go_enter Try.func36, Try.ntmps36
  go_wp2_with fail
  (with_reducible refine (unhide HM1 _).mono ?_); rintro e w1 ⟨rfl, hb⟩
  have hA := (((Whole.made w 80 #[.string s, .int .i64 a]).alloc (.cells #[.int .i64 n, .int .i64 d] 64)).alloc (.cells #[.string ⟨#[]⟩, .int .i64 0] 80)).after hb
  have hB := ((Whole.made_at (w.alloc (.cells #[.string s, .int .i64 a] 80)) 64 #[.int .i64 n, .int .i64 d] (w.heap.size + 1) (by simp)).alloc (.cells #[.string ⟨#[]⟩, .int .i64 0] 80)).after hb
  have hR := (Whole.made_at ((w.alloc (.cells #[.string s, .int .i64 a] 80)).alloc (.cells #[.int .i64 n, .int .i64 d] 64)) 80 #[.string ⟨#[]⟩, .int .i64 0] (w.heap.size + 1 + 1) (by simp)).after hb
  have hw1 := ((((Below.refl w.heap.size w).alloc (Nat.le_refl _) (.cells #[.string s, .int .i64 a] 80)).alloc (by simp) (.cells #[.int .i64 n, .int .i64 d] 64)).alloc (by simp; omega) (.cells #[.string ⟨#[]⟩, .int .i64 0] 80)).trans (hb.mono (by simp; omega))
  clear hb
  have HW := hide hw1; clear hw1
  have HA := hide hA; have HR := hide hR; clear hA hR
  have cB := hB.cells
  have HB := hide hB; clear hB
  go_wp2_with fail
  (with_reducible refine (unhide HF _).mono ?_); rintro e w2 ⟨rfl, hb⟩
  have HW2 := hide ((unhide HW).trans (hb.mono (unhide HW).size))
  have HR2 := hide ((unhide HR).after hb)
  have HA2 := hide ((unhide HA).after hb)
  have cA := ((unhide HA).after hb).cells
  clear cB
  have cB := ((unhide HB).after hb).cells
  clear HA HB HW HR hb
  go_wp2_with fail
  (with_reducible refine (unhide HP _).mono ?_); rintro e w3 ⟨rfl, rfl⟩
  have hsz := (unhide HR2).lt
  have hsoft := (unhide HR2).soft
  have cR := (unhide HR2).cells
  obtain ⟨q, hq⟩ : ∃ q, q = a * n / d := ⟨_, rfl⟩
  obtain ⟨r, hr⟩ : ∃ r, r = a * n % d := ⟨_, rfl⟩
  by_cases hbig : q ≤ 2199023255552
  · have hp : partsV a n d = .tuple #[.int .i64 (q : Int), .int .i64 (r : Int)] := by unfold partsV; rw [← hq, if_pos hbig, ← hr]
    rw [hp]
    obtain ⟨Q, hQ⟩ : ∃ Q, Q = upQ a n d := ⟨_, rfl⟩
    have hQq : Q = q + (if 0 < r then 1 else 0) := by rw [hQ, upQ, hq, hr]
    have hQb : Q ≤ 2199023255553 := by rw [hQq]; split <;> omega
    have f1 : 0 < r → IntKind.i64.wrap ((q : Int) + 1) = (Q : Int) := by
      intro h; rw [if_pos h] at hQq; exact wrapI (by omega) (by omega)
    have f0 : ¬ 0 < r → Q = q := by
      intro h; rw [if_neg h] at hQq; omega
    have HMay := hide (fun W => MayR_any s Q W (unhide HH).1)
    rw [(unhide HH).2.1] at HMay
    have hres : mScale a n d = if Q ≤ 1099511627776 then some Q else none := by rw [hQ]; rfl
    have HRes := hide hres; clear hres
    clear hQ hQq hp hq
    have hr2 : r < d := by rw [hr]; exact Nat.mod_lt _ (unhide HH).2.2.2.2.1
    clear hr hbig hr2 hQb
    by_cases hr0 : 0 < r
    case pos =>
      have f1 := f1 hr0
      clear f0
      have hr' : decide ((0 : Int) < (r : Int)) = true := by rw [decide_eq_true_eq]; omega
      by_cases hin : Q ≤ 1099511627776
      · have i3 : inM (Q : Int) = true := by simp [inM]; omega
        rw [i3] at HMay
        have HRes := unhide HRes
        rw [if_pos hin] at HRes
        have HRes := hide HRes
        clear i3 hin
        go_wp2_with fail
        (with_reducible refine (unhide HMay _).mono ?_); rintro e w6 ⟨rfl, hb⟩
        have hO := ((Whole.made w2 80 #[.string s, .int .i64 Q]).after hb).cells
        have hr6 := ((unhide HR2).alloc (.cells #[.string s, .int .i64 Q] 80)).after hb
        have HW6 := hide (((unhide HW2).alloc (unhide HW2).size (.cells #[.string s, .int .i64 Q] 80)).trans (hb.mono (by have := (unhide HW2).size; simp; omega)))
        clear cA cB cR hsoft hsz hb HA2
        have cR := hr6.cells
        have hsoft := hr6.soft
        have hsz := hr6.lt
        go_wp2_with fail
        have hz := ((hr6.put 0 (.string s)).put 1 (.int .i64 Q)).cells
        refine bodyPost_ret (v := scaleV s (some Q)) (by simp [results, Try.results36, go_sem, hz, scaleV]) rfl ⟨by rw [unhide HRes], ?_⟩
        exact ((unhide HW6).setCell (by simp; omega) _).setCell (by simp; omega) _
      · have i3 : inM (Q : Int) = false := by simp [inM]; omega
        rw [i3] at HMay
        have HRes := unhide HRes
        rw [if_neg hin] at HRes
        have HRes := hide HRes
        clear i3 hin
        go_wp2_with fail
        (with_reducible refine (unhide HMay _).mono ?_); rintro e w6 ⟨rfl, hb⟩
        have hr6 := ((unhide HR2).alloc (.cells #[.string s, .int .i64 Q] 80)).after hb
        have HW6 := hide (((unhide HW2).alloc (unhide HW2).size (.cells #[.string s, .int .i64 Q] 80)).trans (hb.mono (by have := (unhide HW2).size; simp; omega)))
        clear cA cB cR hsoft hsz hb HA2
        have cR := hr6.cells
        have hsoft := hr6.soft
        have hsz := hr6.lt
        go_wp2_with fail
        have hz := ((hr6.put 0 (.string ⟨#[]⟩)).put 1 (.int .i64 0)).cells
        refine bodyPost_ret (v := scaleV s none) (by simp [results, Try.results36, go_sem, hz, scaleV]) rfl ⟨by rw [unhide HRes], ?_⟩
        exact ((unhide HW6).setCell (by simp; omega) _).setCell (by simp; omega) _
    case neg =>
      have f0 := f0 hr0
      subst f0
      clear f1
      have hr' : decide ((0 : Int) < (r : Int)) = false := by rw [decide_eq_false_iff_not]; omega
      by_cases hin : Q ≤ 1099511627776
      · have i3 : inM (Q : Int) = true := by simp [inM]; omega
        rw [i3] at HMay
        have HRes := unhide HRes
        rw [if_pos hin] at HRes
        have HRes := hide HRes
        clear i3 hin
        go_wp2_with fail
        (with_reducible refine (unhide HMay _).mono ?_); rintro e w6 ⟨rfl, hb⟩
        have hO := ((Whole.made w2 80 #[.string s, .int .i64 Q]).after hb).cells
        have hr6 := ((unhide HR2).alloc (.cells #[.string s, .int .i64 Q] 80)).after hb
        have HW6 := hide (((unhide HW2).alloc (unhide HW2).size (.cells #[.string s, .int .i64 Q] 80)).trans (hb.mono (by have := (unhide HW2).size; simp; omega)))
        clear cA cB cR hsoft hsz hb HA2
        have cR := hr6.cells
        have hsoft := hr6.soft
        have hsz := hr6.lt
        go_wp2_with fail
        have hz := ((hr6.put 0 (.string s)).put 1 (.int .i64 Q)).cells
        refine bodyPost_ret (v := scaleV s (some Q)) (by simp [results, Try.results36, go_sem, hz, scaleV]) rfl ⟨by rw [unhide HRes], ?_⟩
        exact ((unhide HW6).setCell (by simp; omega) _).setCell (by simp; omega) _
      · have i3 : inM (Q : Int) = false := by simp [inM]; omega
        rw [i3] at HMay
        have HRes := unhide HRes
        rw [if_neg hin] at HRes
        have HRes := hide HRes
        clear i3 hin
        go_wp2_with fail
        (with_reducible refine (unhide HMay _).mono ?_); rintro e w6 ⟨rfl, hb⟩
        have hr6 := ((unhide HR2).alloc (.cells #[.string s, .int .i64 Q] 80)).after hb
        have HW6 := hide (((unhide HW2).alloc (unhide HW2).size (.cells #[.string s, .int .i64 Q] 80)).trans (hb.mono (by have := (unhide HW2).size; simp; omega)))
        clear cA cB cR hsoft hsz hb HA2
        have cR := hr6.cells
        have hsoft := hr6.soft
        have hsz := hr6.lt
        go_wp2_with fail
        have hz := ((hr6.put 0 (.string ⟨#[]⟩)).put 1 (.int .i64 0)).cells
        refine bodyPost_ret (v := scaleV s none) (by simp [results, Try.results36, go_sem, hz, scaleV]) rfl ⟨by rw [unhide HRes], ?_⟩
        exact ((unhide HW6).setCell (by simp; omega) _).setCell (by simp; omega) _
  · have hp : partsV a n d = .tuple #[.int .i64 (-1), .int .i64 0] := by unfold partsV; rw [← hq, if_neg hbig]
    have hm : mScale a n d = none := mScale_big (by rw [← hq]; omega)
    have HM := hide hm; clear hm hq hr hbig
    rw [hp]
    clear hp
    go_wp2_with fail
    have hz := (((unhide HR2).put 0 (.string ⟨#[]⟩)).put 1 (.int .i64 0)).cells
    refine bodyPost_ret (v := scaleV s none) (by simp [results, Try.results36, go_sem, hz, scaleV]) rfl ⟨by rw [unhide HM], ?_⟩
    exact ((unhide HW2).setCell (by simp; omega) _).setCell (by simp; omega) _
end Go.Proofs.Ytgalpdjmmpjddaa
