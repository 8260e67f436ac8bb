/- Walk: the program's Scale, rounding up, of what is not below 0. -/
import Derived.Test.YtgalpdjmmpjddaaScaleA
namespace Go.Proofs.Ytgalpdjmmpjddaa
set_option linter.unusedVariables false
set_option linter.unusedSimpArgs false
open Go.RowKit

/-- the quotient, rounded up -/
def upQ (a n d : Nat) : Nat := a * n / d + (if 0 < a * n % d then 1 else 0)
/-- what Scale tells: nothing, if it is too much -/
def mScale (a n d : Nat) : Option Nat := if upQ a n d ≤ 1099511627776 then some (upQ a n d) else none
/-- what Scale returns -/
def scaleV (s : ByteArray) (r : Option Nat) : Value := .tuple #[.agg (match r with | some q => #[.string s, .int .i64 q] | none => #[.string ⟨#[]⟩, .int .i64 0]), .bool r.isSome]

theorem mScale_far {a n d h : Nat} (hd : 0 < d) (hh : h = a * n / 18446744073709551616) (hf : d ≤ h) : mScale a n d = none := by
  have h1 : 18446744073709551616 * d ≤ a * n := by
    have := Nat.div_mul_le_self (a * n) 18446744073709551616
    have h2 : d * 18446744073709551616 ≤ h * 18446744073709551616 := Nat.mul_le_mul_right _ hf
    rw [hh] at h2; rw [Nat.mul_comm]; exact Nat.le_trans h2 this
  have h2 : 18446744073709551616 ≤ a * n / d := quot_ge hd h1
  unfold mScale upQ
  rw [if_neg (by omega)]
theorem mScale_big {a n d : Nat} (h : 1099511627776 < a * n / d) : mScale a n d = none := by
  unfold mScale upQ
  rw [if_neg (by omega)]
theorem join64 (m : Nat) : m / 18446744073709551616 * 18446744073709551616 + m % 18446744073709551616 = m := Nat.div_add_mod' m _

theorem sgn_mul (a : Nat) : sgn (a : Int) * (a : Int) = (a : Int) := by
  unfold sgn; split
  · omega
  · split
    · simp
    · have : (a : Int) = 0 := by omega
      rw [this]; rfl
theorem sgn_up (a n d : Nat) : sgn (a : Int) * ((upQ a n d : Nat) : Int) = ((upQ a n d : Nat) : Int) := by
  unfold sgn; split
  · omega
  · split
    · simp
    · have : a = 0 := by omega
      subst this
      unfold upQ; simp

theorem func_nil (W : World) : (binOp BinOp.eql 103 (Value.func (Fn.func 65) #[] #[]) Value.nilFunc).run Try.prog W = .ok (.bool false) W := by kernel_rfl

set_option maxHeartbeats 2000000 in
set_option maxRecDepth 100000 in
theorem Scale_any (s : ByteArray) (a n d : Nat) (w : World) (hs : s.size ≤ maxLen) (hcur : okCur s = true) (ha : a ≤ 1099511627776) (hn : n < 9223372036854775808) (hd0 : 1 ≤ d) (hd : d < 9223372036854775808) :
    Calls Try.prog 35 #[.agg #[.string s, .int .i64 a], .agg #[.int .i64 n, .int .i64 d], .int .i64 1] w fun e w' => e = .returned (scaleV s (mScale a n d)) ∧ Below w.heap.size w w' := by
  have hM1 := fun W => MayM_any s a W hs
  have hF := fun W => fraction_any n d W
  rw [hcur] at hM1
  have i1 : inM (a : Int) = true := by simp [inM]; omega
  have i2 : fracB (n : Int) (d : Int) = true := by simp [fracB]; omega
  rw [i1] at hM1; rw [i2] at hF
  have hMul := fun W => Mul64_any a n (by omega) (by omega) W
  obtain ⟨sg, hsg⟩ : ∃ x, x = sgn (a : Int) := ⟨_, rfl⟩
  have e1 : IntKind.i64.wrap (sg * (a : Int)) = (a : Int) := by rw [hsg, sgn_mul]; exact IntWalk.i64_in _ (by omega)
  have e2 : IntKind.u64.wrap (a : Int) = (a : Int) := Mul64.wrapN _ (by omega)
  have e3 : IntKind.u64.wrap (n : Int) = (n : Int) := Mul64.wrapN _ (by omega)
  have e4 : IntKind.u64.wrap (d : Int) = (d : Int) := Mul64.wrapN _ (by omega)
  have e5 := sgn_up a n d
  have hC := fun W => Compare0_any (a : Int) W
  rw [← hsg] at e5 hC
  clear hsg i1 i2
  have HM1 := hide hM1; have HF := hide hF; have HMul := hide hMul; have HC := hide hC; have H5 := hide e5
  clear hM1 hF hMul hC e5
  have HH := hide (And.intro hs (And.intro hcur (And.intro ha (And.intro hn (And.intro hd0 hd)))))
  clear hs hcur ha hn hd0 hd
  have hnf := func_nil
  go_enter Try.func35, Try.ntmps35
  go_wp2_with fail
  (with_reducible refine (rounding1_any _).mono ?_); rintro e w1 ⟨rfl, rfl⟩
  go_wp2_with fail
  (with_reducible refine (unhide HM1 _).mono ?_); rintro e w1 ⟨rfl, hb⟩
  have hA := (((Whole.made w 80 #[.string s, .int .i64 a]).alloc (.cells #[.int .i64 n, .int .i64 d] 64)).alloc (.cells #[.string ⟨#[]⟩, .int .i64 0] 80)).after hb
  have hB := ((Whole.made_at (w.alloc (.cells #[.string s, .int .i64 a] 80)) 64 #[.int .i64 n, .int .i64 d] (w.heap.size + 1) (by simp)).alloc (.cells #[.string ⟨#[]⟩, .int .i64 0] 80)).after hb
  have hR := (Whole.made_at ((w.alloc (.cells #[.string s, .int .i64 a] 80)).alloc (.cells #[.int .i64 n, .int .i64 d] 64)) 80 #[.string ⟨#[]⟩, .int .i64 0] (w.heap.size + 1 + 1) (by simp)).after hb
  have hw1 := ((((Below.refl w.heap.size w).alloc (Nat.le_refl _) (.cells #[.string s, .int .i64 a] 80)).alloc (by simp) (.cells #[.int .i64 n, .int .i64 d] 64)).alloc (by simp; omega) (.cells #[.string ⟨#[]⟩, .int .i64 0] 80)).trans (hb.mono (by simp; omega))
  clear hb
  have HW := hide hw1; clear hw1
  have HA := hide hA; have HR := hide hR; clear hA hR
  have cB := hB.cells
  have HB := hide hB; clear hB
  go_wp2_with fail
  (with_reducible refine (unhide HF _).mono ?_); rintro e w2 ⟨rfl, hb⟩
  have HW2 := hide ((unhide HW).trans (hb.mono (unhide HW).size))
  have HR2 := hide ((unhide HR).after hb)
  have HA2 := hide ((unhide HA).after hb)
  have cA := ((unhide HA).after hb).cells
  clear cB
  have cB := ((unhide HB).after hb).cells
  clear HA HB HW HR hb
  go_wp2_with fail
  (with_reducible refine (unhide HC _).mono ?_); rintro e w3 ⟨rfl, rfl⟩
  go_wp2_with fail
  (with_reducible refine (unhide HMul _).mono ?_); rintro e w3 ⟨rfl, rfl⟩
  obtain ⟨h, hh⟩ : ∃ h, h = a * n / 18446744073709551616 := ⟨_, rfl⟩
  obtain ⟨l, hl⟩ : ∃ l, l = a * n % 18446744073709551616 := ⟨_, rfl⟩
  rw [← hh, ← hl]
  have HHL := hide (And.intro hh hl); clear hh hl
  have hsz := (unhide HR2).lt
  have hsoft := (unhide HR2).soft
  have cR := (unhide HR2).cells
  by_cases hf : d ≤ h
  · have hm : mScale a n d = none := mScale_far (unhide HH).2.2.2.2.1 (unhide HHL).1 hf
    have HM := hide hm; clear hm
    go_wp2_with fail
    have hz := (((unhide HR2).put 0 (.string ⟨#[]⟩)).put 1 (.int .i64 0)).cells
    refine bodyPost_ret (v := scaleV s none) (by simp [results, Try.results35, go_sem, hz, scaleV]) rfl ⟨by rw [unhide HM], ?_⟩
    exact ((unhide HW2).setCell (by simp; omega) _).setCell (by simp; omega) _
  · have hlt : h < d := by omega
    have hl64 : l < 18446744073709551616 := by rw [(unhide HHL).2]; exact Nat.mod_lt _ (by omega)
    have HD := fun W => Div64_any h l d (by have := (unhide HH).2.2.2.2.2; omega) hl64 hlt W
    clear hl64 hlt
    have hj : h * 18446744073709551616 + l = a * n := by rw [(unhide HHL).1, (unhide HHL).2, join64]
    rw [hj] at HD
    have HD := hide HD
    clear hj
    go_wp2_with fail
    (with_reducible refine (unhide HD _).mono ?_); rintro e w4 ⟨rfl, hb⟩
    have HW4 := hide ((unhide HW2).trans (hb.mono (unhide HW2).size))
    have hr4 := (unhide HR2).after hb
    clear cR hsoft hsz
    have hsz := hr4.lt
    have hsoft := hr4.soft
    have cR := hr4.cells
    have HR4 := hide hr4
    clear hr4 cA cB
    have cA := ((unhide HA2).after hb).cells
    have HA4 := hide ((unhide HA2).after hb)
    obtain ⟨q, hq⟩ : ∃ q, q = a * n / d := ⟨_, rfl⟩
    obtain ⟨r, hr⟩ : ∃ r, r = a * n % d := ⟨_, rfl⟩
    rw [← hq, ← hr]
    have HQR := hide (And.intro hq hr); clear hq hr hb HA2 HR2 HW2
    by_cases hbig : 1099511627776 < q
    · have hm : mScale a n d = none := mScale_big (by rw [← (unhide HQR).1]; exact hbig)
      have HM := hide hm; clear hm
      have hbig' : decide ((1099511627776 : Int) < (q : Int)) = true := by rw [decide_eq_true_eq]; omega
      clear hbig
      go_wp2_with fail
      have hz := (((unhide HR4).put 0 (.string ⟨#[]⟩)).put 1 (.int .i64 0)).cells
      refine bodyPost_ret (v := scaleV s none) (by simp [results, Try.results35, go_sem, hz, scaleV]) rfl ⟨by rw [unhide HM], ?_⟩
      exact ((unhide HW4).setCell (by simp; omega) _).setCell (by simp; omega) _
    · have hbig' : decide ((1099511627776 : Int) < (q : Int)) = false := by rw [decide_eq_false_iff_not]; omega
      obtain ⟨Q, hQ⟩ : ∃ Q, Q = upQ a n d := ⟨_, rfl⟩
      have hQq : Q = q + (if 0 < r then 1 else 0) := by rw [hQ, upQ, (unhide HQR).1, (unhide HQR).2]
      have hQb : Q ≤ 1099511627777 := by rw [hQq]; split <;> omega
      have f2 : IntKind.i64.wrap (Q : Int) = (Q : Int) := IntWalk.i64_in _ (by omega)
      have f3 : IntKind.i64.wrap (sg * (Q : Int)) = (Q : Int) := by
        have := unhide H5
        rw [← hQ] at this
        rw [this]; exact f2
      have f1 : 0 < r → IntKind.u64.wrap ((q : Int) + 1) = (Q : Int) := by
        intro h; rw [if_pos h] at hQq; rw [IntKind.wrap_u64]; omega
      have f0 : ¬ 0 < r → q = Q := by
        intro h; rw [if_neg h] at hQq; omega
      have HMay := hide (fun W => MayM_any s Q W (unhide HH).1)
      rw [(unhide HH).2.1] at HMay
      have hres : mScale a n d = if Q ≤ 1099511627776 then some Q else none := by rw [hQ]; rfl
      have HRes := hide hres; clear hres
      clear hQ hQq
      go_wp2_with fail
      (with_reducible refine (roundUp_any _ _ _).mono ?_); rintro e w5 ⟨rfl, rfl⟩
      by_cases hr : 0 < r
      case pos =>
        have f1 := f1 hr
        clear f0
        have hr' : decide (0 < r) = true := by rw [decide_eq_true_eq]; exact hr
        clear hr
        rw [hr']
        by_cases hin : Q ≤ 1099511627776
        · have i3 : inM (Q : Int) = true := by simp [inM]; omega
          rw [i3] at HMay
          have HRes := unhide HRes
          rw [if_pos hin] at HRes
          have HRes := hide HRes
          clear i3 hin
          go_wp2_with fail
          (with_reducible refine (unhide HMay _).mono ?_); rintro e w6 ⟨rfl, hb⟩
          have hO := ((Whole.made w4 80 #[.string s, .int .i64 Q]).after hb).cells
          have hr6 := ((unhide HR4).alloc (.cells #[.string s, .int .i64 Q] 80)).after hb
          have HW6 := hide (((unhide HW4).alloc (unhide HW4).size (.cells #[.string s, .int .i64 Q] 80)).trans (hb.mono (by have := (unhide HW4).size; simp; omega)))
          clear cA cR hsoft hsz hb HA4
          have cR := hr6.cells
          have hsoft := hr6.soft
          have hsz := hr6.lt
          go_wp2_with fail
          have hz := ((hr6.put 0 (.string s)).put 1 (.int .i64 Q)).cells
          refine bodyPost_ret (v := scaleV s (some Q)) (by simp [results, Try.results35, go_sem, hz, scaleV]) rfl ⟨by rw [unhide HRes], ?_⟩
          exact ((unhide HW6).setCell (by simp; omega) _).setCell (by simp; omega) _
        · have i3 : inM (Q : Int) = false := by simp [inM]; omega
          rw [i3] at HMay
          have HRes := unhide HRes
          rw [if_neg hin] at HRes
          have HRes := hide HRes
          clear i3 hin
          go_wp2_with fail
          (with_reducible refine (unhide HMay _).mono ?_); rintro e w6 ⟨rfl, hb⟩
          have hr6 := ((unhide HR4).alloc (.cells #[.string s, .int .i64 Q] 80)).after hb
          have HW6 := hide (((unhide HW4).alloc (unhide HW4).size (.cells #[.string s, .int .i64 Q] 80)).trans (hb.mono (by have := (unhide HW4).size; simp; omega)))
          clear cA cR hsoft hsz hb HA4
          have cR := hr6.cells
          have hsoft := hr6.soft
          have hsz := hr6.lt
          go_wp2_with fail
          have hz := ((hr6.put 0 (.string ⟨#[]⟩)).put 1 (.int .i64 0)).cells
          refine bodyPost_ret (v := scaleV s none) (by simp [results, Try.results35, go_sem, hz, scaleV]) rfl ⟨by rw [unhide HRes], ?_⟩
          exact ((unhide HW6).setCell (by simp; omega) _).setCell (by simp; omega) _
      case neg =>
        have f0 := (f0 hr).symm
        subst f0
        clear f1
        have hr' : decide (0 < r) = false := by rw [decide_eq_false_iff_not]; exact hr
        clear hr
        rw [hr']
        by_cases hin : Q ≤ 1099511627776
        · have i3 : inM (Q : Int) = true := by simp [inM]; omega
          rw [i3] at HMay
          have HRes := unhide HRes
          rw [if_pos hin] at HRes
          have HRes := hide HRes
          clear i3 hin
          go_wp2_with fail
          (with_reducible refine (unhide HMay _).mono ?_); rintro e w6 ⟨rfl, hb⟩
          have hO := ((Whole.made w4 80 #[.string s, .int .i64 Q]).after hb).cells
          have hr6 := ((unhide HR4).alloc (.cells #[.string s, .int .i64 Q] 80)).after hb
          have HW6 := hide (((unhide HW4).alloc (unhide HW4).size (.cells #[.string s, .int .i64 Q] 80)).trans (hb.mono (by have := (unhide HW4).size; simp; omega)))
          clear cA cR hsoft hsz hb HA4
          have cR := hr6.cells
          have hsoft := hr6.soft
          have hsz := hr6.lt
          go_wp2_with fail
          have hz := ((hr6.put 0 (.string s)).put 1 (.int .i64 Q)).cells
          refine bodyPost_ret (v := scaleV s (some Q)) (by simp [results, Try.results35, go_sem, hz, scaleV]) rfl ⟨by rw [unhide HRes], ?_⟩
          exact ((unhide HW6).setCell (by simp; omega) _).setCell (by simp; omega) _
        · have i3 : inM (Q : Int) = false := by simp [inM]; omega
          rw [i3] at HMay
          have HRes := unhide HRes
          rw [if_neg hin] at HRes
          have HRes := hide HRes
          clear i3 hin
          go_wp2_with fail
          (with_reducible refine (unhide HMay _).mono ?_); rintro e w6 ⟨rfl, hb⟩
          have hr6 := ((unhide HR4).alloc (.cells #[.string s, .int .i64 Q] 80)).after hb
          have HW6 := hide (((unhide HW4).alloc (unhide HW4).size (.cells #[.string s, .int .i64 Q] 80)).trans (hb.mono (by have := (unhide HW4).size; simp; omega)))
          clear cA cR hsoft hsz hb HA4
          have cR := hr6.cells
          have hsoft := hr6.soft
          have hsz := hr6.lt
          go_wp2_with fail
          have hz := ((hr6.put 0 (.string ⟨#[]⟩)).put 1 (.int .i64 0)).cells
          refine bodyPost_ret (v := scaleV s none) (by simp [results, Try.results35, go_sem, hz, scaleV]) rfl ⟨by rw [unhide HRes], ?_⟩
          exact ((unhide HW6).setCell (by simp; omega) _).setCell (by simp; omega) _
end Go.Proofs.Ytgalpdjmmpjddaa
