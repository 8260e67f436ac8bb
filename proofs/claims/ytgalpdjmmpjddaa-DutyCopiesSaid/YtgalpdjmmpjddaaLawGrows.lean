/- Walk: the law DutyGrows. -/
import Derived.Test.YtgalpdjmmpjddaaAwakeD
namespace Go.Proofs.Ytgalpdjmmpjddaa
set_option linter.unusedVariables false
set_option linter.unusedSimpArgs false
open Go.RowKit Go.Maps

theorem u32_nat {n : Int} (h : (Lit.int .u32 n).wf = true) : ∃ m : Nat, n = m ∧ m < 4294967296 := by
  simp [Lit.wf, IntKind.min, IntKind.max, IntKind.signed, IntKind.bits] at h
  exact ⟨n.toNat, by omega, by omega⟩
theorem upQ_spec (a n d : Nat) (hd : 0 < d) : a * n ≤ upQ a n d * d ∧ upQ a n d * d < a * n + d := by
  unfold upQ
  have h := Nat.div_add_mod' (a * n) d
  have hm := Nat.mod_lt (a * n) hd
  split
  · rw [Nat.add_mul]; omega
  · rw [Nat.add_zero]; omega
theorem lt_of_mul {x y d : Nat} (h : x * d < y * d) : x < y := Nat.lt_of_mul_lt_mul_right h
theorem upQ_law (a b n d : Nat) (hd : 0 < d) : upQ a n d ≤ upQ (a + b) n d ∧ upQ b n d ≤ upQ (a + b) n d ∧ upQ (a + b) n d ≤ upQ a n d + upQ b n d ∧ upQ a n d + upQ b n d ≤ upQ (a + b) n d + 1 := by
  obtain ⟨a1, a2⟩ := upQ_spec a n d hd
  obtain ⟨b1, b2⟩ := upQ_spec b n d hd
  obtain ⟨c1, c2⟩ := upQ_spec (a + b) n d hd
  rw [Nat.add_mul] at c1 c2
  refine ⟨?_, ?_, ?_, ?_⟩
  · refine Nat.le_of_lt_succ (lt_of_mul (d := d) ?_)
    rw [Nat.succ_mul]; omega
  · refine Nat.le_of_lt_succ (lt_of_mul (d := d) ?_)
    rw [Nat.succ_mul]; omega
  · refine Nat.le_of_lt_succ (lt_of_mul (d := d) ?_)
    rw [Nat.succ_mul, Nat.add_mul]; omega
  · refine Nat.le_of_lt_succ (lt_of_mul (d := d) ?_)
    rw [Nat.succ_mul, Nat.add_mul, Nat.add_mul]; omega

/-- what the law asks of three duties -/
theorem duty_grows (xs : List Rt) (hg : Good xs) (co og : ByteArray) (a b : Nat) (ha : a < 4294967296) (hb : b < 4294967296) :
    ((mDuty xs co ((a : Int) + (b : Int)) og).2 ≠ 0 → (mDuty xs co ((a : Int) + (b : Int)) og).1 = 0) ∧
    ((mDuty xs co ((a : Int) + (b : Int)) og).2 = 0 → (mDuty xs co a og).2 = 0 ∧ (mDuty xs co b og).2 = 0 ∧ ∃ x y z : Nat, (mDuty xs co a og).1 = x ∧ (mDuty xs co b og).1 = y ∧ (mDuty xs co ((a : Int) + (b : Int)) og).1 = z ∧ x ≤ z ∧ y ≤ z ∧ z ≤ x + y ∧ x + y ≤ z + 1 ∧ z ≤ 1099511627776) := by
  have i1 : inA ((a : Int) + (b : Int)) = true := by simp [inA]; omega
  have i2 : inA (a : Int) = true := by simp [inA]; omega
  have i3 : inA (b : Int) = true := by simp [inA]; omega
  have e1 : ((a : Int) + (b : Int)).toNat = a + b := by omega
  unfold mDuty dutyOf
  rw [if_pos i1, if_pos i2, if_pos i3]
  cases hr : rowOf xs co og with
  | none => simp
  | some x =>
    have hx := hg x (rowOf_mem hr)
    have hl := upQ_law a b x.num.toNat x.den.toNat (by omega)
    simp only [e1, Int.toNat_natCast]
    unfold mScale
    by_cases hz : upQ (a + b) x.num.toNat x.den.toNat ≤ 1099511627776
    · rw [if_pos hz, if_pos (by omega), if_pos (by omega)]
      simp only [scaleP]
      exact ⟨fun h => absurd rfl h, fun _ => ⟨trivial, trivial, _, _, _, rfl, rfl, rfl, hl.1, hl.2.1, hl.2.2.1, hl.2.2.2, hz⟩⟩
    · rw [if_neg hz]
      simp [scaleP]

set_option maxHeartbeats 4000000 in
set_option maxRecDepth 100000 in
theorem DutyGrows_any (xs : List Rt) (A : Option Addr) (n c : Nat) (co og : ByteArray) (a b : Nat) (w : World) (hn : n = xs.length) (hnc : n ≤ c) (hc : c ≤ maxLen) (hx : RatesIn w w.heap.size A xs)
    (hs : ∀ x ∈ xs, x.frm.size ≤ maxLen ∧ x.to_.size ≤ maxLen) (hr : ∀ x ∈ xs, x.num < 9223372036854775808 ∧ x.den < 9223372036854775808) (hco : co.size ≤ maxLen) (hog : og.size ≤ maxLen) (ha : a < 4294967296) (hb : b < 4294967296) :
    Calls Try.prog 4 #[.slice A n c, .string co, .string og, .int .u32 a, .int .u32 b] w fun e w' => e = .returned (.bool true) ∧ Below w.heap.size w w' := by
  have HAW := hide awake_any
  unfold AwakeQ at HAW
  have hnm : n ≤ maxLen := by omega
  have H1 := hide (wide_any xs A n c w hn hnm hx hs)
  obtain ⟨wd, hwd⟩ : ∃ b, b = mWide xs := ⟨_, rfl⟩
  rw [← hwd] at H1
  have HN := hide hn; have HX := hide hx; have HS := hide hs; have HR := hide hr
  have HSZ := hide (And.intro hnc (And.intro hc (And.intro hco hog)))
  have g1 : IntKind.i64.wrap (a : Int) = (a : Int) := wrapI rfl (by omega)
  have g2 : IntKind.i64.wrap (b : Int) = (b : Int) := wrapI rfl (by omega)
  have g3 : IntKind.i64.wrap ((a : Int) + (b : Int)) = (a : Int) + (b : Int) := IntWalk.i64_in _ (by omega)
  have HAB := hide (And.intro ha hb)
  clear hnm hwd hn hx hs hr hnc hc hco hog ha hb
  go_enter Try.func4, Try.ntmps4
  go_wp2_with fail
  (with_reducible refine (unhide H1).mono ?_); rintro e w1 ⟨rfl, hb⟩
  have HB1 := hide hb
  clear hb H1
  cases wd
  case true =>
    go_wp2_with fail
    (with_reducible refine (unhide HAW _).mono ?_); rintro e w2 ⟨rfl, hb⟩
    have HB2 := hide ((unhide HB1).trans (hb.mono (unhide HB1).size))
    clear hb
    go_wp2_with fail
    go_ret
    exact ⟨rfl, unhide HB2⟩
  case false =>
    cases hlong : decide ((100 : Int) < wrap64 ((co.size : Int) + (og.size : Int)))
    case true =>
      go_wp2_with fail
      (with_reducible refine (unhide HAW _).mono ?_); rintro e w2 ⟨rfl, hb⟩
      have HB2 := hide ((unhide HB1).trans (hb.mono (unhide HB1).size))
      clear hb
      go_wp2_with fail
      go_ret
      exact ⟨rfl, unhide HB2⟩
    case false =>
      go_wp2_with fail
      have hx1 := ((unhide HX).below (unhide HB1)).more (unhide HB1).size
      (with_reducible refine (TNew_any xs A n c _ (unhide HN) (unhide HSZ).1 (unhide HSZ).2.1 hx1 (unhide HS) (unhide HR)).mono ?_); rintro e w2 ⟨hq, hb⟩
      have HB2 := hide ((unhide HB1).trans (hb.mono (unhide HB1).size))
      clear hb hx1
      unfold TNewQ at hq
      obtain ⟨k, hk⟩ : ∃ k, k = mNew xs := ⟨_, rfl⟩
      rw [← hk] at hq
      by_cases hk0 : k = 0
      · rw [if_pos hk0] at hq
        obtain ⟨rfl, hT⟩ := hq
        subst hk0
        have hg := good_of hk.symm (unhide HR)
        have hd := duty_grows xs hg co og a b (unhide HAB).1 (unhide HAB).2
        have HA := hide (fun W hT => TDuty_any xs (w1.heap.size + 1) co a og W hg hT (unhide HSZ).2.2.1 (unhide HSZ).2.2.2)
        have HBb := hide (fun W hT => TDuty_any xs (w1.heap.size + 1) co b og W hg hT (unhide HSZ).2.2.1 (unhide HSZ).2.2.2)
        have HC := hide (fun W hT => TDuty_any xs (w1.heap.size + 1) co ((a : Int) + (b : Int)) og W hg hT (unhide HSZ).2.2.1 (unhide HSZ).2.2.2)
        generalize mDuty xs co a og = ra at *
        generalize mDuty xs co b og = rb at *
        generalize mDuty xs co ((a : Int) + (b : Int)) og = rc at *
        obtain ⟨a1, a2⟩ := ra
        obtain ⟨b1, b2⟩ := rb
        obtain ⟨c1, c2⟩ := rc
        simp only [dutyV] at HA HBb HC
        have HD := hide hd; have HT := hide hT
        clear hd hg hT hk
        go_wp2_with fail
        (with_reducible refine (unhide HA _ (unhide HT)).mono ?_); rintro e w3 ⟨rfl, hb⟩
        have HB3 := hide ((unhide HB2).trans (hb.mono (unhide HB2).size))
        have HT3 := hide ((unhide HT).after hb)
        clear hb HT
        go_wp2_with fail
        (with_reducible refine (unhide HBb _ (unhide HT3)).mono ?_); rintro e w4 ⟨rfl, hb⟩
        have HB4 := hide ((unhide HB3).trans (hb.mono (unhide HB3).size))
        have HT4 := hide ((unhide HT3).after hb)
        clear hb HT3
        go_wp2_with fail
        (with_reducible refine (unhide HC _ (unhide HT4)).mono ?_); rintro e w5 ⟨rfl, hb⟩
        have HB5 := hide ((unhide HB4).trans (hb.mono (unhide HB4).size))
        clear hb HT4
        by_cases hc0 : c2 = 0
        · obtain ⟨h1, h2, x, y, z, h3, h4, h5, l1, l2, l3, l4, l5⟩ := (unhide HD).2 hc0
          try simp only at h1 h2 h3 h4 h5
          subst hc0 h1 h2 h3 h4 h5
          have g4 : IntKind.i64.wrap ((x : Int) + (y : Int)) = (x : Int) + (y : Int) := IntWalk.i64_in _ (by omega)
          have g5 : IntKind.i64.wrap ((z : Int) + 1) = (z : Int) + 1 := IntWalk.i64_in _ (by omega)
          have t1 : decide ((x : Int) ≤ (z : Int)) = true := by rw [decide_eq_true_eq]; omega
          have t2 : decide ((y : Int) ≤ (z : Int)) = true := by rw [decide_eq_true_eq]; omega
          have t3 : decide ((z : Int) ≤ (x : Int) + (y : Int)) = true := by rw [decide_eq_true_eq]; omega
          have t4 : decide ((x : Int) + (y : Int) ≤ (z : Int) + 1) = true := by rw [decide_eq_true_eq]; omega
          clear l5
          go_wp2_with fail
          (with_reducible refine (unhide HAW _).mono ?_); rintro e w6 ⟨rfl, hb⟩
          have HB6 := hide ((unhide HB5).trans (hb.mono (unhide HB5).size))
          clear hb
          go_wp2_with fail
          go_ret
          exact ⟨rfl, unhide HB6⟩
        · have h1 := (unhide HD).1 hc0
          try simp only at h1
          subst h1
          have hk1 : (c2 != 0) = true := by simpa using hc0
          go_wp2_with fail
          (with_reducible refine (unhide HAW _).mono ?_); rintro e w6 ⟨rfl, hb⟩
          have HB6 := hide ((unhide HB5).trans (hb.mono (unhide HB5).size))
          clear hb
          go_wp2_with fail
          go_ret
          exact ⟨rfl, unhide HB6⟩
      · rw [if_neg hk0] at hq
        subst hq
        have hk1 : (k != 0) = true := by simpa using hk0
        clear hk
        go_wp2_with fail
        (with_reducible refine (unhide HAW _).mono ?_); rintro e w4 ⟨rfl, hb⟩
        have HB4 := hide ((unhide HB2).trans (hb.mono (unhide HB2).size))
        clear hb
        go_wp2_with fail
        go_ret
        exact ⟨rfl, unhide HB4⟩
end Go.Proofs.Ytgalpdjmmpjddaa
