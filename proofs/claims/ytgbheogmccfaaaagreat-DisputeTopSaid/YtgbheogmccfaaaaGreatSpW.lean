/- Walk: a total is shared out by weights. -/
import Derived.Test.YtgbheogmccfaaaaGreatSpL
import Derived.Test.YtgbheogmccfaaaaGreatDivC
import Derived.Test.YtgbheogmccfaaaaGreatMonP
namespace Go.Proofs.YtgbheogmccfaaaaGreat
set_option linter.unusedVariables false
set_option linter.unusedSimpArgs false
open Go.RowKit

theorem info_i64 : (Tryz.prog.info? 2).map (fun i => (i.zero, i.size, i.bytes)) = some (some (.int .i64 0), 1, 8) := by kernel_rfl
theorem info_u64 : (Tryz.prog.info? 78).map (fun i => (i.zero, i.size, i.bytes)) = some (some (.int .u64 0), 1, 8) := by kernel_rfl
theorem info_int : (Tryz.prog.info? 3).map (fun i => (i.zero, i.size, i.bytes)) = some (some (.int .i64 0), 1, 8) := by kernel_rfl
theorem mk_i64 (n : Nat) (hn : n ≤ 100000) (w : World) : (Instr.makeSlice 35 (.int .i64 n) (.int .i64 n)).run Tryz.prog w = .ok (.slice (some ⟨w.heap.size, 0, none⟩) n n) (w.alloc (.cells (numA .i64 (List.replicate n 0)) 2)) := by
  obtain ⟨i0, hi0, hz0, hz1, hz2⟩ := info_parts info_i64
  exact make_num _ _ i0 .i64 Tryz.underlying35 hi0 hz0 hz1 hz2 n hn w
theorem mk_u64 (n : Nat) (hn : n ≤ 100000) (w : World) : (Instr.makeSlice 79 (.int .i64 n) (.int .i64 n)).run Tryz.prog w = .ok (.slice (some ⟨w.heap.size, 0, none⟩) n n) (w.alloc (.cells (numA .u64 (List.replicate n 0)) 78)) := by
  obtain ⟨i0, hi0, hz0, hz1, hz2⟩ := info_parts info_u64
  exact make_num _ _ i0 .u64 Tryz.underlying79 hi0 hz0 hz1 hz2 n hn w
theorem mk_int (n : Nat) (hn : n ≤ 100000) (w : World) : (Instr.makeSlice 57 (.int .i64 n) (.int .i64 n)).run Tryz.prog w = .ok (.slice (some ⟨w.heap.size, 0, none⟩) n n) (w.alloc (.cells (numA .i64 (List.replicate n 0)) 3)) := by
  obtain ⟨i0, hi0, hz0, hz1, hz2⟩ := info_parts info_int
  exact make_num _ _ i0 .i64 Tryz.underlying57 hi0 hz0 hz1 hz2 n hn w

set_option maxHeartbeats 8000000 in
set_option maxRecDepth 100000 in
theorem Split_any (t : Nat) (ws : List Nat) (A : Option Addr) (n c : Nat) (w : World) (hn : n = ws.length) (hlen : n ≤ 4096) (h0 : 0 < ws.sum) (hm : ∀ x ∈ ws, x ≤ 1099511627776) (ht : t ≤ 1099511627776) (hx : ListIn (numR .i64) w w.heap.size A ws) :
    Calls Tryz.prog 30 #[.int .i64 t, .slice A n c] w fun e w' => ∃ p, e = .returned (.tuple #[.slice (some ⟨p, 0, none⟩) n n, .int .i64 0]) ∧ Whole w' p 2 (numA .i64 (splitN t ws)) ∧ w.heap.size ≤ p ∧ Below w.heap.size w w' := by
  have HW := hide (wrong_any t ws A n c w hn hlen h0 hm ht hx)
  have HN := hide hn; have HX := hide hx; have H0 := hide h0; have HM := hide hm
  have hsb := sum_bound ws _ hm
  rw [← hn] at hsb
  have hs52 : ws.sum ≤ 4503599627370496 := by
    have : n * 1099511627776 ≤ 4096 * 1099511627776 := Nat.mul_le_mul_right _ hlen
    omega
  have m1 := mk_i64 n (by omega)
  have m2 := mk_u64 n (by omega)
  have m3 := mk_int n (by omega)
  have hn0 : 0 < n := by
    rcases Nat.eq_zero_or_pos n with h | h
    · have : ws = [] := List.eq_nil_of_length_eq_zero (by omega)
      subst this; simp at h0
    · exact h
  clear hn h0 hm hx hsb
  go_enter Tryz.func30, Tryz.ntmps30
  go_wp2_with fail
  (with_reducible refine (unhide HW).mono ?_); rintro e w1 ⟨rfl, hb⟩
  have HB := hide hb
  clear hb
  have kP1 := Whole.made w1 2 (numA .i64 (List.replicate n 0))
  have kB1 := (unhide HB).alloc (unhide HB).size (.cells (numA .i64 (List.replicate n 0)) 2)
  have HP1 := hide kP1; have HB1 := hide kB1
  clear kP1 kB1
  by_cases ht0 : t = 0
  · subst ht0
    have hsp := split_none ws
    rw [← unhide HN] at hsp
    have HSP := hide hsp
    clear hsp
    go_wp2_with fail
    go_ret2
    exact ⟨_, rfl, by rw [unhide HSP]; exact unhide HP1, (unhide HB).size, unhide HB1⟩
  have tz1 : decide ((t : Int) = 0) = false := by rw [decide_eq_false_iff_not]; omega
  have tz2 : ((t : Int) == 0) = false := by simp; omega
  go_wp2_with fail
  go_loop [8, 36] (fun s i => ∃ k : Nat, k ≤ n ∧ i = .int .i64 k ∧ s = .int .u64 ((ws.take k).sum : Nat)) (fun _ i => n - (intOf i).toNat)
  case atStart => exact ⟨0, by omega, rfl, rfl⟩
  case round =>
    obtain ⟨k, hk, rfl, rfl⟩ := hrel
    by_cases hlt : k < n
    · obtain ⟨x, hx⟩ : ∃ x, ws[k]? = some x := ⟨ws[k]'(by rw [← unhide HN]; exact hlt), List.getElem?_eq_getElem _⟩
      obtain ⟨b, off, rfl, hbb, c0⟩ := num_at ((unhide HX).after (unhide HB1)) hx
      have hst := sum_take_succ ws k x hx
      have hle := sum_take_le ws (k + 1)
      have cv : IntKind.u64.wrap (x : Int) = x := by simp [IntKind.wrap, IntKind.bits, IntKind.signed]; omega
      have cw : IntKind.u64.wrap (((ws.take k).sum : Nat) + (x : Int)) = ((ws.take (k + 1)).sum : Nat) := by rw [hst]; simp [IntKind.wrap, IntKind.bits, IntKind.signed]; omega
      have i1 : (0 : Int) ≤ (k : Int) := by omega
      have i2 : (k : Int) < (n : Int) := by omega
      have HST := hide hst
      clear hst hle hx
      obtain ⟨s1, hs1⟩ : ∃ s, s = (ws.take (k + 1)).sum := ⟨_, rfl⟩
      rw [← hs1] at cw
      have HS1 := hide hs1
      clear hs1
      generalize (ws.take k).sum = s0 at *
      go_wp2_with fail
      go_round
      case rel => exact ⟨k + 1, by omega, by go_num, by rw [unhide HS1]⟩
      case measure => simp [intOf]; omega
    · have hkn : k = n := by omega
      subst hkn
      have hfull : ws.take k = ws := List.take_of_length_le (by rw [← unhide HN]; omega)
      rw [hfull]
      clear hfull
      obtain ⟨S, hS⟩ : ∃ S, S = ws.sum := ⟨_, rfl⟩
      rw [← hS] at hs52 ⊢
      have HS := hide hS
      clear hS
      go_wp2_with fail
      go_loopw [13, 54] (fun l i wr => ∃ m : Nat, m ≤ k ∧ i = .int .i64 m ∧ l = .int .i64 ((t - ((quosL t ws).take m).sum : Nat)) ∧ Below w.heap.size w wr ∧ Whole wr w1.heap.size 2 (numA .i64 (fillL (fun i => (quosL t ws).getD i 0) k m)) ∧ Whole wr (w1.heap.size + 1) 78 (numA .u64 (fillL (fun i => (restsL t ws).getD i 0) k m))
        ∧ Whole wr (w1.heap.size + 1 + 1) 79 #[.slice (some ⟨w1.heap.size + 1, 0, none⟩) k k] ∧ Whole wr (w1.heap.size + 1 + 1 + 1) 3 (numA .i64 (fillL (fun i => i) k m))) (fun _ i _ => k - (intOf i).toNat)
      case atStart =>
        exact ⟨0, by omega, rfl, by simp, (((unhide HB1).alloc (unhide HB1).size _).alloc (by have := (unhide HB1).size; simp at *; omega) _).alloc (by have := (unhide HB1).size; simp at *; omega) _, by rw [fill_zero]; exact (((unhide HP1).alloc _).alloc _).alloc _, by rw [fill_zero]; exact ((Whole.made_at _ _ _ _ (by simp)).alloc _).alloc _, (Whole.made_at _ _ _ _ (by simp)).alloc _, by rw [fill_zero]; exact Whole.made_at _ _ _ _ (by simp)⟩
      case round =>
        obtain ⟨m, hm, rfl, rfl, hb, kP, kR, kX, kL⟩ := hrel
        obtain ⟨wo, rfl⟩ : ∃ wo : World, wo = wr := ⟨_, rfl⟩
        have hpB := (unhide HB).size
        clear HP1 HB1 HB
        generalize w1.heap.size = p at *
        by_cases hlt : m < k
        · obtain ⟨x, hx⟩ : ∃ x, ws[m]? = some x := ⟨ws[m]'(by rw [← unhide HN]; exact hlt), List.getElem?_eq_getElem _⟩
          obtain ⟨b, off, rfl, hbb, c0⟩ := num_at ((unhide HX).below hb) hx
          have hx40 := unhide HM x (List.mem_of_getElem? hx)
          have hxS : x ≤ S := by rw [unhide HS]; exact mem_le_sum ws x (List.mem_of_getElem? hx)
          have hS0 : 0 < S := by rw [unhide HS]; exact unhide H0
          obtain ⟨er, eq⟩ := rests_at t ws m x hx
          rw [← unhide HS] at er eq
          have hqs : (quosL t ws)[m]? = some (t * x / S) := by unfold quosL; rw [List.getElem?_map, hx, unhide HS]; rfl
          have hsum := sum_take_succ (quosL t ws) m _ hqs
          have hsle := sum_take_le (quosL t ws) (m + 1)
          have hst := (left_mul t ws (unhide H0)).2
          have hprod : t * x ≤ 1099511627776 * S := Nat.mul_le_mul ht hxS
          have hprod2 : t * x ≤ 1099511627776 * 1099511627776 := Nat.mul_le_mul ht hx40
          have hq : t * x / S ≤ t := Nat.div_le_of_le_mul (by rw [Nat.mul_comm S]; exact Nat.mul_le_mul_left _ hxS)
          have HMU := hide (fun W => Mul64_any t x (by omega) (by omega) W)
          have hdm := Nat.div_add_mod (t * x) 18446744073709551616
          have hlo := Nat.mod_lt (t * x) (show 0 < 18446744073709551616 by omega)
          obtain ⟨hi, hhi⟩ : ∃ h, h = t * x / 18446744073709551616 := ⟨_, rfl⟩
          obtain ⟨lo, hlo'⟩ : ∃ h, h = t * x % 18446744073709551616 := ⟨_, rfl⟩
          rw [← hhi, ← hlo'] at HMU
          rw [← hhi, ← hlo'] at hdm
          rw [← hlo'] at hlo
          have hd := fun W => Div64_any hi lo S (by omega) hlo (by omega) W
          rw [Nat.mul_comm hi, hdm] at hd
          have HDV := hide hd
          obtain ⟨q, hq'⟩ : ∃ q, q = t * x / S := ⟨_, rfl⟩
          obtain ⟨r, hr'⟩ : ∃ r, r = t * x % S := ⟨_, rfl⟩
          rw [← hq', ← hr'] at HDV
          rw [← hq'] at eq hsum hq
          rw [← hr'] at er
          have fq := fill_put .i64 (fun i => (quosL t ws).getD i 0) k m q eq.symm
          have fr := fill_put .u64 (fun i => (restsL t ws).getD i 0) k m r er.symm
          have fl := fill_put .i64 (fun i => i) k m m rfl
          have cv1 : IntKind.u64.wrap (t : Int) = t := by simp [IntKind.wrap, IntKind.bits, IntKind.signed]; omega
          have cv2 : IntKind.u64.wrap (x : Int) = x := by simp [IntKind.wrap, IntKind.bits, IntKind.signed]; omega
          have cv3 : IntKind.i64.wrap (q : Int) = q := IntWalk.i64_in _ (by omega)
          obtain ⟨l0, hl0⟩ : ∃ l, l = t - ((quosL t ws).take m).sum := ⟨_, rfl⟩
          obtain ⟨l1, hl1⟩ : ∃ l, l = t - ((quosL t ws).take (m + 1)).sum := ⟨_, rfl⟩
          rw [← hl0]
          have hsub : ((l0 : Nat) : Int) - (q : Int) = (l1 : Nat) := by omega
          have cv4 : IntKind.i64.wrap ((l0 : Int) - (q : Int)) = (l1 : Int) := by rw [hsub]; exact IntWalk.i64_in _ (by omega)
          have HF := hide (And.intro fq (And.intro fr fl)); have HL1 := hide hl1; have HEQ := hide eq
          have HK := hide (And.intro kP (And.intro kR (And.intro kX kL))); have HBO := hide hb
          have HPB := hide hpB
          have i1 : (0 : Int) ≤ (m : Int) := by omega
          have i2 : (m : Int) < (k : Int) := by omega
          clear fq fr fl hl1 hl0 hsub kP kR kX kL hb hpB hq' hr' hd hdm hlo hhi hlo' hprod hprod2 hst hsle hsum hqs er eq hxS hx40 hx hq hS0
          go_wp2_with fail
          (with_reducible refine (unhide HMU _).mono ?_); rintro e w2 ⟨rfl, rfl⟩
          go_wp2_with fail
          (with_reducible refine (unhide HDV _).mono ?_); rintro e w3 ⟨rfl, hb3⟩
          obtain ⟨kP, kR, kX, kL⟩ := unhide HK
          have kP3 := kP.after hb3; have kR3 := kR.after hb3; have kX3 := kX.after hb3; have kL3 := kL.after hb3
          have HB3 := hide ((unhide HBO).trans (hb3.mono (unhide HBO).size))
          have HK3 := hide (And.intro kP3 (And.intro kR3 (And.intro kX3 kL3)))
          have gX := kX3.drew.cells 0
          have kX4 := (kX3.putFar (p := ⟨p, m, none⟩) (by show p + 1 + 1 ≠ p; omega) (.int .i64 q)).drew
          have kR4 := (kR3.putFar (p := ⟨p, m, none⟩) (by show p + 1 ≠ p; omega) (.int .i64 q)).drew
          have kL5 := ((kL3.putFar (p := ⟨p, m, none⟩) (by show p + 1 + 1 + 1 ≠ p; omega) (.int .i64 q)).putFar (p := ⟨p + 1, m, none⟩) (by show p + 1 + 1 + 1 ≠ p + 1; omega) (.int .u64 r)).drew
          have gX4 := kX4.cells 0
          have gP := kP3.drew.cells m; have gR := kR4.cells m; have gL := kL5.cells m
          have sP := kP3.drew.soft m; have sR := kR4.soft m; have sL := kL5.soft m
          have kP6 := (((kP3.put m (.int .i64 q)).putFar (p := ⟨p + 1, m, none⟩) (by show p ≠ p + 1; omega) (.int .u64 r)).putFar (p := ⟨p + 1 + 1 + 1, m, none⟩) (by show p ≠ p + 1 + 1 + 1; omega) (.int .i64 m)).drew
          have kR6 := (((kR3.putFar (p := ⟨p, m, none⟩) (by show p + 1 ≠ p; omega) (.int .i64 q)).put m (.int .u64 r)).putFar (p := ⟨p + 1 + 1 + 1, m, none⟩) (by show p + 1 ≠ p + 1 + 1 + 1; omega) (.int .i64 m)).drew
          have kX6 := (((kX3.putFar (p := ⟨p, m, none⟩) (by show p + 1 + 1 ≠ p; omega) (.int .i64 q)).putFar (p := ⟨p + 1, m, none⟩) (by show p + 1 + 1 ≠ p + 1; omega) (.int .u64 r)).putFar (p := ⟨p + 1 + 1 + 1, m, none⟩) (by show p + 1 + 1 ≠ p + 1 + 1 + 1; omega) (.int .i64 m)).drew
          have kL6 := (((kL3.putFar (p := ⟨p, m, none⟩) (by show p + 1 + 1 + 1 ≠ p; omega) (.int .i64 q)).putFar (p := ⟨p + 1, m, none⟩) (by show p + 1 + 1 + 1 ≠ p + 1; omega) (.int .u64 r)).put m (.int .i64 m)).drew
          rw [(unhide HF).1] at kP6
          rw [(unhide HF).2.1] at kR6
          rw [(unhide HF).2.2] at kL6
          have gP6 := kP6.cells m
          rw [numA_get, fill_get _ _ _ _ hlt, if_pos (by omega)] at gP6
          have b6 := (((unhide HB3).setCell (p := ⟨p, m, none⟩) (by show w.heap.size ≤ p; exact unhide HPB) (.int .i64 q)).setCell (p := ⟨p + 1, m, none⟩) (by show w.heap.size ≤ p + 1; have := unhide HPB; omega) (.int .u64 r)).setCell (p := ⟨p + 1 + 1 + 1, m, none⟩) (by show w.heap.size ≤ p + 1 + 1 + 1; have := unhide HPB; omega) (.int .i64 m) |>.drew
          have eqm : (quosL t ws).getD m 0 = q := unhide HEQ
          rw [eqm] at gP6
          have HK6 := hide (And.intro kP6 (And.intro kR6 (And.intro kX6 kL6))); have HB6 := hide b6
          rw [numA_get, fill_get _ _ _ _ hlt] at gP gR gL
          simp only [Option.map_some, List.getElem?_toArray, List.getElem?_cons_zero] at gX gX4 gP gR gL gP6
          clear kX4 kR4 kL5 kP6 kR6 kX6 kL6 b6 eqm
          clear kP kR kX kL kP3 kR3 kX3 kL3 hb3 HK HBO HMU HDV c0
          go_wp2_with fail
          go_region
          go_wp2_with fail
          go_roundw
          case rel => exact ⟨m + 1, by omega, by go_num, by rw [unhide HL1], unhide HB6, (unhide HK6).1, (unhide HK6).2.1, (unhide HK6).2.2.1, (unhide HK6).2.2.2⟩
          case measure => simp [intOf]; omega
        · have hmk : m = k := by omega
          subst hmk
          have hql := quos_len t ws
          have hrl := rests_len t ws
          rw [← unhide HN] at hql hrl
          have fP : fillL (fun i => (quosL t ws).getD i 0) m m = quosL t ws := by have h := fill_all (quosL t ws); rwa [hql] at h
          have fR : fillL (fun i => (restsL t ws).getD i 0) m m = restsL t ws := by have h := fill_all (restsL t ws); rwa [hrl] at h
          have fL : fillL (fun i => i) m m = List.range m := by
            apply List.ext_getElem
            · simp [fillL]
            · intro i h1 h2; simp only [fillL, List.getElem_map, List.getElem_range]; rw [if_pos (by simpa [fillL] using h1)]
          rw [fP] at kP
          rw [fR] at kR
          rw [fL] at kL
          have hlf : t - ((quosL t ws).take m).sum = leftN t ws := by rw [List.take_of_length_le (by omega)]; rfl
          rw [hlf]
          have hlm := left_le_length t ws (unhide H0)
          rw [← unhide HN] at hlm
          have hA0 := add_zero (quosL t ws) (restsL t ws) (by rw [hql, hrl])
          have hAF := split_add t ws
          have hC := hide (sortPlaces_any (c := m) hrl hn0 hlen (by omega) (by omega) (kX.cells 0) kR kL)
          have hap := fun j i hi => add_get (quosL t ws) (restsL t ws) j i hi
          have hpu := fun j b hb h => add_put .i64 (quosL t ws) (restsL t ws) j b hb h
          have hqb : ∀ i, (quosL t ws).getD i 0 ≤ t := fun i => by
            have h1 := (left_mul t ws (unhide H0)).2
            rcases Nat.lt_or_ge i (quosL t ws).length with h | h
            · have := mem_le_sum (quosL t ws) _ (List.getElem_mem h)
              simp only [List.getD, List.getElem?_eq_getElem h, Option.getD_some]
              omega
            · simp only [List.getD, List.getElem?_eq_none h, Option.getD_none]; omega
          obtain ⟨lf, hlf'⟩ : ∃ l, l = leftN t ws := ⟨_, rfl⟩
          rw [← hlf'] at hlm hAF ⊢
          have HP0 := hide kP; have HB0 := hide hb; have HPB := hide hpB; have HRL := hide hrl
          have HA := hide (And.intro hA0 (And.intro hAF (And.intro hap (And.intro hpu hqb))))
          have hR2 := hide (And.intro (kX.lt) kP.lt)
          have i1 : (0 : Int) ≤ (lf : Int) := by omega
          have i2 : (lf : Int) ≤ (m : Int) := by omega
          clear kP kR kX kL hb hpB fP fR fL hlf hql hrl hA0 hAF hap hpu hqb hlf'
          go_wp2_with fail
          (with_reducible refine (unhide hC).mono ?_); rintro e w4 ⟨rfl, P, hO, kL4, hb4⟩
          have HO := hide hO
          have kP4 := (unhide HP0).below hb4 (show p < p + 1 + 1 + 1 by omega)
          have hbw4 : Below w.heap.size w w4 := (unhide HB0).trans (hb4.mono (show w.heap.size ≤ p + 1 + 1 + 1 by have := unhide HPB; omega))
          have HL4 := hide kL4; have HP4 := hide kP4; have HBW4 := hide hbw4
          have hPl : P.length = m := by rw [hO.length]; exact unhide HRL
          have HPL := hide hPl
          clear hO kL4 hb4 kP4 hbw4 hPl HP0 hC HB0
          go_wp2_with fail
          go_loopw [101] (fun i wr => ∃ j : Nat, j ≤ lf ∧ i = .int .i64 j ∧ Below w.heap.size w wr ∧ Whole wr p 2 (numA .i64 (addL (quosL t ws) (restsL t ws) j)) ∧ Whole wr (p + 1 + 1 + 1) 3 (numA .i64 P)) (fun i _ => lf - (intOf i).toNat)
          case atStart => exact ⟨0, by omega, rfl, unhide HBW4, by rw [(unhide HA).1]; exact unhide HP4, unhide HL4⟩
          case round =>
            obtain ⟨j, hj, rfl, hb, kP, kL⟩ := hrel
            obtain ⟨wo, rfl⟩ : ∃ wo : World, wo = wr := ⟨_, rfl⟩
            by_cases hlt : j < lf
            · obtain ⟨x, hx⟩ : ∃ x, P[j]? = some x := ⟨P[j]'(by rw [unhide HPL]; omega), List.getElem?_eq_getElem _⟩
              have hrk := (unhide HO).rk hx
              have hxl := (unhide HO).lt (List.mem_of_getElem? hx)
              have gL := kL.cells j
              rw [numA_get, hx] at gL
              have gP := kP.cells x
              rw [numA_get, (unhide HA).2.2.1 j x hxl, hrk, if_neg (by omega), Nat.add_zero] at gP
              have sP := kP.soft x
              have hq := (unhide HA).2.2.2.2 x
              have hput := (unhide HA).2.2.2.1 j x hxl hrk
              rw [unhide HRL] at hxl
              obtain ⟨v, hv⟩ : ∃ v, v = (quosL t ws).getD x 0 := ⟨_, rfl⟩
              rw [← hv] at gP hq hput
              simp only [Option.map_some] at gL gP
              have cv : IntKind.i64.wrap ((v : Int) + 1) = ((v + 1 : Nat) : Int) := by rw [IntWalk.i64_in _ (by omega)]; omega
              have kP6 := kP.put x (.int .i64 ((v + 1 : Nat) : Int))
              rw [hput] at kP6
              have kL6 := kL.putFar (p := ⟨p, x, none⟩) (by show p + 1 + 1 + 1 ≠ p; omega) (.int .i64 ((v + 1 : Nat) : Int))
              have b6 := hb.setCell (p := ⟨p, x, none⟩) (by show w.heap.size ≤ p; exact unhide HPB) (.int .i64 ((v + 1 : Nat) : Int))
              have H6 := hide (And.intro b6 (And.intro kP6 kL6))
              have j1 : (0 : Int) ≤ (j : Int) := by omega
              have j2 : (j : Int) < (lf : Int) := by omega
              have j3 : (0 : Int) ≤ (x : Int) := by omega
              have j4 : (x : Int) < (m : Int) := by omega
              clear hx hrk hxl hq hput hv kP kL hb kP6 kL6 b6
              go_wp2_with fail
              go_roundw
              case rel => exact ⟨j + 1, by omega, by go_num, (unhide H6).1, (unhide H6).2.1, (unhide H6).2.2⟩
              case measure => simp [intOf]; omega
            · have hjl : j = lf := by omega
              subst hjl
              rw [(unhide HA).2.1] at kP
              have HF := hide (And.intro kP hb)
              clear kP kL hb
              go_wp2_with fail
              go_ret2
              exact ⟨_, rfl, (unhide HF).1, unhide HPB, (unhide HF).2⟩
end Go.Proofs.YtgbheogmccfaaaaGreat
