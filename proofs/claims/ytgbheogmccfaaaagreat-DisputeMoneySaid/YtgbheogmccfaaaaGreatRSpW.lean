/- Walk: the reference's split. -/
import Derived.Test.YtgbheogmccfaaaaGreatRSp
namespace Go.Proofs.YtgbheogmccfaaaaGreat
set_option linter.unusedVariables false
set_option linter.unusedSimpArgs false
open Go.RowKit

set_option maxHeartbeats 8000000 in
set_option maxRecDepth 100000 in
theorem RSplit_any (t : Nat) (ws : List Nat) (A : Option Addr) (n c : Nat) (w : World) (hn : n = ws.length) (hlen : n ≤ 4096) (h0 : 0 < ws.sum) (hm : ∀ x ∈ ws, x ≤ 1099511627776) (ht : t ≤ 1099511627776) (hx : ListIn (numR .i64) w w.heap.size A ws) :
    Calls Tryz.prog 32 #[.int .i64 t, .slice A n c] w fun e w' => ∃ p, e = .returned (.slice (some ⟨p, 0, none⟩) n n) ∧ Whole w' p 2 (numA .i64 (splitN t ws)) ∧ w.heap.size ≤ p ∧ Below w.heap.size w w' := by
  have HN := hide hn; have HX := hide hx; have H0 := hide h0; have HM := hide hm
  have hsb := sum_bound ws _ hm
  rw [← hn] at hsb
  have hs52 : ws.sum ≤ 4503599627370496 := by
    have : n * 1099511627776 ≤ 4096 * 1099511627776 := Nat.mul_le_mul_right _ hlen
    omega
  have m1 := mk_i64 n (by omega)
  have hn0 : 0 < n := by
    rcases Nat.eq_zero_or_pos n with h | h
    · have : ws = [] := List.eq_nil_of_length_eq_zero (by omega)
      subst this; simp at h0
    · exact h
  clear hn h0 hm hx hsb
  have kP1 := (Whole.made w 2 (numA .i64 (List.replicate n 0))).alloc (.cells (numA .i64 (List.replicate n 0)) 2)
  have kR1 : Whole ((w.alloc (.cells (numA .i64 (List.replicate n 0)) 2)).alloc (.cells (numA .i64 (List.replicate n 0)) 2)) (w.heap.size + 1) 2 (numA .i64 (List.replicate n 0)) := Whole.made_at _ _ _ _ (by simp)
  have kB1 := ((Below.refl w.heap.size w).alloc (Nat.le_refl _) (.cells (numA .i64 (List.replicate n 0)) 2)).alloc (by simp) (.cells (numA .i64 (List.replicate n 0)) 2)
  have H1 := hide (And.intro kP1 (And.intro kR1 kB1))
  clear kP1 kR1 kB1
  go_enter Tryz.func32, Tryz.ntmps32
  go_wp2_with fail
  go_loop [7, 8] (fun s i => ∃ k : Nat, k ≤ n ∧ i = .int .i64 k ∧ s = .int .i64 ((ws.take k).sum : Nat)) (fun _ i => n - (intOf i).toNat)
  case atStart => exact ⟨0, by omega, rfl, rfl⟩
  case round =>
    obtain ⟨k, hk, rfl, rfl⟩ := hrel
    by_cases hlt : k < n
    · obtain ⟨x, hx⟩ : ∃ x, ws[k]? = some x := ⟨ws[k]'(by rw [← unhide HN]; exact hlt), List.getElem?_eq_getElem _⟩
      obtain ⟨b, off, rfl, hbb, c0⟩ := num_at ((unhide HX).after (unhide H1).2.2) hx
      have hst := sum_take_succ ws k x hx
      have hle := sum_take_le ws (k + 1)
      have cw : IntKind.i64.wrap (((ws.take k).sum : Nat) + (x : Int)) = ((ws.take (k + 1)).sum : Nat) := by rw [hst]; exact wrapI (by simp) (by omega)
      have i1 : (0 : Int) ≤ (k : Int) := by omega
      have i2 : (k : Int) < (n : Int) := by omega
      obtain ⟨s1, hs1⟩ : ∃ s, s = (ws.take (k + 1)).sum := ⟨_, rfl⟩
      rw [← hs1] at cw
      have HS1 := hide hs1
      clear hst hle hx hs1
      generalize (ws.take k).sum = s0 at *
      go_wp2_with fail
      go_round
      case rel => exact ⟨k + 1, by omega, by go_num, by rw [unhide HS1]⟩
      case measure => simp [intOf]; omega
    · have hkn : k = n := by omega
      subst hkn
      have hfull : ws.take k = ws := List.take_of_length_le (by rw [← unhide HN]; omega)
      rw [hfull]
      clear hfull
      have hS0 : 0 < ws.sum := unhide H0
      obtain ⟨S, hS⟩ : ∃ S, S = ws.sum := ⟨_, rfl⟩
      rw [← hS] at hs52 hS0 ⊢
      have HS := hide hS
      have z1 : ((S : Int) == 0) = false := by simp; omega
      have z2 : decide ((S : Int) = 0) = false := by rw [decide_eq_false_iff_not]; omega
      clear hS
      go_wp2_with fail
      go_loopw [9, 10] (fun l i wr => ∃ m : Nat, m ≤ k ∧ i = .int .i64 m ∧ l = .int .i64 ((t - ((quosL t ws).take m).sum : Nat)) ∧ Below w.heap.size w wr ∧ Whole wr w.heap.size 2 (numA .i64 (fillL (fun i => (quosL t ws).getD i 0) k m)) ∧ Whole wr (w.heap.size + 1) 2 (numA .i64 (fillL (fun i => (restsL t ws).getD i 0) k m))) (fun _ i _ => k - (intOf i).toNat)
      case atStart =>
        exact ⟨0, by omega, rfl, by simp, (unhide H1).2.2, by rw [fill_zero]; exact (unhide H1).1, by rw [fill_zero]; exact (unhide H1).2.1⟩
      case round =>
        obtain ⟨m, hm, rfl, rfl, hb, kP, kR⟩ := hrel
        obtain ⟨wo, rfl⟩ : ∃ wo : World, wo = wr := ⟨_, rfl⟩
        by_cases hlt : m < k
        · obtain ⟨x, hx⟩ : ∃ x, ws[m]? = some x := ⟨ws[m]'(by rw [← unhide HN]; exact hlt), List.getElem?_eq_getElem _⟩
          obtain ⟨b, off, rfl, hbb, c0⟩ := num_at ((unhide HX).below hb) hx
          have hxS : x ≤ S := by rw [unhide HS]; exact mem_le_sum ws x (List.mem_of_getElem? hx)
          obtain ⟨er, eq⟩ := rests_at t ws m x hx
          rw [← unhide HS] at er eq
          have hqs : (quosL t ws)[m]? = some (t * x / S) := by unfold quosL; rw [List.getElem?_map, hx, unhide HS]; rfl
          have hsum := sum_take_succ (quosL t ws) m _ hqs
          have hsle := sum_take_le (quosL t ws) (m + 1)
          have hst := (left_mul t ws (unhide H0)).2
          have hq : t * x / S ≤ t := Nat.div_le_of_le_mul (by rw [Nat.mul_comm S]; exact Nat.mul_le_mul_left _ hxS)
          have HT := hide (fun W => Times_any t x S W ht hxS hS0 hs52)
          obtain ⟨q, hq'⟩ : ∃ q, q = t * x / S := ⟨_, rfl⟩
          obtain ⟨r, hr'⟩ : ∃ r, r = t * x % S := ⟨_, rfl⟩
          rw [← hq', ← hr'] at HT
          rw [← hq'] at eq hsum hq
          rw [← hr'] at er
          have fq := fill_put .i64 (fun i => (quosL t ws).getD i 0) k m q eq.symm
          have fr := fill_put .i64 (fun i => (restsL t ws).getD i 0) k m r er.symm
          obtain ⟨l0, hl0⟩ : ∃ l, l = t - ((quosL t ws).take m).sum := ⟨_, rfl⟩
          obtain ⟨l1, hl1⟩ : ∃ l, l = t - ((quosL t ws).take (m + 1)).sum := ⟨_, rfl⟩
          rw [← hl0]
          have cv4 : IntKind.i64.wrap ((l0 : Int) - (q : Int)) = (l1 : Int) := wrapI (by omega) (by omega)
          have HL1 := hide hl1; have HB := hide hb
          have i1 : (0 : Int) ≤ (m : Int) := by omega
          have i2 : (m : Int) < (k : Int) := by omega
          have gP := kP.cells m
          have sP := kP.soft m
          have kR4 := kR.putFar (p := ⟨w.heap.size, m, none⟩) (by show w.heap.size + 1 ≠ w.heap.size; omega) (.int .i64 q)
          have gR := kR4.cells m
          have sR := kR4.soft m
          rw [numA_get, fill_get _ _ _ _ hlt] at gP gR
          simp only [Option.map_some] at gP gR
          have kP6 := (kP.put m (.int .i64 q)).putFar (p := ⟨w.heap.size + 1, m, none⟩) (by show w.heap.size ≠ w.heap.size + 1; omega) (.int .i64 r)
          have kR6 := kR4.put m (.int .i64 r)
          rw [fq] at kP6
          rw [fr] at kR6
          have gP6 := kP6.cells m
          rw [numA_get, fill_get _ _ _ _ hlt, if_pos (by omega), eq] at gP6
          simp only [Option.map_some] at gP6
          have b6 := (hb.setCell (p := ⟨w.heap.size, m, none⟩) (Nat.le_refl _) (.int .i64 q)).setCell (p := ⟨w.heap.size + 1, m, none⟩) (Nat.le_succ _) (.int .i64 r)
          have H6 := hide (And.intro b6 (And.intro kP6 kR6))
          clear fq fr hl1 hl0 kP kR kR4 kP6 kR6 b6 hb hq' hr' hst hsle hsum hqs er eq hxS hx hq
          go_wp2_with fail
          (with_reducible refine (unhide HT _).mono ?_); rintro e w2 ⟨rfl, rfl⟩
          go_wp2_with fail
          go_roundw
          case rel => exact ⟨m + 1, by omega, by go_num, by rw [unhide HL1], (unhide H6).1, (unhide H6).2.1, (unhide H6).2.2⟩
          case measure => simp [intOf]; omega
        · have hmk : m = k := by omega
          subst hmk
          have hql := quos_len t ws
          have hrl := rests_len t ws
          rw [← unhide HN] at hql hrl
          have fP : fillL (fun i => (quosL t ws).getD i 0) m m = quosL t ws := by have h := fill_all (quosL t ws); rwa [hql] at h
          have fR : fillL (fun i => (restsL t ws).getD i 0) m m = restsL t ws := by have h := fill_all (restsL t ws); rwa [hrl] at h
          rw [fP, ← add_zero (quosL t ws) (restsL t ws) (by rw [hql, hrl])] at kP
          rw [fR, ← restA_zero] at kR
          have hlf : t - ((quosL t ws).take m).sum = leftN t ws := by rw [List.take_of_length_le (by omega)]; rfl
          rw [hlf]
          have hlm := left_le_length t ws (unhide H0)
          rw [← unhide HN] at hlm
          have hAF := split_add t ws
          have hrb : ∀ x ∈ restsL t ws, x ≤ 4503599627370496 := fun x hx => by
            unfold restsL at hx
            obtain ⟨y, _, rfl⟩ := List.mem_map.1 hx
            have := Nat.mod_lt (t * y) (unhide H0)
            rw [← unhide HS] at this ⊢
            omega
          have hqb : ∀ i, (quosL t ws).getD i 0 ≤ t := fun i => by
            have h1 := (left_mul t ws (unhide H0)).2
            rcases Nat.lt_or_ge i (quosL t ws).length with h | h
            · have := mem_le_sum (quosL t ws) _ (List.getElem_mem h)
              simp only [List.getD, List.getElem?_eq_getElem h, Option.getD_some]
              omega
            · simp only [List.getD, List.getElem?_eq_none h, Option.getD_none]; omega
          obtain ⟨lf, hlf'⟩ : ∃ l, l = leftN t ws := ⟨_, rfl⟩
          obtain ⟨qs, hqs⟩ : ∃ l, l = quosL t ws := ⟨_, rfl⟩
          obtain ⟨rs, hrs⟩ : ∃ l, l = restsL t ws := ⟨_, rfl⟩
          rw [← hlf'] at hlm hAF ⊢
          rw [← hqs, ← hrs] at hAF kP
          rw [← hqs] at hqb
          rw [← hrs] at hrb hrl kR
          have HPR := hide (And.intro kP kR); have HB := hide hb
          have HA := hide (And.intro hAF (And.intro hqb (And.intro hrb hrl)))
          clear kP kR hb hAF hqb hrb hrl hql hlf hlf' hqs hrs fP fR H1
          go_wp2_with fail
          go_loopw [9] (fun l wr => ∃ j : Nat, j ≤ lf ∧ l = .int .i64 ((lf - j : Nat)) ∧ Below w.heap.size w wr ∧ Whole wr w.heap.size 2 (numA .i64 (addL qs rs j)) ∧ Whole wr (w.heap.size + 1) 2 (intA (restA rs j))) (fun l _ => (intOf l).toNat)
          case atStart => exact ⟨0, by omega, rfl, unhide HB, (unhide HPR).1, (unhide HPR).2⟩
          case round =>
            obtain ⟨j, hj, rfl, hb, kP, kR⟩ := hrel
            obtain ⟨wm, rfl⟩ : ∃ wo : World, wo = wr := ⟨_, rfl⟩
            by_cases hlt : j < lf
            · have t1 : decide ((0 : Int) < ((lf - j : Nat) : Int)) = true := by rw [decide_eq_true_eq]; omega
              have HK := hide (And.intro kP (And.intro kR hb))
              have hrl := (unhide HA).2.2.2
              clear kP kR hb
              obtain ⟨lj, hlj⟩ : ∃ l, l = lf - j := ⟨_, rfl⟩
              rw [← hlj] at t1 ⊢
              have HJ := hide hlj
              have t3 : 0 < lj := by omega
              have t4 : (0 : Int) < (lj : Int) := by omega
              clear hlj
              go_wp2_with fail
              go_loopw [11, 12] (fun bv i wr => ∃ b i0 nq : Nat, wr = wm.drewN nq ∧ bv = .int .i64 b ∧ i = .int .i64 i0 ∧ b < i0 ∧ i0 ≤ m ∧ Hid ((∀ y, y < i0 → restI rs j y ≤ restI rs j b) ∧ (∀ y, y < b → restI rs j y < restI rs j b))) (fun _ i _ => m - (intOf i).toNat)
              case atStart =>
                have hst : (∀ y, y < 1 → restI rs j y ≤ restI rs j 0) ∧ (∀ y, y < 0 → restI rs j y < restI rs j 0) := by
                  refine ⟨fun y hy => ?_, fun y hy => by omega⟩
                  have : y = 0 := by omega
                  subst this; exact Int.le_refl _
                exact ⟨0, 1, 0, rfl, rfl, rfl, by omega, by omega, hide hst⟩
              case round =>
                obtain ⟨b, i0, nq, rfl, rfl, rfl, hbi, him, HI⟩ := hrel
                by_cases hi : i0 < m
                · have gI := ((unhide HK).2.1.drewN nq).cells i0
                  have gB := ((unhide HK).2.1.drewN nq).cells b
                  rw [intA_get, restA_get rs j i0 (by omega)] at gI
                  rw [intA_get, restA_get rs j b (by omega)] at gB
                  simp only [Option.map_some] at gI gB
                  obtain ⟨vi, hvi⟩ : ∃ v, v = restI rs j i0 := ⟨_, rfl⟩
                  obtain ⟨vb, hvb⟩ : ∃ v, v = restI rs j b := ⟨_, rfl⟩
                  rw [← hvi] at gI
                  rw [← hvb] at gB
                  have HV := hide (And.intro hvi hvb)
                  have gI' : (wm.drewN nq).drew.cell? ⟨w.heap.size + 1, i0, none⟩ = some (.int .i64 vi) := gI
                  have gB' : (wm.drewN nq).drew.cell? ⟨w.heap.size + 1, b, none⟩ = some (.int .i64 vb) := gB
                  have gI2 : wm.cell? ⟨w.heap.size + 1, i0, none⟩ = some (.int .i64 vi) := gI
                  have gB2 : wm.cell? ⟨w.heap.size + 1, b, none⟩ = some (.int .i64 vb) := gB
                  have j1 : (0 : Int) ≤ (i0 : Int) := by omega
                  have j2 : (i0 : Int) < (m : Int) := by omega
                  have j3 : (0 : Int) ≤ (b : Int) := by omega
                  have j4 : (b : Int) < (m : Int) := by omega
                  clear hvi hvb
                  by_cases hgt : vb < vi
                  · have d1 : decide (vb < vi) = true := by simpa using hgt
                    have hnew : (∀ y, y < i0 + 1 → restI rs j y ≤ restI rs j i0) ∧ (∀ y, y < i0 → restI rs j y < restI rs j i0) := by
                      obtain ⟨h1, h2⟩ := unhide HV
                      rw [← h1]
                      refine ⟨fun y hy => ?_, fun y hy => ?_⟩
                      · rcases Nat.lt_or_ge y i0 with h | h
                        · have := (unhide HI).1 y h; omega
                        · have : y = i0 := by omega
                          subst this; omega
                      · have := (unhide HI).1 y hy; omega
                    have HNW := hide hnew
                    clear hnew
                    go_wp2_with fail
                    go_quiet (fail)
                    go_wp2_with fail
                    go_roundw
                    case rel => exact ⟨i0, i0 + 1, _, rfl, rfl, by go_num, by omega, by omega, HNW⟩
                    case measure => simp [intOf]; omega
                  · have d1 : decide (vb < vi) = false := by simpa using hgt
                    have hnew : (∀ y, y < i0 + 1 → restI rs j y ≤ restI rs j b) ∧ (∀ y, y < b → restI rs j y < restI rs j b) := by
                      obtain ⟨h1, h2⟩ := unhide HV
                      refine ⟨fun y hy => ?_, (unhide HI).2⟩
                      rcases Nat.lt_or_ge y i0 with h | h
                      · exact (unhide HI).1 y h
                      · have : y = i0 := by omega
                        subst this; omega
                    have HNW := hide hnew
                    clear hnew
                    go_wp2_with fail
                    go_quiet (fail)
                    go_wp2_with fail
                    go_roundw
                    case rel => exact ⟨b, i0 + 1, _, rfl, rfl, by go_num, by omega, by omega, HNW⟩
                    case measure => simp [intOf]; omega
                · have him2 : i0 = m := by omega
                  have hlj := unhide HJ
                  subst him2
                  have hrk := best_is (r := rs) (m := j) (b := b) (by omega) (by omega) (fun y hy => (unhide HI).1 y (by omega)) (unhide HI).2
                  obtain ⟨kP, kR, hb⟩ := unhide HK
                  have kP2 := kP.drewN nq
                  have kR2 := kR.drewN nq
                  have hb2 : Below w.heap.size w (wm.drewN nq) := ⟨hb.os, hb.tape, hb.output, hb.size, hb.block⟩
                  have gP := kP2.cells b
                  rw [numA_get, add_get qs rs j b (by omega), hrk, if_neg (by omega), Nat.add_zero] at gP
                  simp only [Option.map_some] at gP
                  have sP := kP2.soft b
                  have hqv := (unhide HA).2.1 b
                  obtain ⟨v, hv⟩ : ∃ v, v = qs.getD b 0 := ⟨_, rfl⟩
                  have hput := add_put .i64 qs rs j b (by omega) hrk
                  have hputR := restA_put rs j b (by omega) hrk
                  rw [← hv] at gP hqv hput
                  have cv : IntKind.i64.wrap ((v : Int) + 1) = (v : Int) + 1 := IntWalk.i64_in _ (by omega)
                  have hput : (numA .i64 (addL qs rs j)).setIfInBounds b (.int .i64 ((v : Int) + 1)) = numA .i64 (addL qs rs (j + 1)) := hput
                  have kR4 := kR2.putFar (p := ⟨w.heap.size, b, none⟩) (by show w.heap.size + 1 ≠ w.heap.size; omega) (.int .i64 ((v : Int) + 1))
                  have gR := kR4.cells b
                  rw [intA_get, restA_get rs j b (by omega)] at gR
                  simp only [Option.map_some] at gR
                  have sR := kR4.soft b
                  have gR2 : ((wm.drewN nq).setCell ⟨w.heap.size, b, none⟩ (.int .i64 ((v : Int) + 1))).cell? ⟨w.heap.size + 1, b, none⟩ = some (.int .i64 (restI rs j b)) := gR
                  have sR2 : ((wm.drewN nq).setCell ⟨w.heap.size, b, none⟩ (.int .i64 ((v : Int) + 1))).frozen? ⟨w.heap.size + 1, b, none⟩ = false := sR
                  have kP6 := (kP2.put b (.int .i64 ((v : Int) + 1))).putFar (p := ⟨w.heap.size + 1, b, none⟩) (by show w.heap.size ≠ w.heap.size + 1; omega) (.int .i64 (-1))
                  have kR6 := kR4.put b (.int .i64 (-1))
                  rw [hput] at kP6
                  rw [hputR] at kR6
                  have b6 := (hb2.setCell (p := ⟨w.heap.size, b, none⟩) (Nat.le_refl _) (.int .i64 ((v : Int) + 1))).setCell (p := ⟨w.heap.size + 1, b, none⟩) (Nat.le_succ _) (.int .i64 (-1))
                  obtain ⟨l2, hl2⟩ : ∃ l, l = lf - (j + 1) := ⟨_, rfl⟩
                  have cl : IntKind.i64.wrap ((lj : Int) - 1) = (l2 : Int) := wrapI (by omega) (by have := (unhide HA).2.2.2; omega)
                  have H6 := hide (And.intro b6 (And.intro kP6 (And.intro kR6 hl2)))
                  have j3 : (0 : Int) ≤ (b : Int) := by omega
                  have j4 : (b : Int) < (i0 : Int) := by omega
                  clear hrk kP kR hb kP2 kR2 hb2 hqv hv hput hputR kR4 kP6 kR6 b6 hl2 hlj
                  go_wp2_with fail
                  go_roundw
                  case rel => exact ⟨j + 1, by omega, by rw [← (unhide H6).2.2.2], (unhide H6).1, (unhide H6).2.1, (unhide H6).2.2.1⟩
                  case measure => have h1 := (unhide H6).2.2.2; have h2 := unhide HJ; simp [intOf]; omega
            · have hjl : j = lf := by omega
              subst hjl
              have t1 : decide ((0 : Int) < ((j - j : Nat) : Int)) = false := by rw [decide_eq_false_iff_not]; omega
              rw [(unhide HA).1] at kP
              have HF := hide (And.intro kP hb)
              clear kP kR hb
              go_wp2_with fail
              go_ret
              exact ⟨_, rfl, (unhide HF).1, Nat.le_refl _, (unhide HF).2⟩
end Go.Proofs.YtgbheogmccfaaaaGreat
