/- Walks: the program's 'of': the moments of loads that fit. -/
import Derived.Test.YtcdjljcmhbipiaaTrimP
import Derived.StillTailTactics
import Derived.Deep.QuietTactic
import Derived.BigQuiet
namespace Go.Proofs.Ytcdjljcmhbipiaa
open Go.RowKit

set_option maxHeartbeats 2000000 in
theorem of_any (s : Shp) (A : Option Addr) (xs : List Ld) (c : Nat) (w : World) (hs : shipOk s = true) (hx : ∀ x ∈ xs, onOk s x = true) (hlen : xs.length ≤ 4096) (hl : LoadsIn w w.heap.size A xs) :
    Calls Try.prog 15 #[s.val, .slice A xs.length c] w
      fun e w' => e = .returned (.agg #[.int .i64 (longOf s xs), .int .i64 (crossOf s xs), .int .i64 (upOf xs), .int .i64 (weightOf xs)]) ∧ Below w.heap.size w w' := by
  obtain ⟨nm, a1, a2, a3, a4, a5, a6, a7, a8⟩ := s
  obtain ⟨sv, hsv⟩ : ∃ sv : Shp, sv = ⟨nm, a1, a2, a3, a4, a5, a6, a7, a8⟩ := ⟨_, rfl⟩
  have e1 : sv.bays = a1 := by rw [hsv]
  have e2 : sv.rows = a2 := by rw [hsv]
  have e3 : sv.tiers = a3 := by rw [hsv]
  have hv : Shp.val ⟨nm, a1, a2, a3, a4, a5, a6, a7, a8⟩ = .agg #[.string nm, .int .i64 a1, .int .i64 a2, .int .i64 a3, .int .i64 a4, .int .i64 a5, .int .i64 a6, .int .i64 a7, .int .i64 a8] := rfl
  rw [hv]
  rw [← hsv] at hs hx ⊢
  clear hv
  have hb := shipOk_bounds hs
  have hsm : ∀ k, k ≤ xs.length → Small (xs.take k) sv := fun k hk => small_of sv _ hs fun x hx' => hx x (List.mem_of_mem_take hx')
  have hon : ∀ (k : Nat) (x : Ld), xs[k]? = some x → 0 ≤ x.bay ∧ x.bay < a1 ∧ 0 ≤ x.row ∧ x.row < a2 ∧ 0 ≤ x.tier ∧ x.tier < a3 ∧ 1 ≤ x.wt ∧ x.wt ≤ 1048576 := fun k x h => by rw [← e1, ← e2, ← e3]; exact onOk_bounds (hx x (List.mem_of_getElem? h))
  have hlA : ∀ (k : Nat) (x : Ld), xs[k]? = some x → longOf sv (xs.take (k + 1)) = longOf sv (xs.take k) + x.wt * (2 * x.bay - a1 + 1) := fun k x h => by rw [← e1]; exact longOf_at sv xs k x h
  have hcA : ∀ (k : Nat) (x : Ld), xs[k]? = some x → crossOf sv (xs.take (k + 1)) = crossOf sv (xs.take k) + x.wt * (2 * x.row - a2 + 1) := fun k x h => by rw [← e2]; exact crossOf_at sv xs k x h
  have hbb : 1 ≤ a1 ∧ a1 ≤ 32 ∧ 1 ≤ a2 ∧ a2 ≤ 32 ∧ 1 ≤ a3 ∧ a3 ≤ 32 := by omega
  clear hb hsv e1 e2 e3 hs hx
  obtain ⟨b1, b2, b3, b4, b5, b6⟩ := hbb
  obtain ⟨n, hn⟩ : ∃ n, n = xs.length := ⟨_, rfl⟩
  rw [← hn] at hlen ⊢
  have HN := Lib.hid hn; clear hn
  have HL := hide hl; clear hl
  have HS := hide hsm; clear hsm
  have HO := hide hon; clear hon
  have HA := hide hlA; clear hlA
  have HC := hide hcA; clear hcA
  go_enter Try.func15, Try.ntmps15
  go_wp2_with fail
  go_loopw [12] (fun i wr => ∃ k : Nat, k ≤ n ∧ i = .int .i64 k ∧ Below w.heap.size w wr ∧ Whole wr w.heap.size 23 #[.string nm, .int .i64 a1, .int .i64 a2, .int .i64 a3, .int .i64 a4, .int .i64 a5, .int .i64 a6, .int .i64 a7, .int .i64 a8] ∧
      Whole wr (w.heap.size + 1) 42 #[.int .i64 0, .int .i64 0, .int .i64 0, .int .i64 0] ∧
      Whole wr (w.heap.size + 1 + 1) 42 #[.int .i64 (longOf sv (xs.take k)), .int .i64 (crossOf sv (xs.take k)), .int .i64 (upOf (xs.take k)), .int .i64 (weightOf (xs.take k))]) (fun i _ => n - (intOf i).toNat)
  case atStart =>
    refine ⟨0, by omega, rfl, ?_, ?_, ?_, ?_⟩
    · repeat (first | exact Below.refl _ _ | refine Below.alloc ?_ (by simp; try omega) _)
    · exact ((Whole.made w _ _).alloc _).alloc _
    · have := (Whole.made (w.alloc (.cells #[.string nm, .int .i64 a1, .int .i64 a2, .int .i64 a3, .int .i64 a4, .int .i64 a5, .int .i64 a6, .int .i64 a7, .int .i64 a8] 23)) 42 #[.int .i64 0, .int .i64 0, .int .i64 0, .int .i64 0])
      simp only [World.size_alloc] at this
      exact this.alloc _
    · have := (Whole.made ((w.alloc (.cells #[.string nm, .int .i64 a1, .int .i64 a2, .int .i64 a3, .int .i64 a4, .int .i64 a5, .int .i64 a6, .int .i64 a7, .int .i64 a8] 23)).alloc (.cells #[.int .i64 0, .int .i64 0, .int .i64 0, .int .i64 0] 42)) 42 #[.int .i64 0, .int .i64 0, .int .i64 0, .int .i64 0])
      simp only [World.size_alloc] at this
      exact this
  case round =>
    obtain ⟨k, hk, rfl, hbw, hww, hw1, hw2⟩ := hrel
    obtain ⟨wo, rfl⟩ : ∃ wo : World, wo = wr := ⟨_, rfl⟩
    by_cases hlt : k < n
    · obtain ⟨x, hx⟩ : ∃ x, xs[k]? = some x := ⟨xs[k]'(by rw [← HN.out]; exact hlt), List.getElem?_eq_getElem _⟩
      obtain ⟨b, off, rfl, hbb, c0, c1, c2, c3, c4, c5, c6⟩ := ((unhide HL).below hbw).at hx
      obtain ⟨o1, o2, o3, o4, o5, o6, o7, o8⟩ := (unhide HO) k x hx
      have hsz := hww.lt
      have hsz2 := hw2.lt
      have hsc := hww.cells
      have hsm := hw2.cells
      have hsf := hw2.soft
      obtain ⟨sL, sC, sU, sW⟩ := (unhide HS) k (by rw [← HN.out]; omega)
      have hlen2 : (xs.take k).length ≤ 4096 := Nat.le_trans (List.length_take_le _ _) (by omega)
      have hL2 := (unhide HA) k x hx
      have hC2 := (unhide HC) k x hx
      have hU2 := upOf_at xs k x hx
      have hW2 := weightOf_at xs k x hx
      have HX := Lib.hid (And.intro hL2 (And.intro hC2 (And.intro hU2 hW2))); clear hx hL2 hC2 hU2 hW2
      generalize longOf sv (xs.take k) = lo at *
      generalize crossOf sv (xs.take k) = cr at *
      generalize upOf (xs.take k) = up at *
      generalize weightOf (xs.take k) = we at *
      have q1 : -1000000000000 ≤ lo ∧ lo ≤ 1000000000000 := by omega
      have q2 : -1000000000000 ≤ cr ∧ cr ≤ 1000000000000 := by omega
      have q3 : -1000000000000 ≤ up ∧ up ≤ 1000000000000 := by omega
      have q4 : -1000000000000 ≤ we ∧ we ≤ 1000000000000 := by omega
      clear sL sC sU sW hlen2
      obtain ⟨q1a, q1b⟩ := q1
      obtain ⟨q2a, q2b⟩ := q2
      obtain ⟨q3a, q3b⟩ := q3
      obtain ⟨q4a, q4b⟩ := q4
      have HBW := hide hbw; clear hbw
      have HWW := hide hww; clear hww
      have HW1 := hide hw1; clear hw1
      have HW2 := hide hw2; clear hw2
      obtain ⟨p1, p2⟩ := prod_bd x.wt (2 * x.bay - a1 + 1) (by omega) (by omega) (by omega) (by omega)
      obtain ⟨p3, p4⟩ := prod_bd x.wt (2 * x.row - a2 + 1) (by omega) (by omega) (by omega) (by omega)
      obtain ⟨p5, p6⟩ := prod_bd x.wt x.tier (by omega) (by omega) (by omega) (by omega)
      have m1 : IntKind.i64.wrap (x.wt * (2 * x.bay - a1 + 1)) = x.wt * (2 * x.bay - a1 + 1) := IntWalk.i64_in _ (by omega)
      have m2 : IntKind.i64.wrap (lo + x.wt * (2 * x.bay - a1 + 1)) = lo + x.wt * (2 * x.bay - a1 + 1) := IntWalk.i64_in _ (by omega)
      have m3 : IntKind.i64.wrap (x.wt * (2 * x.row - a2 + 1)) = x.wt * (2 * x.row - a2 + 1) := IntWalk.i64_in _ (by omega)
      have m4 : IntKind.i64.wrap (cr + x.wt * (2 * x.row - a2 + 1)) = cr + x.wt * (2 * x.row - a2 + 1) := IntWalk.i64_in _ (by omega)
      go_wp2_with fail
      refine wp_tail 12 (by kernel_rfl) (by kernel_rfl) ?_
      simp only [List.take_succ_cons, List.take_zero, List.drop_succ_cons, List.drop_zero]
      repeat still_step
      still_call (still_of (arm_any _ _ _ (by omega) (by omega) (by omega) (by omega)))
      repeat still_step
      refine wpStill_nil ?_
      go_wp2_with fail
      refine wp_tail 12 (by kernel_rfl) (by kernel_rfl) ?_
      simp only [List.take_succ_cons, List.take_zero, List.drop_succ_cons, List.drop_zero]
      repeat still_step
      still_call (still_of (arm_any _ _ _ (by omega) (by omega) (by omega) (by omega)))
      repeat still_step
      refine wpStill_nil ?_
      go_wp2_with fail
      go_roundw
      case rel =>
        go_light
        obtain ⟨e1, e2, e3, e4⟩ := HX.out
        refine ⟨k + 1, by omega, by go_num, ?_, ?_, ?_, ?_⟩
        · repeat (with_reducible first | exact unhide HBW | refine Below.drew ?_ | refine Below.alloc ?_ (by simp; omega) _ | refine Below.setCell ?_ (by simp; omega) _)
        · repeat (with_reducible first | exact unhide HWW | refine Whole.drew ?_ | refine Whole.alloc ?_ _ | refine Whole.putFar ?_ (by simp; omega) _)
        · repeat (with_reducible first | exact unhide HW1 | refine Whole.drew ?_ | refine Whole.alloc ?_ _ | refine Whole.putFar ?_ (by simp) _)
        · rw [e1, e2, e3, e4]
          exact ((((((unhide HW2).put 0 _).put 1 _).put 2 _).put 3 _).alloc _).drew.drew
      case measure => simp [intOf]; omega
    · have hkn : xs.take k = xs := by rw [List.take_of_length_le (by rw [← HN.out]; omega)]
      rw [hkn] at hw2
      clear hkn
      have hsz := hww.lt
      have hsz2 := hw2.lt
      have hsm := hw2.cells
      have hs1 := hw1.cells
      have hs1f := hw1.soft
      have HBW := hide hbw; clear hbw
      clear hww hw1 hw2
      go_wp2_with fail
      refine bodyPost_ret (v := .agg #[.int .i64 (longOf sv xs), .int .i64 (crossOf sv xs), .int .i64 (upOf xs), .int .i64 (weightOf xs)]) ?_ rfl ⟨rfl, ?_⟩
      · simp [results, Try.results15, go_sem, hs1]
      · repeat (with_reducible first | exact unhide HBW | refine Below.setCell ?_ (by simp) _)
end Go.Proofs.Ytcdjljcmhbipiaa
