/- Walks: the program's margins, 'Safe', 'Worst'. -/
import Derived.Test.YtcdjljcmhbipiaaTrimQ
import Derived.Deep.RegionHeld3
namespace Go.Proofs.Ytcdjljcmhbipiaa
open Go.RowKit

def nTrim : ByteArray := ⟨#[116, 114, 105, 109]⟩
def nList : ByteArray := ⟨#[108, 105, 115, 116]⟩
def nUp : ByteArray := ⟨#[117, 112]⟩
def nMost : ByteArray := ⟨#[109, 111, 115, 116]⟩

theorem prod_bd2 (a b : Int) (ha : 0 ≤ a) (ha' : a ≤ 1048576) (hb : -274877906944 ≤ b) (hb' : b ≤ 274877906944) : -288230376151711744 ≤ a * b ∧ a * b ≤ 288230376151711744 := by
  have h1 : a * b ≤ a * 274877906944 := Int.mul_le_mul_of_nonneg_left hb' ha
  have h2 : a * (-274877906944) ≤ a * b := Int.mul_le_mul_of_nonneg_left hb ha
  omega
theorem absI_bd (n : Int) (h1 : -274877906944 ≤ n) (h2 : n ≤ 274877906944) : 0 ≤ absI n ∧ absI n ≤ 274877906944 := by unfold absI; split <;> omega

set_option maxHeartbeats 2000000 in
theorem margins_any (nm : ByteArray) (a1 a2 a3 a4 a5 a6 a7 a8 lo cr up we : Int) (w : World)
    (b5 : 0 ≤ a5) (b5' : a5 ≤ 1048576) (b6 : 0 ≤ a6) (b6' : a6 ≤ 1048576) (b7 : 0 ≤ a7) (b7' : a7 ≤ 1048576) (b8 : 0 ≤ a8) (b8' : a8 ≤ 1048576)
    (l1 : -274877906944 ≤ lo) (l2 : lo ≤ 274877906944) (c1 : -274877906944 ≤ cr) (c2 : cr ≤ 274877906944) (u1 : -274877906944 ≤ up) (u2 : up ≤ 274877906944) (e1 : -274877906944 ≤ we) (e2 : we ≤ 274877906944) :
    Calls Try.prog 16 #[.agg #[.int .i64 lo, .int .i64 cr, .int .i64 up, .int .i64 we], .agg #[.string nm, .int .i64 a1, .int .i64 a2, .int .i64 a3, .int .i64 a4, .int .i64 a5, .int .i64 a6, .int .i64 a7, .int .i64 a8]] w
      fun e w' => ∃ b, e = .returned (.slice (some ⟨b, 0, none⟩) 4 4) ∧ w.heap.size ≤ b ∧ Below w.heap.size w w' ∧
        Whole w' b 47 #[.string nTrim, .int .i64 (a5 * we - absI lo), .string nList, .int .i64 (a6 * we - absI cr), .string nUp, .int .i64 (a7 * we - up), .string nMost, .int .i64 (a8 - we)] := by
  obtain ⟨p1, p2⟩ := prod_bd2 a5 we b5 b5' e1 e2
  obtain ⟨p3, p4⟩ := prod_bd2 a6 we b6 b6' e1 e2
  obtain ⟨p5, p6⟩ := prod_bd2 a7 we b7 b7' e1 e2
  obtain ⟨q1, q2⟩ := absI_bd lo l1 l2
  obtain ⟨q3, q4⟩ := absI_bd cr c1 c2
  have m1 : IntKind.i64.wrap (a5 * we) = a5 * we := IntWalk.i64_in _ (by omega)
  have m2 : IntKind.i64.wrap (a6 * we) = a6 * we := IntWalk.i64_in _ (by omega)
  have m3 : IntKind.i64.wrap (a7 * we) = a7 * we := IntWalk.i64_in _ (by omega)
  have m4 : IntKind.i64.wrap (a5 * we - absI lo) = a5 * we - absI lo := IntWalk.i64_in _ (by omega)
  have m5 : IntKind.i64.wrap (a6 * we - absI cr) = a6 * we - absI cr := IntWalk.i64_in _ (by omega)
  have m6 : IntKind.i64.wrap (a7 * we - up) = a7 * we - up := IntWalk.i64_in _ (by omega)
  have m7 : IntKind.i64.wrap (a8 - we) = a8 - we := IntWalk.i64_in _ (by omega)
  go_enter Try.func16, Try.ntmps16
  go_wp2_with fail
  refine wp_tail 35 (by kernel_rfl) (by kernel_rfl) ?_
  simp only [List.take_succ_cons, List.take_zero, List.drop_succ_cons, List.drop_zero]
  repeat still_step
  still_call (still_of (size_any _ _ (by omega) (by omega)))
  repeat still_step
  still_call (still_of (size_any _ _ (by omega) (by omega)))
  repeat still_step
  refine wpStill_nil ?_
  go_wp2_with fail
  go_ret
  refine ⟨w.heap.size + 1 + 1, rfl, by omega, ?_, ?_⟩
  · repeat (with_reducible first | exact Below.refl _ _ | refine Below.drew ?_ | refine Below.alloc ?_ (by simp <;> omega) _)
  · exact (Whole.made_at _ _ _ _ (by simp)).drew

/-- the margins, in their order -/
def mgs (s : Shp) (xs : List Ld) : List (ByteArray × Int) := [(nTrim, s.trim * weightOf xs - absI (longOf s xs)), (nList, s.list * weightOf xs - absI (crossOf s xs)), (nUp, s.up * weightOf xs - upOf xs), (nMost, s.most - weightOf xs)]
def safeE (s : Shp) (xs : List Ld) : Int :=
  if fitB s xs then (if s.most - weightOf xs < 0 then 7 else if (s.trim * weightOf xs - absI (longOf s xs) < 0 ∨ s.list * weightOf xs - absI (crossOf s xs) < 0) ∨ s.up * weightOf xs - upOf xs < 0 then 3 else 0) else 1

def evI (k : Nat) (m1 m2 m3 : Int) : Int := if (1 ≤ k ∧ m1 < 0 ∨ 2 ≤ k ∧ m2 < 0) ∨ 3 ≤ k ∧ m3 < 0 then 3 else 0

set_option maxHeartbeats 4000000 in
theorem Safe_any (s : Shp) (A : Option Addr) (xs : List Ld) (c : Nat) (w : World) (hs : s.name.size ≤ maxLen) (hl : LoadsIn w w.heap.size A xs) :
    Calls Try.prog 10 #[s.val, .slice A xs.length c] w fun e w' => e = .returned (.int .i64 (safeE s xs)) ∧ Below w.heap.size w w' := by
  have h1 := fun c W hb => fit_any s A xs c W hs hb
  have h2 := fun (hf : fitB s xs = true) c W hb => of_any s A xs c W ((fitB_iff s xs).1 hf).1 ((fitB_iff s xs).1 hf).2.2.1 ((fitB_iff s xs).1 hf).2.1 hb
  have d0 : fitB s xs = false → safeE s xs = 1 := fun h => by simp [safeE, h]
  have d1 : fitB s xs = true → safeE s xs = (if s.most - weightOf xs < 0 then 7 else if (s.trim * weightOf xs - absI (longOf s xs) < 0 ∨ s.list * weightOf xs - absI (crossOf s xs) < 0) ∨ s.up * weightOf xs - upOf xs < 0 then 3 else 0) := fun h => by simp only [safeE, h]; rfl
  have d2 : fitB s xs = true → _ := fun h => mom_bd h
  have d3 : fitB s xs = true → _ := fun h => mom_fit h
  have d4 : fitB s xs = true → _ := fun h => shipOk_bounds ((fitB_iff s xs).1 h).1
  have d5 : fitB s xs = true → (-274877906944 ≤ longOf s xs ∧ longOf s xs ≤ 274877906944 ∧ -274877906944 ≤ crossOf s xs ∧ crossOf s xs ≤ 274877906944) ∧ -274877906944 ≤ upOf xs ∧ upOf xs ≤ 274877906944 ∧ -274877906944 ≤ weightOf xs ∧ weightOf xs ≤ 274877906944 := fun h => by
    have := d2 h; obtain ⟨e1, e2, e3, e4⟩ := d3 h; rw [e1, e2, e3, e4] at this; omega
  clear d2 d3
  generalize safeE s xs = sf at *
  generalize longOf s xs = lo at *
  generalize crossOf s xs = cr at *
  generalize upOf xs = up at *
  generalize weightOf xs = we at *
  generalize fitB s xs = fb at *
  obtain ⟨nm, a1, a2, a3, a4, a5, a6, a7, a8⟩ := s
  have hv : Shp.val ⟨nm, a1, a2, a3, a4, a5, a6, a7, a8⟩ = .agg #[.string nm, .int .i64 a1, .int .i64 a2, .int .i64 a3, .int .i64 a4, .int .i64 a5, .int .i64 a6, .int .i64 a7, .int .i64 a8] := rfl
  rw [hv] at h1 h2 ⊢
  clear hv
  simp only [] at d1 d4
  generalize xs.length = n at *
  have HL := hide hl; clear hl
  have H1 := hide h1; clear h1
  have H2 := hide h2; clear h2
  have D0 := hide d0; clear d0
  have D1 := hide d1; clear d1
  have D4 := hide d4; clear d4
  have D5 := hide d5; clear d5
  have b0 := (Below.refl w.heap.size w).alloc (Nat.le_refl _) (.cells #[.string nm, .int .i64 a1, .int .i64 a2, .int .i64 a3, .int .i64 a4, .int .i64 a5, .int .i64 a6, .int .i64 a7, .int .i64 a8] 23)
  have HB := hide b0; clear b0
  go_enter Try.func10, Try.ntmps10
  go_wp2_with fail
  refine (unhide H1 _ _ ((unhide HL).after (unhide HB))).mono ?_; rintro e w1 ⟨rfl, hb⟩
  have k1 := (Whole.made w 23 #[.string nm, .int .i64 a1, .int .i64 a2, .int .i64 a3, .int .i64 a4, .int .i64 a5, .int .i64 a6, .int .i64 a7, .int .i64 a8]).after hb
  have b1 := (unhide HB).trans (hb.mono (unhide HB).size)
  have hc := k1.cells
  have B1 := hide b1; clear b1 hb
  have K1 := hide k1; clear k1
  cases fb
  · have e0 := (unhide D0) (by first | trivial | rfl)
    subst e0
    go_wp2_with fail
    go_ret
    exact ⟨rfl, unhide B1⟩
  · have e1 := (unhide D1) (by first | trivial | rfl)
    obtain ⟨_, _, _, _, _, _, _, _, t5, t5', t6, t6', t7, t7', t8, t8'⟩ := (unhide D4) (by first | trivial | rfl)
    obtain ⟨⟨l1, l2, c1, c2⟩, u1, u2, g1, g2⟩ := (unhide D5) (by first | trivial | rfl)
    have E := Lib.hid e1; clear e1
    go_wp2_with fail
    go_region_held3 (fun w' => w'.cell? ⟨w.heap.size, 0, none⟩ = some (.string nm) ∧ w'.cell? ⟨w.heap.size, 1, none⟩ = some (.int .i64 a1) ∧ w'.cell? ⟨w.heap.size, 2, none⟩ = some (.int .i64 a2) ∧ w'.cell? ⟨w.heap.size, 3, none⟩ = some (.int .i64 a3) ∧ w'.cell? ⟨w.heap.size, 4, none⟩ = some (.int .i64 a4) ∧ w'.cell? ⟨w.heap.size, 5, none⟩ = some (.int .i64 a5) ∧ w'.cell? ⟨w.heap.size, 6, none⟩ = some (.int .i64 a6) ∧ w'.cell? ⟨w.heap.size, 7, none⟩ = some (.int .i64 a7) ∧ w'.cell? ⟨w.heap.size, 8, none⟩ = some (.int .i64 a8))
      (go_keep)
      ((first
        | (go_at_call 15; with_reducible refine (unhide H2 (by first | trivial | rfl) _ _ ((unhide HL).after (unhide B1).drew)).mono ?_; rintro e w2 ⟨rfl, hb⟩; have hc2 := ((unhide K1).drew.after hb).cells; have HB2 := hide hb; clear hb)
        | (go_at_call 16; with_reducible refine (margins_any _ _ _ _ _ _ _ _ _ _ _ _ _ _ t5 t5' t6 t6' t7 t7' t8 t8' l1 l2 c1 c2 u1 u2 g1 g2).mono ?_; rintro e w3 ⟨b, rfl, hbb, hb, hk⟩; have hc3 := ((unhide K1).drew.after (unhide HB2)).after hb |>.cells; have HB3 := hide (And.intro hb hk); clear hb hk)))
    obtain ⟨hb, hk⟩ := unhide HB3
    have b2 := ((unhide B1).drew.trans ((unhide HB2).mono (unhide B1).size))
    have b3 := b2.trans (hb.mono b2.size)
    have B3 := hide b3; clear b3 b2 hb HB3 HB2 hc3 hc2 hc
    unfold nTrim nList nUp nMost at hk
    have hm1 : a5 * we - absI lo = a5 * we - absI lo := rfl
    generalize a5 * we - absI lo = m1 at *
    generalize a6 * we - absI cr = m2 at *
    generalize a7 * we - up = m3 at *
    generalize a8 - we = m4 at *
    have KM := hide hk
    have hblt := hk.lt
    clear hk hm1
    go_wp2_with fail
    go_loopw [5, 18] (fun ev iv wr => ∃ k : Nat, k ≤ 4 ∧ iv = .int .i64 k ∧ Below w.heap.size w wr ∧ w3.heap.size ≤ wr.heap.size ∧ Whole wr b 47 #[.string ⟨#[116, 114, 105, 109]⟩, .int .i64 m1, .string ⟨#[108, 105, 115, 116]⟩, .int .i64 m2, .string ⟨#[117, 112]⟩, .int .i64 m3, .string ⟨#[109, 111, 115, 116]⟩, .int .i64 m4] ∧
      (∃ x : Int, ev = .int .i64 x ∧ Hid (x = evI k m1 m2 m3)) ∧ (k = 4 → 0 ≤ m4)) (fun _ i _ => 4 - (intOf i).toNat)
    case atStart => exact ⟨0, by omega, rfl, unhide B3, Nat.le_refl _, unhide KM, ⟨0, rfl, Lib.hid (by simp [evI])⟩, by omega⟩
    case round =>
      obtain ⟨k, hk, rfl, hbw, hsz, hkm, ⟨x, rfl, HX⟩, h4⟩ := hrel
      have hcm := hkm.cells
      have hbl := hkm.lt
      have HBW := hide hbw; clear hbw
      have HKM := hide hkm; clear hkm
      by_cases hk0 : k = 0
      · subst hk0
        by_cases hm : m1 < 0
        · go_wp2_with fail
          go_roundw
          case rel => exact ⟨1, by omega, rfl, (unhide HBW).alloc (unhide HBW).size _, by simp; omega, (unhide HKM).alloc _, ⟨_, rfl, Lib.hid (by simp [evI, hm])⟩, by omega⟩
          case measure => simp [intOf]
        · go_wp2_with fail
          have hm' : ¬ m1 < 0 := by omega
          go_roundw
          case rel => exact ⟨1, by omega, rfl, (unhide HBW).alloc (unhide HBW).size _, by simp; omega, (unhide HKM).alloc _, ⟨_, rfl, Lib.hid (by rw [HX.out]; simp [evI, hm'])⟩, by omega⟩
          case measure => simp [intOf]
      by_cases hk1 : k = 1
      · subst hk1
        by_cases hm : m2 < 0
        · go_wp2_with fail
          go_roundw
          case rel => exact ⟨2, by omega, rfl, (unhide HBW).alloc (unhide HBW).size _, by simp; omega, (unhide HKM).alloc _, ⟨_, rfl, Lib.hid (by simp [evI, hm])⟩, by omega⟩
          case measure => simp [intOf]
        · go_wp2_with fail
          have hm' : ¬ m2 < 0 := by omega
          go_roundw
          case rel => exact ⟨2, by omega, rfl, (unhide HBW).alloc (unhide HBW).size _, by simp; omega, (unhide HKM).alloc _, ⟨_, rfl, Lib.hid (by rw [HX.out]; simp [evI, hm'])⟩, by omega⟩
          case measure => simp [intOf]
      by_cases hk2 : k = 2
      · subst hk2
        by_cases hm : m3 < 0
        · go_wp2_with fail
          go_roundw
          case rel => exact ⟨3, by omega, rfl, (unhide HBW).alloc (unhide HBW).size _, by simp; omega, (unhide HKM).alloc _, ⟨_, rfl, Lib.hid (by simp [evI, hm])⟩, by omega⟩
          case measure => simp [intOf]
        · go_wp2_with fail
          have hm' : ¬ m3 < 0 := by omega
          go_roundw
          case rel => exact ⟨3, by omega, rfl, (unhide HBW).alloc (unhide HBW).size _, by simp; omega, (unhide HKM).alloc _, ⟨_, rfl, Lib.hid (by rw [HX.out]; simp [evI, hm'])⟩, by omega⟩
          case measure => simp [intOf]
      by_cases hk3 : k = 3
      · subst hk3
        by_cases hm : m4 < 0
        · go_wp2_with fail
          go_ret
          exact ⟨ret_int (by rw [E.out, if_pos hm]), (unhide HBW).alloc (unhide HBW).size _⟩
        · go_wp2_with fail
          go_roundw
          case rel => exact ⟨4, by omega, rfl, (unhide HBW).alloc (unhide HBW).size _, by simp; omega, (unhide HKM).alloc _, ⟨_, rfl, Lib.hid (by rw [HX.out]; simp [evI])⟩, by omega⟩
          case measure => simp [intOf]
      · obtain rfl : k = 4 := by omega
        have h4' := h4 rfl
        clear h4
        go_wp2_with fail
        go_ret
        exact ⟨ret_int (by rw [E.out, if_neg (by omega), HX.out]; simp [evI]), unhide HBW⟩
end Go.Proofs.Ytcdjljcmhbipiaa
