/- Walks: the program's 'Worst'. -/
import Derived.Test.YtcdjljcmhbipiaaSafeA
namespace Go.Proofs.Ytcdjljcmhbipiaa
open Go.RowKit

def bestK : Nat → Int → Int → Int → Int → ByteArray × Int
  | 0, m1, _, _, _ => (nTrim, m1)
  | 1, m1, m2, _, _ => if m2 < m1 then (nList, m2) else (nTrim, m1)
  | 2, m1, m2, m3, m4 => if m3 < (bestK 1 m1 m2 m3 m4).2 then (nUp, m3) else bestK 1 m1 m2 m3 m4
  | _ + 3, m1, m2, m3, m4 => if m4 < (bestK 2 m1 m2 m3 m4).2 then (nMost, m4) else bestK 2 m1 m2 m3 m4
def nthM : Nat → Int → Int → Int → Int
  | 0, m2, _, _ => m2
  | 1, _, m3, _ => m3
  | _, _, _, m4 => m4
def nthN : Nat → ByteArray
  | 0 => nList
  | 1 => nUp
  | _ => nMost
theorem bestK_yes (k : Nat) (m1 m2 m3 m4 : Int) {bn : ByteArray} {bv : Int} (h : (bn, bv) = bestK k m1 m2 m3 m4) (hm : nthM k m2 m3 m4 < bv) (hk : k ≤ 2 := by omega) : (nthN k, nthM k m2 m3 m4) = bestK (k + 1) m1 m2 m3 m4 := by
  match k, hk with
  | 0, _ => simp only [bestK, nthM, Prod.mk.injEq] at h hm; obtain ⟨_, rfl⟩ := h; simp [bestK, nthM, nthN, hm]
  | 1, _ => have h2 := congrArg Prod.snd h; simp only [nthM] at hm; rw [bestK, if_pos (by rw [← h2]; exact hm)]; rfl
  | 2, _ => have h2 := congrArg Prod.snd h; simp only [nthM] at hm; rw [bestK, if_pos (by rw [← h2]; exact hm)]; rfl
theorem bestK_no (k : Nat) (m1 m2 m3 m4 : Int) {bn : ByteArray} {bv : Int} (h : (bn, bv) = bestK k m1 m2 m3 m4) (hm : ¬ nthM k m2 m3 m4 < bv) (hk : k ≤ 2 := by omega) : (bn, bv) = bestK (k + 1) m1 m2 m3 m4 := by
  match k, hk with
  | 0, _ => simp only [bestK, nthM, Prod.mk.injEq] at h hm; obtain ⟨rfl, rfl⟩ := h; simp [bestK, hm]
  | 1, _ => have h2 := congrArg Prod.snd h; simp only [nthM] at hm; rw [bestK, if_neg (by rw [← h2]; exact hm)]; exact h
  | 2, _ => have h2 := congrArg Prod.snd h; simp only [nthM] at hm; rw [bestK, if_neg (by rw [← h2]; exact hm)]; exact h
def worstN (s : Shp) (xs : List Ld) : ByteArray := if fitB s xs then (bestK 3 (s.trim * weightOf xs - absI (longOf s xs)) (s.list * weightOf xs - absI (crossOf s xs)) (s.up * weightOf xs - upOf xs) (s.most - weightOf xs)).1 else ⟨#[]⟩
def worstV (s : Shp) (xs : List Ld) : Int := if fitB s xs then (bestK 3 (s.trim * weightOf xs - absI (longOf s xs)) (s.list * weightOf xs - absI (crossOf s xs)) (s.up * weightOf xs - upOf xs) (s.most - weightOf xs)).2 else 0

set_option maxHeartbeats 4000000 in
theorem Worst_any (s : Shp) (A : Option Addr) (xs : List Ld) (c : Nat) (w : World) (hs : s.name.size ≤ maxLen) (hl : LoadsIn w w.heap.size A xs) :
    Calls Try.prog 11 #[s.val, .slice A xs.length c] w fun e w' => e = .returned (.tuple #[.string (worstN s xs), .int .i64 (worstV s xs)]) ∧ Below w.heap.size w w' := by
  have h1 := fun c W hb => fit_any s A xs c W hs hb
  have h2 := fun (hf : fitB s xs = true) c W hb => of_any s A xs c W ((fitB_iff s xs).1 hf).1 ((fitB_iff s xs).1 hf).2.2.1 ((fitB_iff s xs).1 hf).2.1 hb
  have d0 : fitB s xs = false → worstN s xs = ⟨#[]⟩ ∧ worstV s xs = 0 := fun h => by simp [worstN, worstV, h]
  have d1 : fitB s xs = true → (worstN s xs, worstV s xs) = bestK 3 (s.trim * weightOf xs - absI (longOf s xs)) (s.list * weightOf xs - absI (crossOf s xs)) (s.up * weightOf xs - upOf xs) (s.most - weightOf xs) := fun h => by simp [worstN, worstV, h]
  have d2 : fitB s xs = true → _ := fun h => mom_bd h
  have d3 : fitB s xs = true → _ := fun h => mom_fit h
  have d4 : fitB s xs = true → _ := fun h => shipOk_bounds ((fitB_iff s xs).1 h).1
  have d5 : fitB s xs = true → (-274877906944 ≤ longOf s xs ∧ longOf s xs ≤ 274877906944 ∧ -274877906944 ≤ crossOf s xs ∧ crossOf s xs ≤ 274877906944) ∧ -274877906944 ≤ upOf xs ∧ upOf xs ≤ 274877906944 ∧ -274877906944 ≤ weightOf xs ∧ weightOf xs ≤ 274877906944 := fun h => by
    have := d2 h; obtain ⟨e1, e2, e3, e4⟩ := d3 h; rw [e1, e2, e3, e4] at this; omega
  clear d2 d3
  generalize worstN s xs = wn at *
  generalize worstV s xs = wv at *
  generalize longOf s xs = lo at *
  generalize crossOf s xs = cr at *
  generalize upOf xs = up at *
  generalize weightOf xs = we at *
  generalize fitB s xs = fb at *
  obtain ⟨nm, a1, a2, a3, a4, a5, a6, a7, a8⟩ := s
  have hv : Shp.val ⟨nm, a1, a2, a3, a4, a5, a6, a7, a8⟩ = .agg #[.string nm, .int .i64 a1, .int .i64 a2, .int .i64 a3, .int .i64 a4, .int .i64 a5, .int .i64 a6, .int .i64 a7, .int .i64 a8] := rfl
  rw [hv] at h1 h2 ⊢
  clear hv
  simp only [] at d1 d4
  generalize xs.length = n at *
  have HL := hide hl; clear hl
  have H1 := hide h1; clear h1
  have H2 := hide h2; clear h2
  have D0 := hide d0; clear d0
  have D1 := hide d1; clear d1
  have D4 := hide d4; clear d4
  have D5 := hide d5; clear d5
  have b0 := (Below.refl w.heap.size w).alloc (Nat.le_refl _) (.cells #[.string nm, .int .i64 a1, .int .i64 a2, .int .i64 a3, .int .i64 a4, .int .i64 a5, .int .i64 a6, .int .i64 a7, .int .i64 a8] 23)
  have HB := hide b0; clear b0
  go_enter Try.func11, Try.ntmps11
  go_wp2_with fail
  refine (unhide H1 _ _ ((unhide HL).after (unhide HB))).mono ?_; rintro e w1 ⟨rfl, hb⟩
  have k1 := (Whole.made w 23 #[.string nm, .int .i64 a1, .int .i64 a2, .int .i64 a3, .int .i64 a4, .int .i64 a5, .int .i64 a6, .int .i64 a7, .int .i64 a8]).after hb
  have b1 := (unhide HB).trans (hb.mono (unhide HB).size)
  have hc := k1.cells
  have B1 := hide b1; clear b1 hb
  have K1 := hide k1; clear k1
  cases fb
  · obtain ⟨e0, e1⟩ := (unhide D0) (by first | trivial | rfl)
    subst e0 e1
    go_wp2_with fail
    go_ret2
    exact ⟨rfl, unhide B1⟩
  · have e1 := (unhide D1) (by first | trivial | rfl)
    obtain ⟨_, _, _, _, _, _, _, _, t5, t5', t6, t6', t7, t7', t8, t8'⟩ := (unhide D4) (by first | trivial | rfl)
    obtain ⟨⟨l1, l2, c1, c2⟩, u1, u2, g1, g2⟩ := (unhide D5) (by first | trivial | rfl)
    have E := Lib.hid e1; clear e1
    go_wp2_with fail
    go_region_held3 (fun w' => w'.cell? ⟨w.heap.size, 0, none⟩ = some (.string nm) ∧ w'.cell? ⟨w.heap.size, 1, none⟩ = some (.int .i64 a1) ∧ w'.cell? ⟨w.heap.size, 2, none⟩ = some (.int .i64 a2) ∧ w'.cell? ⟨w.heap.size, 3, none⟩ = some (.int .i64 a3) ∧ w'.cell? ⟨w.heap.size, 4, none⟩ = some (.int .i64 a4) ∧ w'.cell? ⟨w.heap.size, 5, none⟩ = some (.int .i64 a5) ∧ w'.cell? ⟨w.heap.size, 6, none⟩ = some (.int .i64 a6) ∧ w'.cell? ⟨w.heap.size, 7, none⟩ = some (.int .i64 a7) ∧ w'.cell? ⟨w.heap.size, 8, none⟩ = some (.int .i64 a8))
      (go_keep)
      ((first
        | (go_at_call 15; with_reducible refine (unhide H2 (by first | trivial | rfl) _ _ ((unhide HL).after (unhide B1).drew)).mono ?_; rintro e w2 ⟨rfl, hb⟩; have hc2 := ((unhide K1).drew.after hb).cells; have HB2 := hide hb; clear hb)
        | (go_at_call 16; with_reducible refine (margins_any _ _ _ _ _ _ _ _ _ _ _ _ _ _ t5 t5' t6 t6' t7 t7' t8 t8' l1 l2 c1 c2 u1 u2 g1 g2).mono ?_; rintro e w3 ⟨b, rfl, hbb, hb, hk⟩; have hc3 := ((unhide K1).drew.after (unhide HB2)).after hb |>.cells; have HB3 := hide (And.intro hb hk); clear hb hk)))
    obtain ⟨hb, hk⟩ := unhide HB3
    have b2 := ((unhide B1).drew.trans ((unhide HB2).mono (unhide B1).size))
    have b3 := b2.trans (hb.mono b2.size)
    have B3 := hide b3; clear b3 b2 hb HB3 HB2 hc3 hc2 hc
    unfold nTrim nList nUp nMost at hk
    have hm1 : a5 * we - absI lo = a5 * we - absI lo := rfl
    generalize a5 * we - absI lo = m1 at *
    generalize a6 * we - absI cr = m2 at *
    generalize a7 * we - up = m3 at *
    generalize a8 - we = m4 at *
    have KM := hide hk
    have hblt := hk.lt
    have hB3 := (unhide B3).size
    have hcm0 := hk.cells
    clear hk hm1
    go_wp2_with fail
    go_loopw [25] (fun iv wr => ∃ k : Nat, k ≤ 3 ∧ iv = .int .i64 k ∧ Below w.heap.size w wr ∧ w3.heap.size < wr.heap.size ∧ Whole wr b 47 #[.string ⟨#[116, 114, 105, 109]⟩, .int .i64 m1, .string ⟨#[108, 105, 115, 116]⟩, .int .i64 m2, .string ⟨#[117, 112]⟩, .int .i64 m3, .string ⟨#[109, 111, 115, 116]⟩, .int .i64 m4] ∧
      ∃ (bn : ByteArray) (bv : Int), Whole wr w3.heap.size 47 #[.string bn, .int .i64 bv] ∧ Hid ((bn, bv) = bestK k m1 m2 m3 m4)) (fun i _ => 3 - (intOf i).toNat)
    case atStart => exact ⟨0, by omega, rfl, (unhide B3).alloc (unhide B3).size _, by simp, (unhide KM).alloc _, _, _, Whole.made _ _ _, Lib.hid (by simp [bestK, nTrim])⟩
    case round =>
      obtain ⟨k, hk, rfl, hbw, hsz, hkm, bn, bv, hkb, HX⟩ := hrel
      have hcm := hkm.cells
      have hbl := hkm.lt
      have hcb := hkb.cells
      have hsb := hkb.soft
      have HBW := hide hbw; clear hbw
      have HKM := hide hkm; clear hkm
      have HKB := hide hkb; clear hkb
      clear hcm0
      by_cases hk0 : k = 0
      · subst hk0
        by_cases hm : m2 < bv
        · go_wp2_with fail
          go_roundw
          case rel =>
            refine ⟨1, by omega, rfl, ?_, by simp; omega, ?_, _, _, ?_, Lib.hid (bestK_yes 0 m1 m2 m3 m4 HX.out hm)⟩
            · repeat (with_reducible first | exact unhide HBW | refine Below.alloc ?_ (by simp; omega) _ | refine Below.setCell ?_ (by simp; omega) _)
            · repeat (with_reducible first | exact unhide HKM | refine Whole.alloc ?_ _ | refine Whole.putFar ?_ (by simp; omega) _)
            · exact (((unhide HKB).put 0 _).put 1 _).alloc _
          case measure => simp [intOf]
        · go_wp2_with fail
          have hm' : ¬ m2 < bv := by omega
          go_roundw
          case rel => exact ⟨1, by omega, rfl, (unhide HBW).alloc (unhide HBW).size _, by simp; omega, (unhide HKM).alloc _, _, _, (unhide HKB).alloc _, Lib.hid (bestK_no 0 m1 m2 m3 m4 HX.out hm')⟩
          case measure => simp [intOf]
      by_cases hk1 : k = 1
      · subst hk1
        by_cases hm : m3 < bv
        · go_wp2_with fail
          go_roundw
          case rel =>
            refine ⟨2, by omega, rfl, ?_, by simp; omega, ?_, _, _, ?_, Lib.hid (bestK_yes 1 m1 m2 m3 m4 HX.out hm)⟩
            · repeat (with_reducible first | exact unhide HBW | refine Below.alloc ?_ (by simp; omega) _ | refine Below.setCell ?_ (by simp; omega) _)
            · repeat (with_reducible first | exact unhide HKM | refine Whole.alloc ?_ _ | refine Whole.putFar ?_ (by simp; omega) _)
            · exact (((unhide HKB).put 0 _).put 1 _).alloc _
          case measure => simp [intOf]
        · go_wp2_with fail
          have hm' : ¬ m3 < bv := by omega
          go_roundw
          case rel => exact ⟨2, by omega, rfl, (unhide HBW).alloc (unhide HBW).size _, by simp; omega, (unhide HKM).alloc _, _, _, (unhide HKB).alloc _, Lib.hid (bestK_no 1 m1 m2 m3 m4 HX.out hm')⟩
          case measure => simp [intOf]
      by_cases hk2 : k = 2
      · subst hk2
        by_cases hm : m4 < bv
        · go_wp2_with fail
          go_roundw
          case rel =>
            refine ⟨3, by omega, rfl, ?_, by simp; omega, ?_, _, _, ?_, Lib.hid (bestK_yes 2 m1 m2 m3 m4 HX.out hm)⟩
            · repeat (with_reducible first | exact unhide HBW | refine Below.alloc ?_ (by simp; omega) _ | refine Below.setCell ?_ (by simp; omega) _)
            · repeat (with_reducible first | exact unhide HKM | refine Whole.alloc ?_ _ | refine Whole.putFar ?_ (by simp; omega) _)
            · exact (((unhide HKB).put 0 _).put 1 _).alloc _
          case measure => simp [intOf]
        · go_wp2_with fail
          have hm' : ¬ m4 < bv := by omega
          go_roundw
          case rel => exact ⟨3, by omega, rfl, (unhide HBW).alloc (unhide HBW).size _, by simp; omega, (unhide HKM).alloc _, _, _, (unhide HKB).alloc _, Lib.hid (bestK_no 2 m1 m2 m3 m4 HX.out hm')⟩
          case measure => simp [intOf]
      · obtain rfl : k = 3 := by omega
        go_wp2_with fail
        go_quiet (fail)
        go_wp2_with fail
        go_ret2
        have hx := HX.out
        rw [← E.out] at hx
        simp only [Prod.mk.injEq] at hx
        refine ⟨?_, below_drewN (unhide HBW) _⟩
        rw [← hx.1, ← hx.2]
        rfl
end Go.Proofs.Ytcdjljcmhbipiaa
