/- Walk: the reference's Rank. (printed by gen_rrank.py) -/
import Derived.Test.YtgbheogmccfaaaaGreatRankA
namespace Go.Proofs.YtgbheogmccfaaaaGreat
set_option linter.unusedVariables false
set_option linter.unusedSimpArgs false
open Go.RowKit

theorem src_whole {α : Type} (R : Rowing α) {w : World} {b : Nat} {t : TypeId} (x : α) (k : Whole w b t (R.cells x).toArray) : Src w R.sz (some ⟨b, 0, none⟩) 1 (R.cells x) :=
  ⟨by rw [R.len]; omega, fun _ => ⟨_, rfl, fun j u hj => by
    have h := k.cells j
    have e : (⟨b, 0, none⟩ : Addr).add j = ⟨b, j, none⟩ := by
      unfold Addr.add; split
      · rename_i h0; subst h0; rfl
      · simp
    rw [e, h]; simpa using hj⟩⟩
theorem whole_far {w w' : World} {b g : Nat} {t : TypeId} {cs : Array Value} (k : Whole w b t cs) (hg : w.grownBy w' (some g)) (hne : b ≠ g) : Whole w' b t cs :=
  (hg.block b k.lt (by intro e; injection e with e; exact hne e)).trans k
/-- the five cells of one -/
def At5 (x : Cl) (b p : Nat) (w : World) : Prop := w.cell? ⟨b, p, none⟩ = some (.string x.name) ∧ w.cell? ⟨b, p + 1, none⟩ = some (.string x.thing) ∧ w.cell? ⟨b, p + 2, none⟩ = some (.int .i64 x.right) ∧ w.cell? ⟨b, p + 3, none⟩ = some (.int .i64 x.day) ∧ w.cell? ⟨b, p + 4, none⟩ = some (.int .i64 x.amount)
theorem At5.keep {x : Cl} {b p B : Nat} {w w' : World} (h : At5 x b p w) (hb : b < B) (k : Below B w w') : At5 x b p w' := by
  obtain ⟨h0, h1, h2, h3, h4⟩ := h
  have e := fun q => old_cells k b q hb
  exact ⟨(e _).trans h0, (e _).trans h1, (e _).trans h2, (e _).trans h3, (e _).trans h4⟩
theorem at5_of {w : World} {B : Nat} {A : Option Addr} {xs : List Cl} (h : ListIn clR w B A xs) {i : Nat} {x : Cl} (hx : xs[i]? = some x) : ∃ b off, A = some ⟨b, off, none⟩ ∧ b < B ∧ At5 x b (off + i * 5) w := by
  obtain ⟨b, off, e, hb, c0, c1, c2, c3, c4⟩ := cl_at h hx
  exact ⟨b, off, e, hb, c0, c1, c2, c3, c4⟩

set_option maxHeartbeats 8000000 in
set_option maxRecDepth 100000 in
theorem RRank_any (xs : List Cl) (A : Option Addr) (n c : Nat) (w : World) (hn : n = xs.length) (hlen : n ≤ 4096) (hx : ListIn clR w w.heap.size A xs) :
    Calls Tryz.prog 17 #[.slice A n c] w fun e w' => ∃ A' c', e = .returned (.slice A' n c') ∧ n ≤ c' ∧ c' ≤ maxLen ∧ ListIn clR w' w'.heap.size A' (rankL xs) ∧ Below w.heap.size w w' := by
  obtain ⟨i0, hi0, hz0, hz1, hz2⟩ := info_parts info_cl
  have HI := hide (And.intro hi0 (And.intro hz0 (And.intro hz1 hz2)))
  have HN := hide hn; have HX := hide hx
  have HRB := hide (fun a b W => RBetter_any a b W)
  clear hn hx hi0 hz0 hz1 hz2
  go_enter Tryz.func17, Tryz.ntmps17
  go_wp2_with fail
  go_loopw [3, 4] (fun v i wr => ∃ (k : Nat) (A' : Option Addr) (c' : Nat), k ≤ n ∧ i = .int .i64 k ∧ v = .slice A' k c' ∧ k ≤ c' ∧ c' ≤ maxLen ∧ ListIn clR wr wr.heap.size A' (rankR (xs.take k)) ∧ Below w.heap.size w wr) (fun _ i _ => n - (intOf i).toNat)
  case atStart => exact ⟨0, _, _, by omega, rfl, rfl, by omega, by unfold maxLen; omega, ListIn.nil, (Below.refl _ _).alloc (Nat.le_refl _) _⟩
  case round =>
    obtain ⟨k, A', c', hk, rfl, rfl, hkc, hcm, hL, hbw⟩ := hrel
    obtain ⟨wo, rfl⟩ : ∃ wo : World, wo = wr := ⟨_, rfl⟩
    by_cases hlt : k < n
    · obtain ⟨x, hx⟩ : ∃ x, xs[k]? = some x := ⟨xs[k]'(by rw [← unhide HN]; exact hlt), List.getElem?_eq_getElem _⟩
      obtain ⟨b, off, rfl, hbb, hx5⟩ := at5_of (unhide HX) hx
      have HX5 := hide (fun W' (h : Below w.heap.size w W') => hx5.keep hbb h)
      have hkl : k = (rankR (xs.take k)).length := by rw [rankR_eq, rankL_length, List.length_take, ← unhide HN]; omega
      have hin := insAt_le x (rankR (xs.take k))
      have hil := insAt_lt x (rankR (xs.take k))
      rw [← hkl] at hin
      have hnx := rankR_take xs k x hx
      have HNX := hide hnx; have HKL := hide hkl; have HIL := hide hil; have HIN := hide hin
      have HL := hide hL; have HB := hide hbw; have HXK := hide hx
      have i1 : (0 : Int) ≤ (k : Int) := by omega
      have i2 : (k : Int) < (n : Int) := by omega
      unfold maxLen at hcm
      clear hx5 hkl hin hil hnx hL hbw hx hbb
      go_wp2_with fail
      go_loopw [5] (fun i wr => ∃ j : Nat, j ≤ insAt x (rankR (xs.take k)) ∧ i = .int .i64 j ∧ Below wo.heap.size wo wr) (fun i _ => insAt x (rankR (xs.take k)) - (intOf i).toNat)
      case atStart => exact ⟨0, Nat.zero_le _, rfl, Below.refl _ _⟩
      case round =>
        obtain ⟨j, hj, rfl, hbj⟩ := hrel
        obtain ⟨W0, rfl⟩ : ∃ W0 : World, W0 = wr := ⟨_, rfl⟩
        have hin := unhide HIN
        by_cases hjk : j < k
        · obtain ⟨y, hy⟩ : ∃ y, (rankR (xs.take k))[j]? = some y := ⟨(rankR (xs.take k))[j]'(by rw [← unhide HKL]; exact hjk), List.getElem?_eq_getElem _⟩
          obtain ⟨g, go, rfl, hgb, hy5⟩ := at5_of (unhide HL) hy
          have hyx := unhide HIL j y hy
          have HY5 := hide (fun W' (h : Below wo.heap.size wo W') => hy5.keep hgb h)
          have HBJ := hide hbj
          obtain ⟨x0, x1, x2, x3, x4⟩ := unhide HX5 _ (((unhide HB).trans (hbj.mono (unhide HB).size)).drew)
          obtain ⟨y0, y1, y2, y3, y4⟩ := unhide HY5 _ hbj.drew
          have H5 := hide (fun W' (h : Below wo.heap.size wo W') => And.intro (unhide HX5 W' ((unhide HB).trans (h.mono (unhide HB).size))) (unhide HY5 W' h))
          have HR := hide (fun W => unhide HRB y x W)
          have hle : leC y x = decide (clCmp y x ≤ 0) := rfl
          rw [hle] at hyx
          clear hle
          generalize clCmp y x = cc at *
          have j1 : (0 : Int) ≤ (j : Int) := by omega
          have j2 : (j : Int) < (k : Int) := by omega
          clear hbj hy5 hgb
          by_cases hcc : cc ≤ 0
          · have hjs : j + 1 ≤ insAt x (rankR (xs.take k)) := by
              rcases Nat.lt_or_ge j (insAt x (rankR (xs.take k))) with h | h
              · omega
              · have := hyx.2 (by omega)
                simp at this; omega
            have t0 : decide (-cc < 0) = false := by rw [decide_eq_false_iff_not]; omega
            have HY := hide hyx
            clear hyx hy
            go_wp2_with fail
            go_region_held3 (fun w' => w'.cell? ⟨b, off + k * 5, none⟩ = some (.string x.name) ∧ w'.cell? ⟨b, off + k * 5 + 1, none⟩ = some (.string x.thing) ∧ w'.cell? ⟨b, off + k * 5 + 2, none⟩ = some (.int .i64 x.right) ∧ w'.cell? ⟨b, off + k * 5 + 3, none⟩ = some (.int .i64 x.day) ∧ w'.cell? ⟨b, off + k * 5 + 4, none⟩ = some (.int .i64 x.amount) ∧ w'.cell? ⟨g, go + j * 5, none⟩ = some (.string y.name) ∧ w'.cell? ⟨g, go + j * 5 + 1, none⟩ = some (.string y.thing) ∧ w'.cell? ⟨g, go + j * 5 + 2, none⟩ = some (.int .i64 y.right) ∧ w'.cell? ⟨g, go + j * 5 + 3, none⟩ = some (.int .i64 y.day) ∧ w'.cell? ⟨g, go + j * 5 + 4, none⟩ = some (.int .i64 y.amount)) (first | (go_keep; done) | (obtain ⟨hxx, hyy⟩ := unhide H5 _ (unhide B6); obtain ⟨a0, a1, a2, a3, a4⟩ := hxx; obtain ⟨b0, b1, b2, b3, b4⟩ := hyy; exact ⟨a0, a1, a2, a3, a4, b0, b1, b2, b3, b4⟩))
              ((go_at_call 12; (with_reducible refine (unhide HR _).mono ?_); rintro e w6 ⟨rfl, hl6⟩; have B6 := hide ((unhide HBJ).drew.trans (hl6.1.mono (unhide HBJ).drew.size)); clear hl6))
            go_wp2_with fail
            go_roundw
            case rel => exact ⟨j + 1, hjs, by go_num, unhide B6⟩
            case measure => simp [intOf]; omega
          · have hjs : j = insAt x (rankR (xs.take k)) := by
              rcases Nat.lt_or_ge j (insAt x (rankR (xs.take k))) with h | h
              · have := hyx.1 h
                simp at this; omega
              · omega
            have t0 : decide (-cc < 0) = true := by rw [decide_eq_true_eq]; omega
            have HJ := hide hjs
            clear hyx hy hjs
            go_wp2_with fail
            go_region_held3 (fun w' => w'.cell? ⟨b, off + k * 5, none⟩ = some (.string x.name) ∧ w'.cell? ⟨b, off + k * 5 + 1, none⟩ = some (.string x.thing) ∧ w'.cell? ⟨b, off + k * 5 + 2, none⟩ = some (.int .i64 x.right) ∧ w'.cell? ⟨b, off + k * 5 + 3, none⟩ = some (.int .i64 x.day) ∧ w'.cell? ⟨b, off + k * 5 + 4, none⟩ = some (.int .i64 x.amount) ∧ w'.cell? ⟨g, go + j * 5, none⟩ = some (.string y.name) ∧ w'.cell? ⟨g, go + j * 5 + 1, none⟩ = some (.string y.thing) ∧ w'.cell? ⟨g, go + j * 5 + 2, none⟩ = some (.int .i64 y.right) ∧ w'.cell? ⟨g, go + j * 5 + 3, none⟩ = some (.int .i64 y.day) ∧ w'.cell? ⟨g, go + j * 5 + 4, none⟩ = some (.int .i64 y.amount)) (first | (go_keep; done) | (obtain ⟨hxx, hyy⟩ := unhide H5 _ (unhide B6); obtain ⟨a0, a1, a2, a3, a4⟩ := hxx; obtain ⟨b0, b1, b2, b3, b4⟩ := hyy; exact ⟨a0, a1, a2, a3, a4, b0, b1, b2, b3, b4⟩))
              ((go_at_call 12; (with_reducible refine (unhide HR _).mono ?_); rintro e w6 ⟨rfl, hl6⟩; have B6 := hide ((unhide HBJ).drew.trans (hl6.1.mono (unhide HBJ).drew.size)); clear hl6))
            clear x0 x1 x2 x3 x4 y0 y1 y2 y3 y4 t0
            have HLW := hide ((unhide HL).after (unhide B6))
            have HW0 := hide ((unhide HB).trans ((unhide B6).mono (unhide HB).size))
            have htk : j = ((rankR (xs.take k)).take j).length := by rw [List.length_take, ← unhide HKL]; omega
            have hdk : k - j = ((rankR (xs.take k)).drop j).length := by rw [List.length_drop, ← unhide HKL]
            have HTK := hide htk; have HDK := hide hdk
            clear htk hdk H5 HR HBJ B6 HY5
            obtain ⟨W0, rfl⟩ : ∃ W : World, W = w6 := ⟨_, rfl⟩
            obtain ⟨A', hA'⟩ : ∃ A' : Option Addr, A' = some ⟨g, go, none⟩ := ⟨_, rfl⟩
            rw [← hA'] at HLW ⊢
            clear hA' HL
            have hbW : Below w.heap.size w W0 := unhide HW0
            have hsz := hbW.size
            have hLW : ListIn clR W0 W0.heap.size A' (rankR (xs.take k)) := unhide HLW
            have ownA : (W0.drew.alloc (.cells #[] 23)).ownsRow W0.heap.size 23 5 (.slice (some ⟨W0.heap.size, 0, none⟩) 0 0) 0 [] := by
              have := World.ownsRow_lit (base := W0.heap.size) (e := 23) (size := 5) W0.drew #[] 0 (by simp <;> omega) (by unfold maxLen; omega) (by simp)
              simpa using this
            have srcA : Src (W0.drew.alloc (.cells #[] 23)) 5 A' j (((rankR (xs.take k)).take j).flatMap clR.cells) := ((hLW.drew.alloc _).take j).src_n (unhide HTK)
            have blA : Below W0.heap.size W0 (W0.drew.alloc (.cells #[] 23)) := (Below.refl _ _).drew.alloc (by simp) _
            have ownB : ((W0.drew.alloc (.cells #[] 23)).alloc (.cells #[.string x.name, .string x.thing, .int .i64 x.right, .int .i64 x.day, .int .i64 x.amount] 23)).ownsRow W0.heap.size 23 5 (.slice (some ⟨W0.heap.size, 0, none⟩) 0 0) 0 [] := by
              exact ownA.alloc _
            have srcB : Src ((W0.drew.alloc (.cells #[] 23)).alloc (.cells #[.string x.name, .string x.thing, .int .i64 x.right, .int .i64 x.day, .int .i64 x.amount] 23)) 5 A' j (((rankR (xs.take k)).take j).flatMap clR.cells) := (((hLW.drew.alloc _).alloc _).take j).src_n (unhide HTK)
            have blB : Below W0.heap.size W0 ((W0.drew.alloc (.cells #[] 23)).alloc (.cells #[.string x.name, .string x.thing, .int .i64 x.right, .int .i64 x.day, .int .i64 x.amount] 23)) := ((Below.refl _ _).drew.alloc (by simp) _).alloc (by simp <;> omega) _
            have ownC : ((W0.drew.alloc (.cells #[.string x.name, .string x.thing, .int .i64 x.right, .int .i64 x.day, .int .i64 x.amount] 23)).alloc (.cells #[] 23)).ownsRow W0.heap.size 23 5 (.slice (some ⟨W0.heap.size + 1, 0, none⟩) 0 0) 0 [] := by
              have := World.ownsRow_lit (base := W0.heap.size) (e := 23) (size := 5) (W0.drew.alloc (.cells #[.string x.name, .string x.thing, .int .i64 x.right, .int .i64 x.day, .int .i64 x.amount] 23)) #[] 0 (by simp <;> omega) (by unfold maxLen; omega) (by simp)
              simpa using this
            have srcC : Src ((W0.drew.alloc (.cells #[.string x.name, .string x.thing, .int .i64 x.right, .int .i64 x.day, .int .i64 x.amount] 23)).alloc (.cells #[] 23)) 5 A' j (((rankR (xs.take k)).take j).flatMap clR.cells) := (((hLW.drew.alloc _).alloc _).take j).src_n (unhide HTK)
            have blC : Below W0.heap.size W0 ((W0.drew.alloc (.cells #[.string x.name, .string x.thing, .int .i64 x.right, .int .i64 x.day, .int .i64 x.amount] 23)).alloc (.cells #[] 23)) := ((Below.refl _ _).drew.alloc (by simp) _).alloc (by simp <;> omega) _
            have kyB : Whole ((W0.drew.alloc (.cells #[] 23)).alloc (.cells #[.string x.name, .string x.thing, .int .i64 x.right, .int .i64 x.day, .int .i64 x.amount] 23)) (W0.heap.size + 1) 23 #[.string x.name, .string x.thing, .int .i64 x.right, .int .i64 x.day, .int .i64 x.amount] := Whole.made_at _ _ _ _ (by simp)
            have kyC : Whole ((W0.drew.alloc (.cells #[.string x.name, .string x.thing, .int .i64 x.right, .int .i64 x.day, .int .i64 x.amount] 23)).alloc (.cells #[] 23)) W0.heap.size 23 #[.string x.name, .string x.thing, .int .i64 x.right, .int .i64 x.day, .int .i64 x.amount] := (Whole.made_at W0.drew 23 _ _ (by simp)).alloc _
            have HA := hide (And.intro ownA (And.intro srcA blA))
            have HB := hide (And.intro ownB (And.intro srcB blB))
            have HC := hide (And.intro ownC (And.intro srcC blC))
            have HYB := hide kyB; have HYC := hide kyC
            have hcut := fun W h => ListIn.cut (R := clR) (w := W) (B := W.heap.size) (A := A') (xs := rankR (xs.take k)) (k := j) (cap := c') h (by rw [← unhide HKL]; exact hkc)
            obtain ⟨A2, hA2⟩ : ∃ A2, (if c' = j then A' else Option.map (fun x => x.add (j * 5)) A') = A2 := ⟨_, rfl⟩
            have hA3 := hA2
            have e5 : clR.sz = 5 := rfl
            rw [e5, hA2] at hcut
            have HCUT := hide hcut
            have hcx : At5 x b (off + k * 5) W0.drew := unhide HX5 _ hbW.drew
            have HCX := hide (fun W' (h : Below W0.heap.size W0 W') => unhide HX5 W' (hbW.trans (h.mono hbW.size)))
            have hj0 : (0 : Int) ≤ (j : Int) := by omega
            have hj1 : (j : Int) ≤ (k : Int) := by omega
            have hj2 : (k : Int) ≤ (c' : Int) := by omega
            have hj3 : (j : Int) ≤ (c' : Int) := by omega
            obtain ⟨x0, x1, x2, x3, x4⟩ := hcx
            have HSZ := hide hsz; have HBW := hide hbW
            clear hA3 ownA ownB ownC srcA srcB srcC blA blB blC kyB kyC hcut hLW hsz hbW e5
            go_wp2_with fail
            obtain ⟨hi0, hz0, hz1, hz2⟩ := unhide HI
            go_region_held3 (fun w' => w'.cell? ⟨b, off + k * 5, none⟩ = some (.string x.name) ∧ w'.cell? ⟨b, off + k * 5 + 1, none⟩ = some (.string x.thing) ∧ w'.cell? ⟨b, off + k * 5 + 2, none⟩ = some (.int .i64 x.right) ∧ w'.cell? ⟨b, off + k * 5 + 3, none⟩ = some (.int .i64 x.day) ∧ w'.cell? ⟨b, off + k * 5 + 4, none⟩ = some (.int .i64 x.amount)) (first | (go_keep; done) | exact unhide HCX _ ((Below.refl _ _).alloc (Nat.le_refl _) _).drew | exact unhide HCX _ (((Below.refl _ _).alloc (Nat.le_refl _) _).alloc (by simp) _).drew | exact unhide HCX _ ((Below.refl _ _).drew.alloc (by simp) _) | exact unhide HCX _ (((Below.refl _ _).drew.alloc (by simp) _).alloc (by simp <;> omega) _) | exact unhide HCX _ (unhide B6) | exact unhide HCX _ ((unhide B6).alloc (unhide B6).size _) | exact unhide HCX _ (unhide B7) | exact unhide HCX _ (unhide B8))
              ((first
                | (refine step_append_src _ (by rfl) (.tmp 35) (.tmp 38) 24 (by rfl) W0.heap.size 23 i0 _ 5 56 Tryz.underlying24 hi0 hz0 hz1 hz2 rfl (by omega) (by rfl) (unhide HA).1 (by rfl) (unhide HA).2.1 (rows_one clR _) (by unfold maxLen; omega) (by omega) (by simp <;> omega) ?_
                   intro v6 w6 own1 hg1 hat1
                   have hg1 : (W0.drew.alloc (.cells #[] 23)).grownBy w6 (some (W0.heap.size)) := hg1
                   have B6 := hide ((unhide HA).2.2.grown hg1 (unhide HA).2.2.size (fun j hj => by injection hj with hj; omega))
                   rw [Nat.zero_add, List.nil_append] at own1
                   have O1 := hide (own1.alloc (.cells #[.string x.name, .string x.thing, .int .i64 x.right, .int .i64 x.day, .int .i64 x.amount] 23))
                   have src2 : Src (w6.alloc (.cells #[.string x.name, .string x.thing, .int .i64 x.right, .int .i64 x.day, .int .i64 x.amount] 23)) 5 (some ⟨w6.heap.size, 0, none⟩) 1 [.string x.name, .string x.thing, .int .i64 x.right, .int .i64 x.day, .int .i64 x.amount] := src_new clR w6 x 23 _ rfl
                   have S2 := hide src2
                   clear own1 hg1 hat1 src2)
                | (refine step_append_src _ (by rfl) (.tmp 35) (.tmp 38) 24 (by rfl) W0.heap.size 23 i0 _ 5 56 Tryz.underlying24 hi0 hz0 hz1 hz2 rfl (by omega) (by rfl) (unhide HB).1 (by rfl) (unhide HB).2.1 (rows_one clR _) (by unfold maxLen; omega) (by omega) (by simp <;> omega) ?_
                   intro v6 w6 own1 hg1 hat1
                   have hg1 : ((W0.drew.alloc (.cells #[] 23)).alloc (.cells #[.string x.name, .string x.thing, .int .i64 x.right, .int .i64 x.day, .int .i64 x.amount] 23)).grownBy w6 (some (W0.heap.size)) := hg1
                   have B6 := hide ((unhide HB).2.2.grown hg1 (unhide HB).2.2.size (fun j hj => by injection hj with hj; omega))
                   rw [Nat.zero_add, List.nil_append] at own1
                   have O1 := hide own1
                   have src2 : Src w6 5 (some ⟨W0.heap.size + 1, 0, none⟩) 1 [.string x.name, .string x.thing, .int .i64 x.right, .int .i64 x.day, .int .i64 x.amount] := src_whole clR x (whole_far (unhide HYB) hg1 (by omega))
                   have S2 := hide src2
                   clear own1 hg1 hat1 src2)
                | (refine step_append_src _ (by rfl) (.tmp 35) (.tmp 38) 24 (by rfl) W0.heap.size 23 i0 _ 5 56 Tryz.underlying24 hi0 hz0 hz1 hz2 rfl (by omega) (by rfl) (unhide HC).1 (by rfl) (unhide HC).2.1 (rows_one clR _) (by unfold maxLen; omega) (by omega) (by simp <;> omega) ?_
                   intro v6 w6 own1 hg1 hat1
                   have hg1 : ((W0.drew.alloc (.cells #[.string x.name, .string x.thing, .int .i64 x.right, .int .i64 x.day, .int .i64 x.amount] 23)).alloc (.cells #[] 23)).grownBy w6 (some (W0.heap.size + 1)) := hg1
                   have B6 := hide ((unhide HC).2.2.grown hg1 (unhide HC).2.2.size (fun j hj => by injection hj with hj; omega))
                   rw [Nat.zero_add, List.nil_append] at own1
                   have O1 := hide own1
                   have src2 : Src w6 5 (some ⟨W0.heap.size, 0, none⟩) 1 [.string x.name, .string x.thing, .int .i64 x.right, .int .i64 x.day, .int .i64 x.amount] := src_whole clR x (whole_far (unhide HYC) hg1 (by omega))
                   have S2 := hide src2
                   clear own1 hg1 hat1 src2)
                | (refine step_append_src _ (by rfl) (.tmp 39) (.tmp 44) 24 (by rfl) W0.heap.size 23 i0 _ 5 56 Tryz.underlying24 hi0 hz0 hz1 hz2 rfl (by omega) (by rfl) (unhide O1) (by rfl) (unhide S2) (rows_one clR [x]) (by unfold maxLen; omega) (by omega) (by have := (unhide B6).size; first | omega | (simp; omega)) ?_
                   intro v7 w7 own2 hg2 hat2
                   have b7 : Below W0.heap.size W0 w7 := by first | exact below_grown (unhide B6) (unhide O1) (Nat.le_refl _) hg2 | exact below_grown ((unhide B6).alloc (unhide B6).size _) (unhide O1) (Nat.le_refl _) hg2
                   have src3 := ((unhide HCUT) w7 ((unhide HLW).after b7)).src_n (unhide HDK)
                   have B7 := hide b7; have O2 := hide own2; have S3 := hide src3
                   clear own2 hg2 hat2 b7 src3)
                | (refine step_append_src _ (by rfl) (.tmp 45) (.tmp 48) 24 (by rfl) W0.heap.size 23 i0 _ 5 56 Tryz.underlying24 hi0 hz0 hz1 hz2 rfl (by omega) (by rfl) (unhide O2) (by rfl) (unhide S3) (rows_one clR _) (by unfold maxLen; omega) (by omega) (by have := (unhide B7).size; omega) ?_
                   intro v8 w8 own3 hg3 hat3
                   have b8 := below_grown (unhide B7) (unhide O2) (Nat.le_refl _) hg3
                   have e8 : j + 1 + (k - j) = k + 1 := by omega
                   have e9 : (insL (rankR (xs.take k)) x).flatMap clR.cells = ((rankR (xs.take k)).take j).flatMap clR.cells ++ clR.cells x ++ ((rankR (xs.take k)).drop j).flatMap clR.cells := by unfold insL; rw [← unhide HJ]; simp
                   have own4 : w8.ownsRow W0.heap.size 23 clR.sz v8 (k + 1) ((rankR (xs.take (k + 1))).flatMap clR.cells) := by rw [unhide HNX, e9, ← e8]; exact own3
                   obtain ⟨A8, c8, rfl, hc8, hm8, -, hL8⟩ := list_of_own own4
                   have B8 := hide b8; have F8 := hide (And.intro hm8 hL8)
                   clear own3 own4 hg3 hat3 b8 hL8 hm8 e8 e9)))
            all_goals
              clear x0 x1 x2 x3 x4 hi0 hz0 hz1 hz2
              go_wp2_with fail
              go_roundw
              case rel => exact ⟨k + 1, _, _, by omega, by go_num, rfl, hc8, (unhide F8).1, (unhide F8).2, (unhide HBW).trans ((unhide B8).mono (unhide HSZ))⟩
              case measure => simp [intOf]; omega
        · have hjs : j = insAt x (rankR (xs.take k)) := by omega
          have HJ := hide hjs
          have HLW := hide ((unhide HL).after hbj)
          have HW0 := hide ((unhide HB).trans (hbj.mono (unhide HB).size))
          have htk : j = ((rankR (xs.take k)).take j).length := by rw [List.length_take, ← unhide HKL]; omega
          have hdk : k - j = ((rankR (xs.take k)).drop j).length := by rw [List.length_drop, ← unhide HKL]
          have HTK := hide htk; have HDK := hide hdk
          have t0 : decide ((j : Int) < (k : Int)) = false := by rw [decide_eq_false_iff_not]; omega
          have hjk : j ≤ k := by omega
          clear htk hdk hbj hjs
          have hbW : Below w.heap.size w W0 := unhide HW0
          have hsz := hbW.size
          have hLW : ListIn clR W0 W0.heap.size A' (rankR (xs.take k)) := unhide HLW
          have ownA : (W0.drew.alloc (.cells #[] 23)).ownsRow W0.heap.size 23 5 (.slice (some ⟨W0.heap.size, 0, none⟩) 0 0) 0 [] := by
            have := World.ownsRow_lit (base := W0.heap.size) (e := 23) (size := 5) W0.drew #[] 0 (by simp <;> omega) (by unfold maxLen; omega) (by simp)
            simpa using this
          have srcA : Src (W0.drew.alloc (.cells #[] 23)) 5 A' j (((rankR (xs.take k)).take j).flatMap clR.cells) := ((hLW.drew.alloc _).take j).src_n (unhide HTK)
          have blA : Below W0.heap.size W0 (W0.drew.alloc (.cells #[] 23)) := (Below.refl _ _).drew.alloc (by simp) _
          have ownB : ((W0.drew.alloc (.cells #[] 23)).alloc (.cells #[.string x.name, .string x.thing, .int .i64 x.right, .int .i64 x.day, .int .i64 x.amount] 23)).ownsRow W0.heap.size 23 5 (.slice (some ⟨W0.heap.size, 0, none⟩) 0 0) 0 [] := by
            exact ownA.alloc _
          have srcB : Src ((W0.drew.alloc (.cells #[] 23)).alloc (.cells #[.string x.name, .string x.thing, .int .i64 x.right, .int .i64 x.day, .int .i64 x.amount] 23)) 5 A' j (((rankR (xs.take k)).take j).flatMap clR.cells) := (((hLW.drew.alloc _).alloc _).take j).src_n (unhide HTK)
          have blB : Below W0.heap.size W0 ((W0.drew.alloc (.cells #[] 23)).alloc (.cells #[.string x.name, .string x.thing, .int .i64 x.right, .int .i64 x.day, .int .i64 x.amount] 23)) := ((Below.refl _ _).drew.alloc (by simp) _).alloc (by simp <;> omega) _
          have ownC : ((W0.drew.alloc (.cells #[.string x.name, .string x.thing, .int .i64 x.right, .int .i64 x.day, .int .i64 x.amount] 23)).alloc (.cells #[] 23)).ownsRow W0.heap.size 23 5 (.slice (some ⟨W0.heap.size + 1, 0, none⟩) 0 0) 0 [] := by
            have := World.ownsRow_lit (base := W0.heap.size) (e := 23) (size := 5) (W0.drew.alloc (.cells #[.string x.name, .string x.thing, .int .i64 x.right, .int .i64 x.day, .int .i64 x.amount] 23)) #[] 0 (by simp <;> omega) (by unfold maxLen; omega) (by simp)
            simpa using this
          have srcC : Src ((W0.drew.alloc (.cells #[.string x.name, .string x.thing, .int .i64 x.right, .int .i64 x.day, .int .i64 x.amount] 23)).alloc (.cells #[] 23)) 5 A' j (((rankR (xs.take k)).take j).flatMap clR.cells) := (((hLW.drew.alloc _).alloc _).take j).src_n (unhide HTK)
          have blC : Below W0.heap.size W0 ((W0.drew.alloc (.cells #[.string x.name, .string x.thing, .int .i64 x.right, .int .i64 x.day, .int .i64 x.amount] 23)).alloc (.cells #[] 23)) := ((Below.refl _ _).drew.alloc (by simp) _).alloc (by simp <;> omega) _
          have kyB : Whole ((W0.drew.alloc (.cells #[] 23)).alloc (.cells #[.string x.name, .string x.thing, .int .i64 x.right, .int .i64 x.day, .int .i64 x.amount] 23)) (W0.heap.size + 1) 23 #[.string x.name, .string x.thing, .int .i64 x.right, .int .i64 x.day, .int .i64 x.amount] := Whole.made_at _ _ _ _ (by simp)
          have kyC : Whole ((W0.drew.alloc (.cells #[.string x.name, .string x.thing, .int .i64 x.right, .int .i64 x.day, .int .i64 x.amount] 23)).alloc (.cells #[] 23)) W0.heap.size 23 #[.string x.name, .string x.thing, .int .i64 x.right, .int .i64 x.day, .int .i64 x.amount] := (Whole.made_at W0.drew 23 _ _ (by simp)).alloc _
          have HA := hide (And.intro ownA (And.intro srcA blA))
          have HB := hide (And.intro ownB (And.intro srcB blB))
          have HC := hide (And.intro ownC (And.intro srcC blC))
          have HYB := hide kyB; have HYC := hide kyC
          have hcut := fun W h => ListIn.cut (R := clR) (w := W) (B := W.heap.size) (A := A') (xs := rankR (xs.take k)) (k := j) (cap := c') h (by rw [← unhide HKL]; exact hkc)
          obtain ⟨A2, hA2⟩ : ∃ A2, (if c' = j then A' else Option.map (fun x => x.add (j * 5)) A') = A2 := ⟨_, rfl⟩
          have hA3 := hA2
          have e5 : clR.sz = 5 := rfl
          rw [e5, hA2] at hcut
          have HCUT := hide hcut
          have hcx : At5 x b (off + k * 5) W0.drew := unhide HX5 _ hbW.drew
          have HCX := hide (fun W' (h : Below W0.heap.size W0 W') => unhide HX5 W' (hbW.trans (h.mono hbW.size)))
          have hj0 : (0 : Int) ≤ (j : Int) := by omega
          have hj1 : (j : Int) ≤ (k : Int) := by omega
          have hj2 : (k : Int) ≤ (c' : Int) := by omega
          have hj3 : (j : Int) ≤ (c' : Int) := by omega
          obtain ⟨x0, x1, x2, x3, x4⟩ := hcx
          have HSZ := hide hsz; have HBW := hide hbW
          clear hA3 ownA ownB ownC srcA srcB srcC blA blB blC kyB kyC hcut hLW hsz hbW e5
          go_wp2_with fail
          obtain ⟨hi0, hz0, hz1, hz2⟩ := unhide HI
          go_region_held3 (fun w' => w'.cell? ⟨b, off + k * 5, none⟩ = some (.string x.name) ∧ w'.cell? ⟨b, off + k * 5 + 1, none⟩ = some (.string x.thing) ∧ w'.cell? ⟨b, off + k * 5 + 2, none⟩ = some (.int .i64 x.right) ∧ w'.cell? ⟨b, off + k * 5 + 3, none⟩ = some (.int .i64 x.day) ∧ w'.cell? ⟨b, off + k * 5 + 4, none⟩ = some (.int .i64 x.amount)) (first | (go_keep; done) | exact unhide HCX _ ((Below.refl _ _).alloc (Nat.le_refl _) _).drew | exact unhide HCX _ (((Below.refl _ _).alloc (Nat.le_refl _) _).alloc (by simp) _).drew | exact unhide HCX _ ((Below.refl _ _).drew.alloc (by simp) _) | exact unhide HCX _ (((Below.refl _ _).drew.alloc (by simp) _).alloc (by simp <;> omega) _) | exact unhide HCX _ (unhide B6) | exact unhide HCX _ ((unhide B6).alloc (unhide B6).size _) | exact unhide HCX _ (unhide B7) | exact unhide HCX _ (unhide B8))
            ((first
              | (refine step_append_src _ (by rfl) (.tmp 35) (.tmp 38) 24 (by rfl) W0.heap.size 23 i0 _ 5 56 Tryz.underlying24 hi0 hz0 hz1 hz2 rfl (by omega) (by rfl) (unhide HA).1 (by rfl) (unhide HA).2.1 (rows_one clR _) (by unfold maxLen; omega) (by omega) (by simp <;> omega) ?_
                 intro v6 w6 own1 hg1 hat1
                 have hg1 : (W0.drew.alloc (.cells #[] 23)).grownBy w6 (some (W0.heap.size)) := hg1
                 have B6 := hide ((unhide HA).2.2.grown hg1 (unhide HA).2.2.size (fun j hj => by injection hj with hj; omega))
                 rw [Nat.zero_add, List.nil_append] at own1
                 have O1 := hide (own1.alloc (.cells #[.string x.name, .string x.thing, .int .i64 x.right, .int .i64 x.day, .int .i64 x.amount] 23))
                 have src2 : Src (w6.alloc (.cells #[.string x.name, .string x.thing, .int .i64 x.right, .int .i64 x.day, .int .i64 x.amount] 23)) 5 (some ⟨w6.heap.size, 0, none⟩) 1 [.string x.name, .string x.thing, .int .i64 x.right, .int .i64 x.day, .int .i64 x.amount] := src_new clR w6 x 23 _ rfl
                 have S2 := hide src2
                 clear own1 hg1 hat1 src2)
              | (refine step_append_src _ (by rfl) (.tmp 35) (.tmp 38) 24 (by rfl) W0.heap.size 23 i0 _ 5 56 Tryz.underlying24 hi0 hz0 hz1 hz2 rfl (by omega) (by rfl) (unhide HB).1 (by rfl) (unhide HB).2.1 (rows_one clR _) (by unfold maxLen; omega) (by omega) (by simp <;> omega) ?_
                 intro v6 w6 own1 hg1 hat1
                 have hg1 : ((W0.drew.alloc (.cells #[] 23)).alloc (.cells #[.string x.name, .string x.thing, .int .i64 x.right, .int .i64 x.day, .int .i64 x.amount] 23)).grownBy w6 (some (W0.heap.size)) := hg1
                 have B6 := hide ((unhide HB).2.2.grown hg1 (unhide HB).2.2.size (fun j hj => by injection hj with hj; omega))
                 rw [Nat.zero_add, List.nil_append] at own1
                 have O1 := hide own1
                 have src2 : Src w6 5 (some ⟨W0.heap.size + 1, 0, none⟩) 1 [.string x.name, .string x.thing, .int .i64 x.right, .int .i64 x.day, .int .i64 x.amount] := src_whole clR x (whole_far (unhide HYB) hg1 (by omega))
                 have S2 := hide src2
                 clear own1 hg1 hat1 src2)
              | (refine step_append_src _ (by rfl) (.tmp 35) (.tmp 38) 24 (by rfl) W0.heap.size 23 i0 _ 5 56 Tryz.underlying24 hi0 hz0 hz1 hz2 rfl (by omega) (by rfl) (unhide HC).1 (by rfl) (unhide HC).2.1 (rows_one clR _) (by unfold maxLen; omega) (by omega) (by simp <;> omega) ?_
                 intro v6 w6 own1 hg1 hat1
                 have hg1 : ((W0.drew.alloc (.cells #[.string x.name, .string x.thing, .int .i64 x.right, .int .i64 x.day, .int .i64 x.amount] 23)).alloc (.cells #[] 23)).grownBy w6 (some (W0.heap.size + 1)) := hg1
                 have B6 := hide ((unhide HC).2.2.grown hg1 (unhide HC).2.2.size (fun j hj => by injection hj with hj; omega))
                 rw [Nat.zero_add, List.nil_append] at own1
                 have O1 := hide own1
                 have src2 : Src w6 5 (some ⟨W0.heap.size, 0, none⟩) 1 [.string x.name, .string x.thing, .int .i64 x.right, .int .i64 x.day, .int .i64 x.amount] := src_whole clR x (whole_far (unhide HYC) hg1 (by omega))
                 have S2 := hide src2
                 clear own1 hg1 hat1 src2)
              | (refine step_append_src _ (by rfl) (.tmp 39) (.tmp 44) 24 (by rfl) W0.heap.size 23 i0 _ 5 56 Tryz.underlying24 hi0 hz0 hz1 hz2 rfl (by omega) (by rfl) (unhide O1) (by rfl) (unhide S2) (rows_one clR [x]) (by unfold maxLen; omega) (by omega) (by have := (unhide B6).size; first | omega | (simp; omega)) ?_
                 intro v7 w7 own2 hg2 hat2
                 have b7 : Below W0.heap.size W0 w7 := by first | exact below_grown (unhide B6) (unhide O1) (Nat.le_refl _) hg2 | exact below_grown ((unhide B6).alloc (unhide B6).size _) (unhide O1) (Nat.le_refl _) hg2
                 have src3 := ((unhide HCUT) w7 ((unhide HLW).after b7)).src_n (unhide HDK)
                 have B7 := hide b7; have O2 := hide own2; have S3 := hide src3
                 clear own2 hg2 hat2 b7 src3)
              | (refine step_append_src _ (by rfl) (.tmp 45) (.tmp 48) 24 (by rfl) W0.heap.size 23 i0 _ 5 56 Tryz.underlying24 hi0 hz0 hz1 hz2 rfl (by omega) (by rfl) (unhide O2) (by rfl) (unhide S3) (rows_one clR _) (by unfold maxLen; omega) (by omega) (by have := (unhide B7).size; omega) ?_
                 intro v8 w8 own3 hg3 hat3
                 have b8 := below_grown (unhide B7) (unhide O2) (Nat.le_refl _) hg3
                 have e8 : j + 1 + (k - j) = k + 1 := by omega
                 have e9 : (insL (rankR (xs.take k)) x).flatMap clR.cells = ((rankR (xs.take k)).take j).flatMap clR.cells ++ clR.cells x ++ ((rankR (xs.take k)).drop j).flatMap clR.cells := by unfold insL; rw [← unhide HJ]; simp
                 have own4 : w8.ownsRow W0.heap.size 23 clR.sz v8 (k + 1) ((rankR (xs.take (k + 1))).flatMap clR.cells) := by rw [unhide HNX, e9, ← e8]; exact own3
                 obtain ⟨A8, c8, rfl, hc8, hm8, -, hL8⟩ := list_of_own own4
                 have B8 := hide b8; have F8 := hide (And.intro hm8 hL8)
                 clear own3 own4 hg3 hat3 b8 hL8 hm8 e8 e9)))
          all_goals
            clear x0 x1 x2 x3 x4 hi0 hz0 hz1 hz2
            go_wp2_with fail
            go_roundw
            case rel => exact ⟨k + 1, _, _, by omega, by go_num, rfl, hc8, (unhide F8).1, (unhide F8).2, (unhide HBW).trans ((unhide B8).mono (unhide HSZ))⟩
            case measure => simp [intOf]; omega
    · have hkn : k = n := by omega
      subst hkn
      have hfin : rankR (xs.take k) = rankL xs := by rw [rankR_eq, List.take_of_length_le (by rw [← unhide HN]; omega)]
      rw [hfin] at hL
      have HL := hide hL; have HB := hide hbw
      clear hL hbw hfin
      go_wp2_with fail
      go_ret
      exact ⟨_, _, rfl, hkc, hcm, unhide HL, unhide HB⟩
end Go.Proofs.YtgbheogmccfaaaaGreat
