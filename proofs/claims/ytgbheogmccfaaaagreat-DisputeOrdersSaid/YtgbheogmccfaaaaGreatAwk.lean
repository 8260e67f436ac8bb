/- Walk: the law's example. -/
import Derived.Test.YtgbheogmccfaaaaGreatAwdB
import Derived.Test.YtgbheogmccfaaaaGreatMnR
namespace Go.Proofs.YtgbheogmccfaaaaGreat
set_option linter.unusedVariables false
set_option linter.unusedSimpArgs false
open Go.RowKit Go.Maps

abbrev tA : ByteArray := ⟨#[97]⟩
abbrev tB : ByteArray := ⟨#[98]⟩
abbrev tC : ByteArray := ⟨#[99]⟩
abbrev tX : ByteArray := ⟨#[120]⟩
abbrev tY : ByteArray := ⟨#[121]⟩
abbrev c1 : Cl := ⟨tA, tX, 1, 0, 4⟩
abbrev c2 : Cl := ⟨tB, tX, 4, 0, 6⟩
abbrev c3 : Cl := ⟨tC, tY, 4, 0, 6⟩
abbrev exCl : List Cl := [c1, c2, c3]
theorem ex_rounds : (roundsM 10 exCl 5).1 = [4, 3, 3] := by decide +kernel
theorem ex_pot : potM 10 exCl 5 = 0 := by decide +kernel
theorem ex_ok : OkL exCl := ⟨by decide +kernel, by decide⟩
theorem ex_txt : ∀ x ∈ exCl, Txt x := by
  intro x hx
  simp at hx
  rcases hx with rfl | rfl | rfl <;> exact ⟨by decide +kernel, by decide +kernel⟩
theorem ex_why : whyC c1 c2 = txRight := by decide +kernel
theorem ex_rank : rankL exCl = [c1, c2, c3] := by
  refine List.Perm.eq_of_pairwise (le := fun a b => leC a b = true) (fun a b _ _ h1 h2 => leC_antisymm h1 h2) (rankL_sorted _) (by decide +kernel) (List.mergeSort_perm _ _)
theorem ex_awards : AwardsOf exCl [(tX, tA), (tY, tC)] := by
  refine ⟨by decide +kernel, fun t n => ?_⟩
  constructor
  · intro h
    simp at h
    rcases h with ⟨rfl, rfl⟩ | ⟨rfl, rfl⟩
    · exact ⟨c1, (wins_find _ _ _).1 (by rw [ex_rank]; kernel_rfl), rfl⟩
    · exact ⟨c3, (wins_find _ _ _).1 (by rw [ex_rank]; kernel_rfl), rfl⟩
  · rintro ⟨c, hw, rfl⟩
    have h := (wins_find _ _ _).2 hw
    rw [ex_rank] at h
    have hx := hw.2.1
    have hm := hw.1
    simp at hm
    rcases hm with rfl | rfl | rfl
    · subst hx; simp
    · subst hx
      have e : ([c1, c2, c3].find? (ofThing c2.thing)) = some c1 := by kernel_rfl
      rw [e] at h
      simp at h
    · subst hx; simp

set_option maxHeartbeats 4000000 in
set_option maxRecDepth 100000 in
theorem awake_any (w : World) : Calls Tryz.prog 10 #[] w fun e w' => e = .returned (.bool true) ∧ Below w.heap.size w w' := by
  have hl : ListIn clR (w.alloc (.cells #[.string tA, .string tX, .int .i64 1, .int .i64 0, .int .i64 4, .string tB, .string tX, .int .i64 4, .int .i64 0, .int .i64 6, .string tC, .string tY, .int .i64 4, .int .i64 0, .int .i64 6] 23)) (w.alloc (.cells #[.string tA, .string tX, .int .i64 1, .int .i64 0, .int .i64 4, .string tB, .string tX, .int .i64 4, .int .i64 0, .int .i64 6, .string tC, .string tY, .int .i64 4, .int .i64 0, .int .i64 6] 23)).heap.size (some ⟨w.heap.size, 0, none⟩) exCl :=
    list_made clR w _ rfl 23 exCl
  have hwh := Whole.made w 23 #[.string tA, .string tX, .int .i64 1, .int .i64 0, .int .i64 4, .string tB, .string tX, .int .i64 4, .int .i64 0, .int .i64 6, .string tC, .string tY, .int .i64 4, .int .i64 0, .int .i64 6]
  have hb0 := (Below.refl w.heap.size w).alloc (Nat.le_refl _) (.cells #[.string tA, .string tX, .int .i64 1, .int .i64 0, .int .i64 4, .string tB, .string tX, .int .i64 4, .int .i64 0, .int .i64 6, .string tC, .string tY, .int .i64 4, .int .i64 0, .int .i64 6] 23)
  have h1 : Calls Tryz.prog 18 #[.int .i64 10, .slice (some ⟨w.heap.size, 0, none⟩) 3 3] _ _ := Money_ok exCl _ 3 3 10 _ rfl ex_ok ex_txt (by omega) hl
  rw [ex_rounds, ex_pot] at h1
  have H0 := hide (And.intro hl (And.intro hwh hb0))
  have H1 := hide h1
  clear h1 hl hwh hb0
  go_enter Tryz.func10, Tryz.ntmps10
  go_wp2_with fail
  (with_reducible refine (unhide H1).mono ?_); rintro e w1 ⟨p, rfl, hp, hb⟩
  have hl1 := (unhide H0).1.after hb
  have hw1 := (unhide H0).2.1.after hb
  have hb1 := (unhide H0).2.2.trans (hb.mono (by simp))
  have H2 := hide (And.intro hl1 (And.intro hw1 (And.intro hb1 hp)))
  clear hl1 hw1 hb1 hb hp H1 H0
  go_wp2_with fail
  (with_reducible refine (Award_ok exCl _ 3 3 _ rfl ex_ok ex_txt (unhide H2).1).mono ?_); rintro e w2 ⟨v, a, rfl, ha, _, own, hb⟩
  obtain rfl : a = [(tX, tA), (tY, tC)] := ha.same (fun _ => Iff.rfl) ex_awards
  obtain ⟨A2, c2, hv, hc2, _, _, hL2⟩ := list_of_own own
  have hv : v = .slice A2 2 c2 := hv
  subst hv
  have hl3 := (unhide H2).1.after hb
  have hw3 := (unhide H2).2.1.after hb
  have hb3 := (unhide H2).2.2.1.trans (hb.mono (unhide H2).2.2.1.size)
  have hp3 := (unhide H2).2.2.2.after hb
  have H3 := hide (And.intro hl3 (And.intro hw3 (And.intro hb3 (And.intro hp3 hL2))))
  clear hl3 hw3 hb3 hp3 hL2 hb ha own H2
  go_wp2_with fail
  have hk : ∀ w' : World, Below w2.heap.size w2 w' → (w'.cell? ⟨w.heap.size, 0, none⟩ = some (.string ⟨#[97]⟩) ∧ w'.cell? ⟨w.heap.size, 1, none⟩ = some (.string ⟨#[120]⟩) ∧ w'.cell? ⟨w.heap.size, 2, none⟩ = some (.int .i64 1) ∧ w'.cell? ⟨w.heap.size, 3, none⟩ = some (.int .i64 0) ∧ w'.cell? ⟨w.heap.size, 4, none⟩ = some (.int .i64 4) ∧ w'.cell? ⟨w.heap.size, 5, none⟩ = some (.string ⟨#[98]⟩) ∧ w'.cell? ⟨w.heap.size, 6, none⟩ = some (.string ⟨#[120]⟩) ∧ w'.cell? ⟨w.heap.size, 7, none⟩ = some (.int .i64 4) ∧ w'.cell? ⟨w.heap.size, 8, none⟩ = some (.int .i64 0) ∧ w'.cell? ⟨w.heap.size, 9, none⟩ = some (.int .i64 6)) := fun w' hb => by
    have k := ((unhide H3).2.1.after hb).cells
    exact ⟨k 0, k 1, k 2, k 3, k 4, k 5, k 6, k 7, k 8, k 9⟩
  have hs : ∀ W : World, Below w2.heap.size w2 W → Calls Tryz.prog 21 #[.slice (some ⟨p, 0, none⟩) 3 3, .slice (some ⟨W.heap.size, 0, none⟩) 3 3] (W.alloc (.cells #[.int .i64 4, .int .i64 3, .int .i64 3] 2)) fun e w' => e = .returned (.bool true) ∧ Below w2.heap.size w2 w' := fun W hW => by
    have kp := ((unhide H3).2.2.2.1.after hW).alloc (.cells #[.int .i64 4, .int .i64 3, .int .i64 3] 2)
    have hx : ListIn (numR .i64) (W.alloc (.cells #[.int .i64 4, .int .i64 3, .int .i64 3] 2)) (W.alloc (.cells #[.int .i64 4, .int .i64 3, .int .i64 3] 2)).heap.size (some ⟨p, 0, none⟩) [4, 3, 3] :=
      list_of_cells kp.lt fun j u hj => by rw [kp.cells]; simpa [numR, numA] using hj
    have hy : ListIn (numR .i64) (W.alloc (.cells #[.int .i64 4, .int .i64 3, .int .i64 3] 2)) (W.alloc (.cells #[.int .i64 4, .int .i64 3, .int .i64 3] 2)).heap.size (some ⟨W.heap.size, 0, none⟩) [4, 3, 3] := list_made (numR .i64) W _ rfl 2 [4, 3, 3]
    exact (RSame_same [4, 3, 3] _ _ 3 3 3 _ rfl (by omega) hx hy).mono fun e w' ⟨he, hl⟩ => ⟨he, (hW.alloc hW.size _).trans (hl.1.mono (by have := hW.size; simp; omega))⟩
  have ha : ∀ W : World, Below w2.heap.size w2 W → Calls Tryz.prog 23 #[.slice A2 2 c2, .slice (some ⟨W.heap.size, 0, none⟩) 2 2] (W.alloc (.cells #[.string ⟨#[120]⟩, .string ⟨#[97]⟩, .string ⟨#[121]⟩, .string ⟨#[99]⟩] 49)) fun e w' => e = .returned (.bool true) ∧ Below w2.heap.size w2 w' := fun W hW => by
    have hx := ((unhide H3).2.2.2.2.after hW).alloc (.cells #[.string ⟨#[120]⟩, .string ⟨#[97]⟩, .string ⟨#[121]⟩, .string ⟨#[99]⟩] 49)
    have hy : ListIn awR (W.alloc (.cells #[.string ⟨#[120]⟩, .string ⟨#[97]⟩, .string ⟨#[121]⟩, .string ⟨#[99]⟩] 49)) (W.alloc (.cells #[.string ⟨#[120]⟩, .string ⟨#[97]⟩, .string ⟨#[121]⟩, .string ⟨#[99]⟩] 49)).heap.size (some ⟨W.heap.size, 0, none⟩) [(tX, tA), (tY, tC)] := list_made awR W _ rfl 49 [(tX, tA), (tY, tC)]
    exact (Awards_same [(tX, tA), (tY, tC)] _ _ 2 c2 2 _ rfl (by omega) hx hy).mono fun e w' ⟨he, hl⟩ => ⟨he, (hW.alloc hW.size _).trans (hl.1.mono (by have := hW.size; simp; omega))⟩
  have hy : ∀ W : World, Below w2.heap.size w2 W → Calls Tryz.prog 14 #[.agg #[.string ⟨#[97]⟩, .string ⟨#[120]⟩, .int .i64 1, .int .i64 0, .int .i64 4], .agg #[.string ⟨#[98]⟩, .string ⟨#[120]⟩, .int .i64 4, .int .i64 0, .int .i64 6]] W fun e w' => e = .returned (.string ⟨#[114, 105, 103, 104, 116]⟩) ∧ Below w2.heap.size w2 w' := fun W hW => by
    have h := Why_any c1 Go.Proofs.YtgbheogmccfaaaaGreat.c2 W
    rw [ex_why] at h
    exact h.mono fun e w' ⟨he, hl⟩ => ⟨he, hW.trans (hl.1.mono hW.size)⟩
  have hr : ∀ W : World, Below w2.heap.size w2 W → Calls Tryz.prog 16 #[.slice (some ⟨w.heap.size, 0, none⟩) 3 3] W fun e w' => ∃ A c, e = .returned (.slice A 3 c) ∧ Below w2.heap.size w2 w' := fun W hW => by
    refine (Rank_any exCl _ 3 3 W rfl (by omega) ((unhide H3).1.after hW)).mono ?_
    rintro e w' ⟨v, rfl, own, hb⟩
    obtain ⟨A, c, hv, _⟩ := list_of_own own
    exact ⟨A, c, by rw [hv], hW.trans (hb.mono hW.size)⟩
  have HK := hide hk; have HS := hide hs; have HA := hide ha; have HY := hide hy; have HR := hide hr
  have HB0 := hide (unhide H3).2.2.1
  have hws : w.heap.size < w2.heap.size := (unhide H3).2.1.lt
  have e0 := (hk w2 (Below.refl _ _))
  obtain ⟨e0, e1, e2, e3, e4, e5, e6, e7, e8, e9⟩ := e0
  clear hk hs ha hy hr H3
  go_region_held3 (fun w' => w'.cell? ⟨w.heap.size, 0, none⟩ = some (.string ⟨#[97]⟩) ∧ w'.cell? ⟨w.heap.size, 1, none⟩ = some (.string ⟨#[120]⟩) ∧ w'.cell? ⟨w.heap.size, 2, none⟩ = some (.int .i64 1) ∧ w'.cell? ⟨w.heap.size, 3, none⟩ = some (.int .i64 0) ∧ w'.cell? ⟨w.heap.size, 4, none⟩ = some (.int .i64 4) ∧ w'.cell? ⟨w.heap.size, 5, none⟩ = some (.string ⟨#[98]⟩) ∧ w'.cell? ⟨w.heap.size, 6, none⟩ = some (.string ⟨#[120]⟩) ∧ w'.cell? ⟨w.heap.size, 7, none⟩ = some (.int .i64 4) ∧ w'.cell? ⟨w.heap.size, 8, none⟩ = some (.int .i64 0) ∧ w'.cell? ⟨w.heap.size, 9, none⟩ = some (.int .i64 6)) (first | (exact unhide HK _ (Below.refl _ _).drew) | (exact unhide HK _ ((Below.refl _ _).drew.alloc (by simp) _)) | (exact unhide HK _ (unhide HB5)) | (exact unhide HK _ ((unhide HB5).alloc (unhide HB5).size _)) | (exact unhide HK _ (unhide HB6)) | (exact unhide HK _ (unhide HB7)) | (exact unhide HK _ (unhide HB8)))
    (first
      | (go_at_call 21; refine (unhide HS _ (Below.refl _ _).drew).mono ?_; rintro e w5 ⟨rfl, hb5⟩; have HB5 := hide hb5; clear hb5)
      | (go_at_call 23; refine (unhide HA _ (unhide HB5)).mono ?_; rintro e w6 ⟨rfl, hb6⟩; have HB6 := hide hb6; clear hb6)
      | (go_at_call 14; refine (unhide HY _ (unhide HB6)).mono ?_; rintro e w7 ⟨rfl, hb7⟩; have HB7 := hide hb7; clear hb7)
      | (go_at_call 16; refine (unhide HR _ (unhide HB7)).mono ?_; rintro e w8 ⟨A8, c8, rfl, hb8⟩; have HB8 := hide hb8; clear hb8))
  go_wp2_with fail
  go_ret
  exact ⟨rfl, (unhide HB0).trans ((unhide HB8).mono (unhide HB0).size)⟩
end Go.Proofs.YtgbheogmccfaaaaGreat
