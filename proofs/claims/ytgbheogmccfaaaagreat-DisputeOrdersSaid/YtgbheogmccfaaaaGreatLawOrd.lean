/- Walk: the law DisputeOrders. -/
import Derived.Test.YtgbheogmccfaaaaGreatLawBet
import Derived.Deep.DeepCutAuto
namespace Go.Proofs.YtgbheogmccfaaaaGreat
set_option linter.unusedVariables false
set_option linter.unusedSimpArgs false
open Go.RowKit Go.Maps

/-- three claimants that came in, each in its block -/
def ClThree (w w1 : World) (a b c : Cl) : Prop := Whole w1 w.heap.size 23 (clC a) ∧ Whole w1 (w.heap.size + 1) 23 (clC b) ∧ Whole w1 (w.heap.size + 1 + 1) 23 (clC c) ∧ Below w.heap.size w w1
section
variable {w w1 w2 : World} {a b c : Cl}
theorem ClThree.made (w : World) (a b c : Cl) : ClThree w (((w.alloc (.cells (clC a) 23)).alloc (.cells (clC b) 23)).alloc (.cells (clC c) 23)) a b c :=
  ⟨((Whole.made w _ _).alloc _).alloc _, (Whole.made_at _ _ _ _ (by simp)).alloc _, Whole.made_at _ _ _ _ (by simp), (((Below.refl w.heap.size w).alloc (Nat.le_refl _) _).alloc (by simp) _).alloc (by simp; omega) _⟩
theorem ClThree.after (h : ClThree w w1 a b c) (hb : Below w1.heap.size w1 w2) : ClThree w w2 a b c := ⟨h.1.after hb, h.2.1.after hb, h.2.2.1.after hb, h.2.2.2.trans (hb.mono h.2.2.2.size)⟩
theorem ClThree.laid (h : ClThree w w1 a b c) (hb : Laid w1 w2) : ClThree w w2 a b c := h.after hb.1
theorem ClThree.alloc (h : ClThree w w1 a b c) (o : Obj) : ClThree w (w1.alloc o) a b c := h.after ((Below.refl _ _).alloc (Nat.le_refl _) _)
theorem ClThree.cells (h : ClThree w w1 a b c) : w1.cell? ⟨w.heap.size, 0, none⟩ = some (.string a.name) ∧ w1.cell? ⟨w.heap.size, 1, none⟩ = some (.string a.thing) ∧ w1.cell? ⟨w.heap.size, 2, none⟩ = some (.int .i64 a.right) ∧ w1.cell? ⟨w.heap.size, 3, none⟩ = some (.int .i64 a.day) ∧ w1.cell? ⟨w.heap.size, 4, none⟩ = some (.int .i64 a.amount) ∧ w1.cell? ⟨w.heap.size + 1, 0, none⟩ = some (.string b.name) ∧ w1.cell? ⟨w.heap.size + 1, 1, none⟩ = some (.string b.thing) ∧ w1.cell? ⟨w.heap.size + 1, 2, none⟩ = some (.int .i64 b.right) ∧ w1.cell? ⟨w.heap.size + 1, 3, none⟩ = some (.int .i64 b.day) ∧ w1.cell? ⟨w.heap.size + 1, 4, none⟩ = some (.int .i64 b.amount) ∧ w1.cell? ⟨w.heap.size + 1 + 1, 0, none⟩ = some (.string c.name) ∧ w1.cell? ⟨w.heap.size + 1 + 1, 1, none⟩ = some (.string c.thing) ∧ w1.cell? ⟨w.heap.size + 1 + 1, 2, none⟩ = some (.int .i64 c.right) ∧ w1.cell? ⟨w.heap.size + 1 + 1, 3, none⟩ = some (.int .i64 c.day) ∧ w1.cell? ⟨w.heap.size + 1 + 1, 4, none⟩ = some (.int .i64 c.amount) := by
  have k0 := h.1.cells; have k1 := h.2.1.cells; have k2 := h.2.2.1.cells
  exact ⟨k0 0, k0 1, k0 2, k0 3, k0 4, k1 0, k1 1, k1 2, k1 3, k1 4, k2 0, k2 1, k2 2, k2 3, k2 4⟩
theorem ClThree.drew (h : ClThree w w1 a b c) : ClThree w w1.drew a b c := h.after (Below.refl _ _).drew
end
theorem eq_cl (a b : Cl) (w : World) : (binOp .eql 23 a.val b.val).run Tryz.prog w = .ok (.bool (decide (clCmp a b = 0))) w := by
  by_cases h : a = b
  · subst h
    rw [decide_eq_true (clCmp_zero.2 rfl)]
    simp [go_sem]
  · have hne : ¬ clCmp a b = 0 := fun e => h (clCmp_zero.1 e)
    rw [decide_eq_false hne]
    simp [go_sem]
    intro h1 h2 h3 h4 h5
    apply h
    obtain ⟨a1, a2, a3, a4, a5⟩ := a
    obtain ⟨b1, b2, b3, b4, b5⟩ := b
    simp only at h1 h2 h3 h4 h5
    obtain rfl : a1 = b1 := tx_inj (by rwa [Go.ByteArray.toList_eq, Go.ByteArray.toList_eq] at h1)
    obtain rfl : a2 = b2 := tx_inj (by rwa [Go.ByteArray.toList_eq, Go.ByteArray.toList_eq] at h2)
    subst h3 h4 h5
    rfl

/-- what the law asks of three -/
theorem three_trans (a b c : Cl) (x y z : Int) (hx : x = -clCmp a b) (hy : y = -clCmp b c) (hz : z = -clCmp a c) : ¬ (0 ≤ x ∧ 0 ≤ y ∧ z < 0) ∧ ¬ (0 < x ∧ 0 ≤ y ∧ z ≤ 0) := by
  have h : clCmp a b ≤ 0 → clCmp b c ≤ 0 → _ := fun h1 h2 => clCmp_trans (a := a) (b := b) (c := c) h1 h2
  constructor
  · rintro ⟨h1, h2, h3⟩
    have := (h (by omega) (by omega)).1
    omega
  · rintro ⟨h1, h2, h3⟩
    have h4 := h (by omega) (by omega)
    have := h4.2 (by omega)
    omega

set_option maxHeartbeats 8000000 in
set_option maxRecDepth 100000 in
theorem DisputeOrders_any (a b c : Cl) (w : World) :
    Calls Tryz.prog 5 #[a.val, b.val, c.val] w fun e w' => e = .returned (.bool true) ∧ Below w.heap.size w w' := by
  have T0 := hide (ClThree.made w a b c)
  have HAB := hide (fun W => Better_any a b W)
  have HBC := hide (fun W => Better_any b c W)
  have HAC := hide (fun W => Better_any a c W)
  have HBA := hide (fun W => Better_any b a W)
  have HAA := hide (fun W => Better_any a a W)
  have heq := fun W => eq_cl a b W
  have hab := clCmp_bd a b
  have hbc := clCmp_bd b c
  have hac := clCmp_bd a c
  obtain ⟨x, hx⟩ : ∃ x, x = -clCmp a b := ⟨_, rfl⟩
  obtain ⟨y, hy⟩ : ∃ x, x = -clCmp b c := ⟨_, rfl⟩
  obtain ⟨z, hz⟩ : ∃ x, x = -clCmp a c := ⟨_, rfl⟩
  have hth := three_trans a b c x y z hx hy hz
  have hsw : -clCmp b a = -x := by rw [clCmp_swap a b, hx]
  have haa : -clCmp a a = 0 := by rw [clCmp_zero.2 rfl]; rfl
  have hez : decide (clCmp a b = 0) = decide (x = 0) := by
    rw [decide_eq_decide, hx]; omega
  rw [hsw] at HBA
  rw [haa] at HAA
  simp only [hez] at heq
  rw [← hx] at HAB
  rw [← hy] at HBC
  rw [← hz] at HAC
  have hx1 : x = -1 ∨ x = 0 ∨ x = 1 := by omega
  have hy1 : y = -1 ∨ y = 0 ∨ y = 1 := by omega
  have hz1 : z = -1 ∨ z = 0 ∨ z = 1 := by omega
  have HQ := hide (And.intro hth (And.intro hx1 (And.intro hy1 hz1)))
  have HEQ := hide heq
  have hf := Few_any [c, b, a]
  clear hx hy hz hth hsw haa hez hx1 hy1 hz1 hab hbc hac heq hf
  go_enter Tryz.func5, Tryz.ntmps5
  go_wp2_with fail
  (with_reducible refine (awake_any _).mono ?_); rintro e w1 ⟨rfl, hb⟩
  have T1 := hide ((unhide T0).after hb)
  clear hb T0
  have e0 := (unhide T1).1.cells
  have e1 := (unhide T1).2.1.cells
  have e2 := (unhide T1).2.2.1.cells
  have h2 := Few_any [a, b, c] (some ⟨w1.heap.size, 0, none⟩) 3 3 (w1.alloc (.cells #[.string a.name, .string a.thing, .int .i64 a.right, .int .i64 a.day, .int .i64 a.amount, .string b.name, .string b.thing, .int .i64 b.right, .int .i64 b.day, .int .i64 b.amount, .string c.name, .string c.thing, .int .i64 c.right, .int .i64 c.day, .int .i64 c.amount] 23)) rfl (by unfold maxLen; omega) (list_made clR w1 _ rfl 23 [a, b, c])
  obtain ⟨r2, hr2⟩ : ∃ r, r = fewGo 0 [a, b, c] := ⟨_, rfl⟩
  rw [← hr2] at h2
  have H2 := hide h2
  clear h2 hr2
  go_wp2_with fail
  (with_reducible refine (unhide H2).mono ?_); rintro e w2 ⟨rfl, hl⟩
  have T2 := hide (((unhide T1).alloc _).laid hl)
  clear hl H2 e0 e1 e2 T1
  cases r2
  · go_wp2_with fail
    go_ret
    exact ⟨rfl, (unhide T2).2.2.2⟩
  · have e0 := (unhide T2).1.cells
    have e1 := (unhide T2).2.1.cells
    have e2 := (unhide T2).2.2.1.cells
    go_wp2_with fail
    go_upto_region 5 with fail
    go_cut [7, 8, 9] (fun s7 s8 s9 wx => s7 = .int .i64 x ∧ s8 = .int .i64 y ∧ s9 = .int .i64 z ∧ ClThree w wx a b c)
    case first =>
      have TD := hide ((unhide T2).drew)
      go_region_held3 (fun w' => w'.cell? ⟨w.heap.size, 0, none⟩ = some (.string a.name) ∧ w'.cell? ⟨w.heap.size, 1, none⟩ = some (.string a.thing) ∧ w'.cell? ⟨w.heap.size, 2, none⟩ = some (.int .i64 a.right) ∧ w'.cell? ⟨w.heap.size, 3, none⟩ = some (.int .i64 a.day) ∧ w'.cell? ⟨w.heap.size, 4, none⟩ = some (.int .i64 a.amount) ∧ w'.cell? ⟨w.heap.size + 1, 0, none⟩ = some (.string b.name) ∧ w'.cell? ⟨w.heap.size + 1, 1, none⟩ = some (.string b.thing) ∧ w'.cell? ⟨w.heap.size + 1, 2, none⟩ = some (.int .i64 b.right) ∧ w'.cell? ⟨w.heap.size + 1, 3, none⟩ = some (.int .i64 b.day) ∧ w'.cell? ⟨w.heap.size + 1, 4, none⟩ = some (.int .i64 b.amount) ∧ w'.cell? ⟨w.heap.size + 1 + 1, 0, none⟩ = some (.string c.name) ∧ w'.cell? ⟨w.heap.size + 1 + 1, 1, none⟩ = some (.string c.thing) ∧ w'.cell? ⟨w.heap.size + 1 + 1, 2, none⟩ = some (.int .i64 c.right) ∧ w'.cell? ⟨w.heap.size + 1 + 1, 3, none⟩ = some (.int .i64 c.day) ∧ w'.cell? ⟨w.heap.size + 1 + 1, 4, none⟩ = some (.int .i64 c.amount)) (exact ClThree.cells (unhide ‹Hid (ClThree w _ a b c)›))
        (first
          | (go_at_call 13; (with_reducible refine (unhide HAB _).mono ?_); rintro e w3 ⟨rfl, hl⟩; have T3 := hide (ClThree.laid (unhide ‹Hid (ClThree w _ a b c)›) hl); clear hl)
          | (go_at_call 13; (with_reducible refine (unhide HBC _).mono ?_); rintro e w3 ⟨rfl, hl⟩; have T3 := hide (ClThree.laid (unhide ‹Hid (ClThree w _ a b c)›) hl); clear hl)
          | (go_at_call 13; (with_reducible refine (unhide HAC _).mono ?_); rintro e w3 ⟨rfl, hl⟩; have T3 := hide (ClThree.laid (unhide ‹Hid (ClThree w _ a b c)›) hl); clear hl))
      all_goals (go_wp2_with fail; go_meet; exact ⟨rfl, rfl, rfl, unhide ‹Hid (ClThree w _ a b c)›⟩)
    case rest =>
      obtain ⟨rfl, rfl, rfl, hT⟩ := hcut
      have e0 := hT.1.cells
      have e1 := hT.2.1.cells
      have e2 := hT.2.2.1.cells
      have T3 := hide hT
      clear hT
      obtain ⟨⟨q1, q2⟩, hx1, hy1, hz1⟩ := unhide HQ
      have heq := unhide HEQ
      have HQ2 := hide (And.intro q1 (And.intro q2 (And.intro hy1 hz1)))
      clear HQ HEQ q1 q2 hy1 hz1
      have hy2 : (decide (0 ≤ y) = true ∧ (0 ≤ x → decide (z < 0) = false) ∧ (0 < x → decide (z ≤ 0) = false)) ∨ decide (0 ≤ y) = false := by
        obtain ⟨q1, q2, hy1, hz1⟩ := unhide HQ2
        by_cases a2 : 0 ≤ y
        · exact .inl ⟨by simpa using a2, fun h => by rw [decide_eq_false_iff_not]; omega, fun h => by rw [decide_eq_false_iff_not]; omega⟩
        · exact .inr (by simpa using a2)
      have HY := hide hy2
      clear hy2
      rcases hx1 with rfl | rfl | rfl
      all_goals
        try simp only [Int.neg_neg, Int.neg_zero] at HBA
        go_wp2_with fail
        (with_reducible refine (unhide HBA _).mono ?_); rintro e w4 ⟨rfl, hl⟩
        have T4 := hide ((unhide T3).laid hl)
        clear hl T3 e0 e1 e2
        have e0 := (unhide T4).1.cells
        have e1 := (unhide T4).2.1.cells
        have e2 := (unhide T4).2.2.1.cells
        go_wp2_with fail
        (with_reducible refine (unhide HAA _).mono ?_); rintro e w5 ⟨rfl, hl⟩
        have T5 := hide ((unhide T4).laid hl)
        clear hl T4 e0 e1 e2
        have e0 := (unhide T5).1.cells
        have e1 := (unhide T5).2.1.cells
        have e2 := (unhide T5).2.2.1.cells
        rcases unhide HY with ⟨y1, y2, y3⟩ | y1
        all_goals
          try (have y4 := y2 (by decide))
          try (have y5 := y3 (by decide))
          try clear y2 y3
          go_wp2_with fail
          have hlm : ListIn clR (w5.alloc (.cells #[.string c.name, .string c.thing, .int .i64 c.right, .int .i64 c.day, .int .i64 c.amount, .string b.name, .string b.thing, .int .i64 b.right, .int .i64 b.day, .int .i64 b.amount, .string a.name, .string a.thing, .int .i64 a.right, .int .i64 a.day, .int .i64 a.amount] 23)) (w5.alloc (.cells #[.string c.name, .string c.thing, .int .i64 c.right, .int .i64 c.day, .int .i64 c.amount, .string b.name, .string b.thing, .int .i64 b.right, .int .i64 b.day, .int .i64 b.amount, .string a.name, .string a.thing, .int .i64 a.right, .int .i64 a.day, .int .i64 a.amount] 23)).heap.size (some ⟨w5.heap.size, 0, none⟩) [c, b, a] := list_made clR w5 _ rfl 23 [c, b, a]
          (with_reducible refine (Rank_any [c, b, a] (some ⟨w5.heap.size, 0, none⟩) 3 3 (w5.alloc (.cells #[.string c.name, .string c.thing, .int .i64 c.right, .int .i64 c.day, .int .i64 c.amount, .string b.name, .string b.thing, .int .i64 b.right, .int .i64 b.day, .int .i64 b.amount, .string a.name, .string a.thing, .int .i64 a.right, .int .i64 a.day, .int .i64 a.amount] 23)) rfl (by omega) hlm).mono ?_); rintro e w6 ⟨v, rfl, own, hb⟩
          obtain ⟨A6, c6, rfl, hc6, hcm, -, hL⟩ := list_of_own own
          have T6 := hide (((unhide T5).alloc _).after hb)
          obtain ⟨r0, r1, r2, hr⟩ : ∃ r0 r1 r2, rankL [c, b, a] = [r0, r1, r2] := by
            have := rankL_length [c, b, a]
            match hrk : rankL [c, b, a], this with
            | [r0, r1, r2], _ => exact ⟨r0, r1, r2, rfl⟩
          have hso := rankL_sorted [c, b, a]
          rw [hr] at hL hso
          obtain ⟨hs1, hs2⟩ := List.pairwise_cons.1 hso
          have hs3 := (List.pairwise_cons.1 hs2).1
          have m1 : clCmp r0 r1 ≤ 0 := by have := hs1 r1 (by simp); simpa [leC] using this
          have m2 : clCmp r1 r2 ≤ 0 := by have := hs3 r2 (by simp); simpa [leC] using this
          have HB1 := hide (fun W => Better_any r0 r1 W)
          have HB2 := hide (fun W => Better_any r1 r2 W)
          obtain ⟨z1, hz1⟩ : ∃ z, z = -clCmp r0 r1 := ⟨_, rfl⟩
          obtain ⟨z2, hz2⟩ : ∃ z, z = -clCmp r1 r2 := ⟨_, rfl⟩
          rw [← hz1] at HB1
          rw [← hz2] at HB2
          have d1 : decide (0 ≤ z1) = true := by rw [decide_eq_true_eq]; omega
          have d2 : decide (0 ≤ z2) = true := by rw [decide_eq_true_eq]; omega
          obtain ⟨g, o, e3, hg, k00, k01, k02, k03, k04⟩ := cl_at hL (i := 0) rfl
          obtain ⟨g', o', e4, _, k10, k11, k12, k13, k14⟩ := cl_at hL (i := 1) rfl
          obtain ⟨g'', o'', e5, _, k20, k21, k22, k23, k24⟩ := cl_at hL (i := 2) rfl
          subst e3
          obtain ⟨rfl, rfl⟩ : g = g' ∧ o = o' := by cases e4; exact ⟨rfl, rfl⟩
          obtain ⟨rfl, rfl⟩ : g = g'' ∧ o = o'' := by cases e5; exact ⟨rfl, rfl⟩
          have hk : ∀ W, Below w6.heap.size w6 W → (W.cell? ⟨g, o, none⟩ = some (.string r0.name) ∧ W.cell? ⟨g, o + 1, none⟩ = some (.string r0.thing) ∧ W.cell? ⟨g, o + 2, none⟩ = some (.int .i64 r0.right) ∧ W.cell? ⟨g, o + 3, none⟩ = some (.int .i64 r0.day) ∧ W.cell? ⟨g, o + 4, none⟩ = some (.int .i64 r0.amount) ∧ W.cell? ⟨g, o + 5, none⟩ = some (.string r1.name) ∧ W.cell? ⟨g, o + 6, none⟩ = some (.string r1.thing) ∧ W.cell? ⟨g, o + 7, none⟩ = some (.int .i64 r1.right) ∧ W.cell? ⟨g, o + 8, none⟩ = some (.int .i64 r1.day) ∧ W.cell? ⟨g, o + 9, none⟩ = some (.int .i64 r1.amount) ∧ W.cell? ⟨g, o + 10, none⟩ = some (.string r2.name) ∧ W.cell? ⟨g, o + 11, none⟩ = some (.string r2.thing) ∧ W.cell? ⟨g, o + 12, none⟩ = some (.int .i64 r2.right) ∧ W.cell? ⟨g, o + 13, none⟩ = some (.int .i64 r2.day) ∧ W.cell? ⟨g, o + 14, none⟩ = some (.int .i64 r2.amount)) := fun W hW => by
            have e := fun q => old_cells hW g q hg
            exact ⟨(e _).trans k00, (e _).trans k01, (e _).trans k02, (e _).trans k03, (e _).trans k04, (e _).trans k10, (e _).trans k11, (e _).trans k12, (e _).trans k13, (e _).trans k14, (e _).trans k20, (e _).trans k21, (e _).trans k22, (e _).trans k23, (e _).trans k24⟩
          obtain ⟨j0, j1, j2, j3, j4, j5, j6, j7, j8, j9, j10, j11, j12, j13, j14⟩ := hk w6 (Below.refl _ _)
          have HK := hide hk
          unfold maxLen at hcm
          clear own hb hL hso hs1 hs2 hs3 m1 m2 hz1 hz2 e4 e5 k00 k01 k02 k03 k04 k10 k11 k12 k13 k14 k20 k21 k22 k23 k24 hk hlm hr T5 e0 e1 e2
          have BD := hide ((Below.refl w6.heap.size w6).drew)
          go_wp2_with fail
          go_region_held3 (fun w' => w'.cell? ⟨g, o, none⟩ = some (.string r0.name) ∧ w'.cell? ⟨g, o + 1, none⟩ = some (.string r0.thing) ∧ w'.cell? ⟨g, o + 2, none⟩ = some (.int .i64 r0.right) ∧ w'.cell? ⟨g, o + 3, none⟩ = some (.int .i64 r0.day) ∧ w'.cell? ⟨g, o + 4, none⟩ = some (.int .i64 r0.amount) ∧ w'.cell? ⟨g, o + 5, none⟩ = some (.string r1.name) ∧ w'.cell? ⟨g, o + 6, none⟩ = some (.string r1.thing) ∧ w'.cell? ⟨g, o + 7, none⟩ = some (.int .i64 r1.right) ∧ w'.cell? ⟨g, o + 8, none⟩ = some (.int .i64 r1.day) ∧ w'.cell? ⟨g, o + 9, none⟩ = some (.int .i64 r1.amount) ∧ w'.cell? ⟨g, o + 10, none⟩ = some (.string r2.name) ∧ w'.cell? ⟨g, o + 11, none⟩ = some (.string r2.thing) ∧ w'.cell? ⟨g, o + 12, none⟩ = some (.int .i64 r2.right) ∧ w'.cell? ⟨g, o + 13, none⟩ = some (.int .i64 r2.day) ∧ w'.cell? ⟨g, o + 14, none⟩ = some (.int .i64 r2.amount)) (exact unhide HK _ (unhide ‹Hid (Below w6.heap.size w6 _)›))
            (first
              | (go_at_call 13; (with_reducible refine (unhide HB1 _).mono ?_); rintro e w7 ⟨rfl, hl⟩; have BE := hide (Below.trans (unhide ‹Hid (Below w6.heap.size w6 _)›) (hl.1.mono (unhide ‹Hid (Below w6.heap.size w6 _)›).size)); clear hl)
              | (go_at_call 13; (with_reducible refine (unhide HB2 _).mono ?_); rintro e w7 ⟨rfl, hl⟩; have BE := hide (Below.trans (unhide ‹Hid (Below w6.heap.size w6 _)›) (hl.1.mono (unhide ‹Hid (Below w6.heap.size w6 _)›).size)); clear hl))
          go_wp2_with fail
          go_ret
          exact ⟨rfl, (unhide T6).2.2.2.trans ((unhide ‹Hid (Below w6.heap.size w6 _)›).mono (unhide T6).2.2.2.size)⟩
end Go.Proofs.YtgbheogmccfaaaaGreat
