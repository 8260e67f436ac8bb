/- Walk: Open. -/
import Derived.Test.YtjihkoleipkgmaaLgB
namespace Go.Proofs.Ytjihkoleipkgmaa
set_option linter.unusedVariables false
set_option linter.unusedSimpArgs false
open Go.RowKit Go.Maps

theorem turn_row {w w' : World} {S : Nat → Prop} {g : Nat} (hg : w.grownBy w' (some g)) (hS : S g) : Turn S w w' :=
  ⟨hg.os, hg.tape, hg.output, hg.size, fun i hi hs => hg.block i hi (fun e => by injection e with e; subst e; exact hs hS)⟩
section
variable {w w' : World} {base p ma mh n n' : Nat} {s s' : Lg} {v : Value}
/-- the maps turned -/
theorem LedgerAt.newBoth (h : LedgerAt w base p s ma mh v n) (ht : Turn (fun b => b = ma ∨ b = mh) w w') (hs : LgOk s') (hP : s'.P = s.P) (hM : MapAt keyKeys w' ma n' (accF s')) (hN : MapAt txtKeys w' mh n' (holdF s')) (hn : n ≤ n') : LedgerAt w' base p s' ma mh v n' where
  ok := hs
  main := by
    obtain ⟨ow, k⟩ := h.main
    exact ⟨ow, k.turn ht (fun e => by
      rcases e with e | e
      · exact h.dist.1 e
      · exact h.dist.2.1 e)⟩
  acc := hM
  hol := hN
  np := by rw [hP]; exact Nat.le_trans h.np hn
  row := by
    obtain ⟨vs, h1, h2, h3⟩ := h.row
    rw [hP]
    refine ⟨vs, h1, own_turn h2 ht (fun g hg e => by
      rcases e with e | e
      · exact (h.dist.2.2.2 g hg).2.1 e
      · exact (h.dist.2.2.2 g hg).2.2 e), fun i po hp => ?_⟩
    obtain ⟨A, c, e, hl, hb⟩ := h3 i po hp
    refine ⟨A, c, e, fun hne => ?_, fun b off e => ⟨⟨(hb b off e).1.1, Nat.lt_of_lt_of_le (hb b off e).1.2 ht.size⟩, (hb b off e).2⟩⟩
    obtain ⟨b, off, rfl, hlt, hc⟩ := hl hne
    have hnb : ¬ (b = ma ∨ b = mh) := fun e => (hb b off rfl).2 (e.elim (fun e => .inr (.inl e)) (fun e => .inr (.inr (.inl e))))
    exact ⟨b, off, rfl, Nat.lt_of_lt_of_le hlt ht.size, fun i x hx => (hc i x hx).keep fun o => World.cell?_of_block (ht.block b hlt hnb)⟩
  dist := h.dist
  low := h.low
/-- the accounts' map turned -/
theorem LedgerAt.newAcc (h : LedgerAt w base p s ma mh v n) (hg : w.grownBy w' (some ma)) (hs : LgOk s') (hP : s'.P = s.P) (hH : holdF s' = holdF s) (hM : MapAt keyKeys w' ma n' (accF s')) (hn : n ≤ n') : LedgerAt w' base p s' ma mh v n' where
  ok := hs
  main := by
    obtain ⟨ow, k⟩ := h.main
    exact ⟨ow, k.turn (turn_row (S := fun b => b = ma) hg rfl) h.dist.1⟩
  acc := hM
  hol := by
    rw [hH]
    exact (h.hol.turn (turn_row (S := fun b => b = ma) hg rfl) (fun e => h.dist.2.2.1 e.symm)).mono hn
  np := by rw [hP]; exact Nat.le_trans h.np hn
  row := by
    have ht := turn_row (S := fun b => b = ma) hg rfl
    obtain ⟨vs, h1, h2, h3⟩ := h.row
    rw [hP]
    refine ⟨vs, h1, own_turn h2 ht (fun g hg e => (h.dist.2.2.2 g hg).2.1 e), fun i po hp => ?_⟩
    obtain ⟨A, c, e, hl, hb⟩ := h3 i po hp
    refine ⟨A, c, e, fun hne => ?_, fun b off e => ⟨⟨(hb b off e).1.1, Nat.lt_of_lt_of_le (hb b off e).1.2 hg.size⟩, (hb b off e).2⟩⟩
    obtain ⟨b, off, rfl, hlt, hc⟩ := hl hne
    have hnb : b ≠ ma := fun e => (hb b off rfl).2 (.inr (.inl e))
    exact ⟨b, off, rfl, Nat.lt_of_lt_of_le hlt hg.size, fun i x hx => (hc i x hx).keep fun o => World.cell?_of_block (ht.block b hlt hnb)⟩
  dist := h.dist
  low := h.low
/-- the holds' map turned -/
theorem LedgerAt.newHol (h : LedgerAt w base p s ma mh v n) (hg : w.grownBy w' (some mh)) (hs : LgOk s') (hP : s'.P = s.P) (hA : accF s' = accF s) (hM : MapAt txtKeys w' mh n' (holdF s')) (hn : n ≤ n') : LedgerAt w' base p s' ma mh v n' where
  ok := hs
  main := by
    obtain ⟨ow, k⟩ := h.main
    exact ⟨ow, k.turn (turn_row (S := fun b => b = mh) hg rfl) h.dist.2.1⟩
  acc := by
    rw [hA]
    exact (h.acc.turn (turn_row (S := fun b => b = mh) hg rfl) h.dist.2.2.1).mono hn
  hol := hM
  np := by rw [hP]; exact Nat.le_trans h.np hn
  row := by
    have ht := turn_row (S := fun b => b = mh) hg rfl
    obtain ⟨vs, h1, h2, h3⟩ := h.row
    rw [hP]
    refine ⟨vs, h1, own_turn h2 ht (fun g hg e => (h.dist.2.2.2 g hg).2.2 e), fun i po hp => ?_⟩
    obtain ⟨A, c, e, hl, hb⟩ := h3 i po hp
    refine ⟨A, c, e, fun hne => ?_, fun b off e => ⟨⟨(hb b off e).1.1, Nat.lt_of_lt_of_le (hb b off e).1.2 hg.size⟩, (hb b off e).2⟩⟩
    obtain ⟨b, off, rfl, hlt, hc⟩ := hl hne
    have hnb : b ≠ mh := fun e => (hb b off rfl).2 (.inr (.inr (.inl e)))
    exact ⟨b, off, rfl, Nat.lt_of_lt_of_le hlt hg.size, fun i x hx => (hc i x hx).keep fun o => World.cell?_of_block (ht.block b hlt hnb)⟩
  dist := h.dist
  low := h.low
end
theorem accF_open {s : Lg} (h : LgOk s) {a u : ByteArray} {fl : Int} (hn : findA s.A a u = none) (y : ByteArray × ByteArray) :
    accF (openS s a u fl) y = if y = (a, u) then some (.agg #[.int .i64 fl, .int .i64 0, .int .i64 0]) else accF s y := by
  obtain ⟨y1, y2⟩ := y
  unfold accF openS
  simp only
  rw [findA_snoc]
  by_cases e : (y1, y2) = (a, u)
  · obtain ⟨rfl, rfl⟩ := Prod.mk.inj e
    rw [if_pos rfl, hn, if_pos ⟨rfl, rfl⟩]
    simp only [Option.none_or, Option.map_some, acV, Lg.held, held_none h hn]
  · rw [if_neg e, if_neg (fun h => e (Prod.ext h.1.symm h.2.symm)), Option.or_none]
    rfl

/-- what an act that opens leaves -/
def OpenQ (w : World) (base p ma mh n : Nat) (s : Lg) (v : Value) (a u : ByteArray) (fl : Int) (w' : World) : Prop := LedgerAt w' base p (if openE s a u fl = 0 then openS s a u fl else s) ma mh v (n + 1) ∧ Turn (foot p ma mh v) w w'
theorem OpenQ.bad {w w' : World} {base p ma mh n : Nat} {s : Lg} {v : Value} {a u : ByteArray} {fl : Int} (h : LedgerAt w base p s ma mh v n) (hb : Below w.heap.size w w') (he : openE s a u fl ≠ 0) : OpenQ w base p ma mh n s v a u fl w' := by
  unfold OpenQ
  rw [if_neg he]
  exact ⟨(h.after hb).mono (Nat.le_succ _), .of_below hb⟩

set_option maxHeartbeats 4000000 in
set_option maxRecDepth 20000 in
theorem Open_any (w : World) (base p ma mh n : Nat) (s : Lg) (v : Value) (a u : ByteArray) (fl : Int) (h : LedgerAt w base p s ma mh v n) (hn : n ≤ 4000) (ha : a.size ≤ maxLen) (hu : u.size ≤ maxLen) :
    Calls Try.prog 14 #[.pointer (some ⟨p, 0, none⟩), .string a, .string u, .int .i64 fl] w fun e w' => e = .returned (.int .i64 (openE s a u fl)) ∧ OpenQ w base p ma mh n s v a u fl w' := by
  obtain ⟨ow, hW⟩ := h.main
  have HL := hide h
  have k1 := hW.alloc (.cells #[.string a, .string u] 68)
  have k2 := Whole.made w 68 #[.string a, .string u]
  have kM := h.acc.alloc (.cells #[.string a, .string u] 68)
  have kb := (Below.refl w.heap.size w).alloc (Nat.le_refl _) (.cells #[.string a, .string u] 68)
  obtain ⟨W0, hW0⟩ : ∃ W, W = w.alloc (.cells #[.string a, .string u] 68) := ⟨_, rfl⟩
  have hz0 : W0.heap.size = w.heap.size + 1 := by rw [hW0]; simp
  rw [← hW0] at k1 k2 kM kb
  have hl1 := look_accT kM.drew a u ha hu
  have hl2 := fun o => look_accT (kM.alloc o).drew a u ha hu
  have HN := hide (fun W => name_any a W ha)
  have HC := hide (fun W => cur_any u W hu)
  have hth : thereB s a u = (findA s.A a u).isSome := rfl
  have hoE : openE s a u fl = if (okName a && okCur u) = false then 1 else if fl < -mostI ∨ 0 < fl then 3 else if thereB s a u = true then 5 else 0 := rfl
  obtain ⟨q1, hq1⟩ : ∃ q, q = flOf s a u := ⟨_, rfl⟩
  obtain ⟨q2, hq2⟩ : ∃ q, q = balOf s a u := ⟨_, rfl⟩
  obtain ⟨q3, hq3⟩ : ∃ q, q = heOf s a u := ⟨_, rfl⟩
  obtain ⟨q4, hq4⟩ : ∃ q, q = thereB s a u := ⟨_, rfl⟩
  rw [← hq1, ← hq2, ← hq3, ← hq4] at hl1
  simp only [← hq1, ← hq2, ← hq3, ← hq4] at hl2
  rw [← hq4] at hoE hth
  have HE := hide hoE; have HTH := hide hth
  have cP := k1.drew.cells
  have cP2 := fun o => (k1.alloc o).drew.cells
  have cK := k2.drew.cells
  have cK2 := fun o => (k2.alloc o).drew.cells
  have m1 := (k1.alloc (.cells #[.int .i64 q1, .int .i64 q2, .int .i64 q3] 70)).drew
  have m2 := (k2.alloc (.cells #[.int .i64 q1, .int .i64 q2, .int .i64 q3] 70)).drew
  have mb := (kb.alloc (by rw [hz0]; omega) (.cells #[.int .i64 q1, .int .i64 q2, .int .i64 q3] 70)).drew
  have hp := hW.lt
  have H1 := hide (And.intro m1 (And.intro m2 mb))
  have HGD := hide (And.intro ha hu)
  have HW0 := hide hW0
  clear h hW k1 k2 kM kb m1 m2 mb hq1 hq2 hq3 hq4 hoE hth ha hu
  go_enter Try.func14, Try.ntmps14
  go_wp2_with fail
  rw [← unhide HW0]
  clear hW0
  go_region
  clear cP cP2 cK cK2 hl1 hl2
  go_wp2_with fail
  (with_reducible refine (unhide HN _).mono ?_); rintro e w1 ⟨rfl, hb⟩
  have H2 := hide (And.intro ((unhide H1).1.after hb) (And.intro ((unhide H1).2.1.after hb) ((unhide H1).2.2.trans (hb.mono (unhide H1).2.2.size))))
  clear hb H1 HN
  obtain ⟨n1, hn1⟩ : ∃ b, b = okName a := ⟨_, rfl⟩
  rw [← hn1] at HE ⊢
  have HNM := hide hn1
  clear hn1
  cases n1
  · have HX := hide (show openE s a u fl = 1 by rw [unhide HE]; rfl)
    go_wp2_with fail
    go_ret
    exact ⟨by rw [unhide HX]; rfl, .bad (unhide HL) (unhide H2).2.2 (by rw [unhide HX]; decide)⟩
  · go_wp2_with fail
    (with_reducible refine (unhide HC _).mono ?_); rintro e w2 ⟨rfl, hb⟩
    have H3 := hide (And.intro ((unhide H2).1.after hb) (And.intro ((unhide H2).2.1.after hb) ((unhide H2).2.2.trans (hb.mono (unhide H2).2.2.size))))
    clear hb H2 HC
    obtain ⟨n2, hn2⟩ : ∃ b, b = okCur u := ⟨_, rfl⟩
    rw [← hn2] at HE ⊢
    have HNC := hide hn2
    clear hn2
    cases n2
    · have HX := hide (show openE s a u fl = 1 by rw [unhide HE]; rfl)
      go_wp2_with fail
      go_ret
      exact ⟨by rw [unhide HX]; rfl, .bad (unhide HL) (unhide H3).2.2 (by rw [unhide HX]; decide)⟩
    · by_cases hr : fl < -mostI ∨ 0 < fl
      · have HX := hide (show openE s a u fl = 3 by rw [unhide HE, if_neg (by simp), if_pos hr])
        have hway : decide (fl < -1099511627776) = true ∨ (decide (fl < -1099511627776) = false ∧ decide (0 < fl) = true) := by
          unfold mostI at hr
          by_cases h1 : fl < -1099511627776
          · exact .inl (by simpa using h1)
          · exact .inr ⟨by simpa using h1, by rw [decide_eq_true_eq]; omega⟩
        clear hr
        rcases hway with d1 | ⟨d1, d2⟩
        all_goals
          go_wp2_with fail
          go_ret
          exact ⟨by rw [unhide HX]; rfl, .bad (unhide HL) (unhide H3).2.2 (by rw [unhide HX]; decide)⟩
      · have d1 : decide (fl < -1099511627776) = false := by rw [decide_eq_false_iff_not]; unfold mostI at hr; omega
        have d2 : decide (0 < fl) = false := by rw [decide_eq_false_iff_not]; omega
        have HR := hide hr
        clear hr
        cases q4
        · have HX := hide (show openE s a u fl = 0 by rw [unhide HE, if_neg (by simp), if_neg (unhide HR)]; rfl)
          have hnone : findA s.A a u = none := by
            cases hf : findA s.A a u with
            | none => rfl
            | some x => have := unhide HTH; rw [hf] at this; cases this
          have hL3 := (unhide HL).after (unhide H3).2.2
          obtain ⟨z, hz, hlen⟩ := hL3.acc.len Try.underlying72 3
          have hlen1 := hlen w2 rfl
          have hzz : decide ((4096 : Int) ≤ (z : Int)) = false := by rw [decide_eq_false_iff_not]; omega
          have hzz2 : decide (4096 ≤ z) = false := by rw [decide_eq_false_iff_not]; omega
          have cP := (unhide H3).1.cells
          have cK := (unhide H3).2.1.cells
          have HP := hide (put_any w2 p ma mh n v ow a u fl (accF s) (unhide H3).1 hL3.acc hL3.dist.1 (by omega) (unhide HGD).1 (unhide HGD).2)
          have HL3 := hide hL3; have HNO := hide hnone
          clear hL3 hlen hz hnone
          go_wp2_with fail
          (with_reducible refine (unhide HP).mono ?_); rintro e w4 ⟨rfl, hM, hg⟩
          have HF := hide (And.intro hM hg)
          clear hM hg cP cK hlen1
          go_wp2_with fail
          go_ret
          refine ⟨by rw [unhide HX]; rfl, ?_⟩
          unfold OpenQ
          rw [if_pos (unhide HX)]
          obtain ⟨hM, hg⟩ := unhide HF
          refine ⟨(unhide HL3).newAcc hg ((unhide HL).ok.opened (unhide HX)) rfl rfl (hM.congr fun y _ => (accF_open (unhide HL).ok (unhide HNO) y).symm) (Nat.le_succ _), ?_⟩
          exact (Turn.of_below (unhide H3).2.2).trans (turn_row hg (.inr (.inl rfl)))
        · have HX := hide (show openE s a u fl = 5 by rw [unhide HE, if_neg (by simp), if_neg (unhide HR)]; rfl)
          go_wp2_with fail
          go_ret
          exact ⟨by rw [unhide HX]; rfl, .bad (unhide HL) (unhide H3).2.2 (by rw [unhide HX]; decide)⟩
end Go.Proofs.Ytjihkoleipkgmaa
