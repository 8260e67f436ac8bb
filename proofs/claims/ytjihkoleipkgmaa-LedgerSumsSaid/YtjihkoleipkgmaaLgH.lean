/- Walks: Hold, less, Let. -/
import Derived.Test.YtjihkoleipkgmaaLgO
namespace Go.Proofs.Ytjihkoleipkgmaa
set_option linter.unusedVariables false
set_option linter.unusedSimpArgs false
open Go.RowKit Go.Maps

theorem holdF_hold (s : Lg) (i a u : ByteArray) (sum : Int) (hn : findH s.H i = none) (y : ByteArray) : holdF (holdS s i a u sum) y = if y = i then some (.agg #[.string i, .string a, .string u, .int .i64 sum]) else holdF s y := by
  unfold holdF holdS
  simp only
  rw [findH_snoc]
  by_cases e : y = i
  · subst e; rw [if_pos rfl, hn, if_pos rfl]; rfl
  · rw [if_neg e, if_neg (fun h => e h.symm), Option.or_none]
/-- who holds more -/
theorem accF_held {s s' : Lg} (hA : s'.A = s.A) {a u : ByteArray} {d : Int} (hH : ∀ n c, heldOf s'.H n c = heldOf s.H n c + if n = a ∧ c = u then d else 0) (ha : (findA s.A a u).isSome = true) (y : ByteArray × ByteArray) :
    accF s' y = if y = (a, u) then some (.agg #[.int .i64 (flOf s a u), .int .i64 (balOf s a u), .int .i64 (heOf s a u + d)]) else accF s y := by
  obtain ⟨y1, y2⟩ := y
  unfold accF flOf balOf heOf
  simp only
  rw [hA]
  by_cases e : (y1, y2) = (a, u)
  · obtain ⟨rfl, rfl⟩ := Prod.mk.inj e
    rw [if_pos rfl]
    cases hf : findA s.A y1 y2 with
    | none => rw [hf] at ha; cases ha
    | some x =>
      obtain ⟨_, e1, e2⟩ := findA_some hf
      simp only [Option.map_some, acV, Lg.held]
      rw [hH, if_pos ⟨e1, e2⟩]
  · rw [if_neg e]
    cases hf : findA s.A y1 y2 with
    | none => rfl
    | some x =>
      obtain ⟨_, e1, e2⟩ := findA_some hf
      simp only [Option.map_some, acV, Lg.held]
      rw [hH, if_neg (fun h => e (Prod.ext (e1.symm.trans h.1) (e2.symm.trans h.2))), Int.add_zero]
theorem heldOf_hold (s : Lg) (i a u : ByteArray) (sum : Int) (n c : ByteArray) : heldOf (holdS s i a u sum).H n c = heldOf s.H n c + if n = a ∧ c = u then sum else 0 := by
  unfold holdS
  simp only
  rw [heldOf_snoc]
  by_cases h1 : a = n
  · by_cases h2 : u = c
    · subst h1 h2; simp [isH]
    · have h2' : ¬ c = u := fun e => h2 e.symm
      simp [isH, h2, h2']
  · have h1' : ¬ n = a := fun e => h1 e.symm
    simp [isH, h1, h1']

/-- what an act that holds leaves -/
def HoldQ (w : World) (base p ma mh n : Nat) (s : Lg) (v : Value) (i a u : ByteArray) (sum : Int) (w' : World) : Prop := LedgerAt w' base p (if holdE s i a u sum = 0 then holdS s i a u sum else s) ma mh v (n + 1) ∧ Turn (foot p ma mh v) w w'
theorem HoldQ.bad {w w' : World} {base p ma mh n : Nat} {s : Lg} {v : Value} {i a u : ByteArray} {sum : Int} (h : LedgerAt w base p s ma mh v n) (hb : Below w.heap.size w w') (he : holdE s i a u sum ≠ 0) : HoldQ w base p ma mh n s v i a u sum w' := by
  unfold HoldQ
  rw [if_neg he]
  exact ⟨(h.after hb).mono (Nat.le_succ _), .of_below hb⟩
theorem holdE_eq (s : Lg) (i a u : ByteArray) (sum : Int) : holdE s i a u sum = if okName i = false then 1 else if (findH s.H i).isSome = true then 5 else if thereB s a u = false then 4 else if sum < 1 ∨ mostI < sum then 3 else if freeOf s a u < sum then 10 else 0 := by
  unfold holdE thereB freeOf
  split
  · rfl
  · split
    · rfl
    · cases findA s.A a u with
      | none => simp
      | some x => simp

set_option maxHeartbeats 8000000 in
set_option maxRecDepth 100000 in
theorem Hold_any (w : World) (base p ma mh n : Nat) (s : Lg) (v : Value) (i a u : ByteArray) (sum : Int) (h : LedgerAt w base p s ma mh v n) (hn : n ≤ 4000) (hi : i.size ≤ maxLen) (ha : a.size ≤ maxLen) (hu : u.size ≤ maxLen) :
    Calls Try.prog 12 #[.pointer (some ⟨p, 0, none⟩), .string i, .string a, .string u, .int .i64 sum] w fun e w' => e = .returned (.int .i64 (holdE s i a u sum)) ∧ HoldQ w base p ma mh n s v i a u sum w' := by
  obtain ⟨ow, hW⟩ := h.main
  have HL := hide h
  have k1 := hW.alloc (.cells #[.string a, .string u] 68)
  have k2 := Whole.made w 68 #[.string a, .string u]
  have kM := h.acc.alloc (.cells #[.string a, .string u] 68)
  have kN := h.hol.alloc (.cells #[.string a, .string u] 68)
  have kb := (Below.refl w.heap.size w).alloc (Nat.le_refl _) (.cells #[.string a, .string u] 68)
  obtain ⟨W0, hW0⟩ : ∃ W, W = w.alloc (.cells #[.string a, .string u] 68) := ⟨_, rfl⟩
  have hz0 : W0.heap.size = w.heap.size + 1 := by rw [hW0]; simp
  rw [← hW0] at k1 k2 kM kN kb
  have hl1 := look_accT kM.drew a u ha hu
  have hl2 := fun o => look_accT (kM.alloc o).drew a u ha hu
  have HNM := hide (fun W => name_any i W hi)
  have hoE := holdE_eq s i a u sum
  have hsm := look_small h.ok a u
  unfold mostI at hsm
  obtain ⟨q1, hq1⟩ : ∃ q, q = flOf s a u := ⟨_, rfl⟩
  obtain ⟨q2, hq2⟩ : ∃ q, q = balOf s a u := ⟨_, rfl⟩
  obtain ⟨q3, hq3⟩ : ∃ q, q = heOf s a u := ⟨_, rfl⟩
  obtain ⟨q4, hq4⟩ : ∃ q, q = thereB s a u := ⟨_, rfl⟩
  obtain ⟨q5, hq5⟩ : ∃ q, q = freeOf s a u := ⟨_, rfl⟩
  obtain ⟨ho, hho⟩ : ∃ g, g = hoOf s i := ⟨_, rfl⟩
  obtain ⟨q6, hq6⟩ : ∃ q, q = (findH s.H i).isSome := ⟨_, rfl⟩
  rw [← hq1, ← hq2, ← hq3, ← hq4] at hl1
  simp only [← hq1, ← hq2, ← hq3, ← hq4] at hl2
  rw [← hq4, ← hq5, ← hq6] at hoE
  rw [← hq1, ← hq2, ← hq3, ← hq5] at hsm
  have HE := hide hoE
  have HFR := hide (fun W => free_any q1 q2 q3 q5 W (by omega) (by omega) (by omega) (by omega))
  have HS3 := hide (show 0 ≤ q3 ∧ q3 ≤ 2199023255552 by omega)
  have HV := hide (And.intro hq1 (And.intro hq2 (And.intro hq3 (And.intro hq4 hq6))))
  have cP := k1.drew.cells
  have cP2 := fun o => (k1.alloc o).drew.cells
  have cK := k2.drew.cells
  have cK2 := fun o => (k2.alloc o).drew.cells
  have m1 := (k1.alloc (.cells #[.int .i64 q1, .int .i64 q2, .int .i64 q3] 70)).drew
  have m2 := (k2.alloc (.cells #[.int .i64 q1, .int .i64 q2, .int .i64 q3] 70)).drew
  have m3 := (Whole.made_at W0 70 #[.int .i64 q1, .int .i64 q2, .int .i64 q3] (w.heap.size + 1) hz0.symm).drew
  have mN := (kN.alloc (.cells #[.int .i64 q1, .int .i64 q2, .int .i64 q3] 70)).drew
  have mb := (kb.alloc (by rw [hz0]; omega) (.cells #[.int .i64 q1, .int .i64 q2, .int .i64 q3] 70)).drew
  have hl3 := look_holdT mN i hi
  rw [← hho, ← hq6] at hl3
  obtain ⟨g1, hg1⟩ : ∃ g, g = ho.id := ⟨_, rfl⟩
  obtain ⟨g2, hg2⟩ : ∃ g, g = ho.acct := ⟨_, rfl⟩
  obtain ⟨g3, hg3⟩ : ∃ g, g = ho.cur := ⟨_, rfl⟩
  obtain ⟨g4, hg4⟩ : ∃ g, g = ho.amt := ⟨_, rfl⟩
  rw [← hg1, ← hg2, ← hg3, ← hg4] at hl3
  have hp := hW.lt
  have o1 := m1.alloc (.cells #[.string g1, .string g2, .string g3, .int .i64 g4] 66)
  have o2 := m2.alloc (.cells #[.string g1, .string g2, .string g3, .int .i64 g4] 66)
  have o3 := m3.alloc (.cells #[.string g1, .string g2, .string g3, .int .i64 g4] 66)
  have ob := mb.alloc (by simp; omega) (.cells #[.string g1, .string g2, .string g3, .int .i64 g4] 66)
  have H1 := hide (And.intro o1 (And.intro o2 (And.intro o3 ob)))
  have cM := m1.cells
  have HGD := hide (And.intro hi (And.intro ha hu))
  have HW0 := hide hW0
  have HZ0 := hide hz0
  have hz1 : w.heap.size < W0.heap.size := by omega
  clear h hW k1 k2 kM kN kb m1 m2 m3 mN mb o1 o2 o3 ob hq1 hq2 hq3 hq4 hq5 hq6 hho hg1 hg2 hg3 hg4 hoE hsm ha hu hi hz0
  go_enter Try.func12, Try.ntmps12
  go_wp2_with fail
  rw [← unhide HW0]
  clear hW0
  go_region
  clear cP cP2 cK cK2 hl1 hl2
  rw [unhide HZ0]
  go_wp2_with fail
  (with_reducible refine (unhide HNM _).mono ?_); rintro e w1 ⟨rfl, hb⟩
  have H2 := hide (And.intro ((unhide H1).1.after hb) (And.intro ((unhide H1).2.1.after hb) (And.intro ((unhide H1).2.2.1.after hb) ((unhide H1).2.2.2.trans (hb.mono (unhide H1).2.2.2.size)))))
  clear hb H1 HNM cM hl3
  obtain ⟨n1, hn1⟩ : ∃ b, b = okName i := ⟨_, rfl⟩
  rw [← hn1] at HE ⊢
  have HNM := hide hn1
  clear hn1
  cases n1
  · have HX := hide (show holdE s i a u sum = 1 by rw [unhide HE]; rfl)
    go_wp2_with fail
    go_ret
    exact ⟨by rw [unhide HX]; rfl, .bad (unhide HL) (unhide H2).2.2.2 (by rw [unhide HX]; decide)⟩
  · cases q6
    case true =>
      have HX := hide (show holdE s i a u sum = 5 by rw [unhide HE]; rfl)
      go_wp2_with fail
      go_ret
      exact ⟨by rw [unhide HX]; rfl, .bad (unhide HL) (unhide H2).2.2.2 (by rw [unhide HX]; decide)⟩
    case false =>
      cases q4
      · have HX := hide (show holdE s i a u sum = 4 by rw [unhide HE]; rfl)
        go_wp2_with fail
        go_ret
        exact ⟨by rw [unhide HX]; rfl, .bad (unhide HL) (unhide H2).2.2.2 (by rw [unhide HX]; decide)⟩
      · by_cases hr : sum < 1 ∨ mostI < sum
        · have HX := hide (show holdE s i a u sum = 3 by rw [unhide HE, if_neg (by simp), if_neg (by simp), if_neg (by simp), if_pos hr])
          have hway : decide (sum < 1) = true ∨ (decide (sum < 1) = false ∧ decide (1099511627776 < sum) = true) := by
            unfold mostI at hr
            by_cases h1 : sum < 1
            · exact .inl (by simpa using h1)
            · exact .inr ⟨by simpa using h1, by rw [decide_eq_true_eq]; omega⟩
          clear hr
          rcases hway with d1 | ⟨d1, d2⟩
          all_goals
            go_wp2_with fail
            go_ret
            exact ⟨by rw [unhide HX]; rfl, .bad (unhide HL) (unhide H2).2.2.2 (by rw [unhide HX]; decide)⟩
        · have d1 : decide (sum < 1) = false := by rw [decide_eq_false_iff_not]; omega
          have d2 : decide (1099511627776 < sum) = false := by rw [decide_eq_false_iff_not]; unfold mostI at hr; omega
          have HR := hide hr
          clear hr
          have cA := (unhide H2).2.2.1.cells
          go_wp2_with fail
          (with_reducible refine (unhide HFR _).mono ?_); rintro e w2 ⟨rfl, hb⟩
          have H3 := hide (And.intro ((unhide H2).1.after hb) (And.intro ((unhide H2).2.1.after hb) ((unhide H2).2.2.2.trans (hb.mono (unhide H2).2.2.2.size))))
          clear hb H2 HFR cA
          by_cases hf : q5 < sum
          · have HX := hide (show holdE s i a u sum = 10 by rw [unhide HE, if_neg (by simp), if_neg (by simp), if_neg (by simp), if_neg (unhide HR), if_pos hf])
            have d3 : decide (q5 < sum) = true := by simpa using hf
            clear hf
            go_wp2_with fail
            go_ret
            exact ⟨by rw [unhide HX]; rfl, .bad (unhide HL) (unhide H3).2.2 (by rw [unhide HX]; decide)⟩
          · have HX := hide (show holdE s i a u sum = 0 by rw [unhide HE, if_neg (by simp), if_neg (by simp), if_neg (by simp), if_neg (unhide HR), if_neg hf])
            have d3 : decide (q5 < sum) = false := by simpa using hf
            have hnone : findH s.H i = none := by
              cases hf : findH s.H i with
              | none => rfl
              | some x => have := (unhide HV).2.2.2.2; rw [hf] at this; cases this
            have hL3 := (unhide HL).after (unhide H3).2.2
            obtain ⟨z, hz, hlen⟩ := hL3.hol.len Try.underlying73 3
            have hlen1 := hlen w2 rfl
            have hzz : decide ((4096 : Int) ≤ (z : Int)) = false := by rw [decide_eq_false_iff_not]; omega
            have hzz2 : decide (4096 ≤ z) = false := by rw [decide_eq_false_iff_not]; omega
            have cP := (unhide H3).1.cells
            have cK := (unhide H3).2.1.cells
            have hsum : 0 < sum ∧ sum ≤ 1099511627776 := by have := unhide HR; unfold mostI at this; omega
            have hthr : (findA s.A a u).isSome = true := (unhide HV).2.2.2.1.symm
            have HL3 := hide hL3; have HNO := hide hnone; have HTH := hide hthr
            have HSUM := hide hsum
            clear hL3 hlen hz hnone hf hsum hthr
            have hgi : txtKeys.good i := (unhide HGD).1
            have HGI := hide hgi
            clear hgi
            go_wp2_with (at_mapUpdate; refine wpList_put _ rfl _ _ _ 73 rfl (J := txtKeys) Try.underlying73 rfl (unhide HL3).hol (by unfold maxLen; omega) (y := i) (unhide HGI) (val := .agg #[.string i, .string a, .string u, .int .i64 sum]) rfl rfl ?_; intro w4 hm4 hg4; have HM4 := hide (And.intro hm4 hg4); clear hm4 hg4; have cP := ((unhide H3).1.turn (turn_row (S := fun b => b = mh) (unhide HM4).2 rfl) (unhide HL3).dist.2.1).cells; have cK := ((unhide H3).2.1.turn (turn_row (S := fun b => b = mh) (unhide HM4).2 rfl) (by have := (unhide HL).hol.lt; omega)).cells)
            have hok' := (unhide HL3).ok.held (unhide HX)
            have ht4 := turn_row (S := fun b => b = mh) (unhide HM4).2 rfl
            have hM4 : MapAt keyKeys w4 ma n (accF s) := (unhide HL3).acc.turn ht4 (unhide HL3).dist.2.2.1
            have hW4 := (unhide H3).1.turn ht4 (unhide HL3).dist.2.1
            have hkeep := keep_any w4 p ma mh n v ow a u sum (flOf s a u) (balOf s a u) (heOf s a u) (heOf s a u + sum) (accF s) hW4 hM4 (unhide HL3).dist.1 (by omega) (unhide HGD).2.1 (unhide HGD).2.2 (fun W h => look_accF h a u (unhide HGD).2.1 (unhide HGD).2.2) (IntWalk.i64_in _ (by have h1 := unhide HS3; rw [(unhide HV).2.2.1] at h1; have h2 := unhide HSUM; omega))
            have HK := hide hkeep
            clear hok' ht4 hM4 hW4 hkeep
            (with_reducible refine (unhide HK).mono ?_); rintro e w5 ⟨rfl, hM, hg⟩
            have HF := hide (And.intro hM hg)
            clear hM hg
            go_wp2_with fail
            go_ret
            refine ⟨by rw [unhide HX]; rfl, ?_⟩
            unfold HoldQ
            rw [if_pos (unhide HX)]
            obtain ⟨hM, hg⟩ := unhide HF
            obtain ⟨hN, hg4⟩ := unhide HM4
            have t1 : Turn (fun b => b = ma ∨ b = mh) w2 w4 := turn_row hg4 (.inr rfl)
            have t2 : Turn (fun b => b = ma ∨ b = mh) w4 w5 := turn_row hg (.inl rfl)
            have hN5 := hN.turn (turn_row (S := fun b => b = ma) hg rfl) (fun e => (unhide HL3).dist.2.2.1 e.symm)
            refine ⟨(unhide HL3).newBoth (t1.trans t2) ((unhide HL).ok.held (unhide HX)).1 rfl (hM.congr fun y _ => (accF_held (s := s) (s' := holdS s i a u sum) rfl (heldOf_hold s i a u sum) (unhide HTH) y).symm) (hN5.congr fun y _ => (holdF_hold s i a u sum (unhide HNO) y).symm) (Nat.le_succ _), ?_⟩
            exact (Turn.of_below (unhide H3).2.2).trans ((t1.trans t2).mono fun b _ hb => hb.elim (fun e => .inr (.inl e)) (fun e => .inr (.inr (.inl e))))

theorem holdF_less {s : Lg} {g : Ho} (sum : Int) (y : ByteArray) : holdF (lessS s g sum) y = if y = g.id then (if g.amt - sum = 0 then none else some (.agg #[.string g.id, .string g.acct, .string g.cur, .int .i64 (g.amt - sum)])) else holdF s y := by
  unfold holdF lessS
  simp only
  by_cases h0 : g.amt - sum = 0
  · rw [if_pos h0, List.append_nil, findH_drop]
    by_cases e : y = g.id
    · rw [if_pos e, if_pos e, if_pos h0]; rfl
    · rw [if_neg e, if_neg e]
  · rw [if_neg h0, findH_snoc, findH_drop]
    by_cases e : y = g.id
    · subst e; rw [if_pos rfl, if_pos rfl, if_neg h0, if_pos rfl]; rfl
    · rw [if_neg e, if_neg e, if_neg (fun h => e h.symm), Option.or_none]
theorem heldOf_less' {s : Lg} (h : LgOk s) {g : Ho} (hg : g ∈ s.H) (sum : Int) (n c : ByteArray) : heldOf (lessS s g sum).H n c = heldOf s.H n c + if n = g.acct ∧ c = g.cur then -sum else 0 := by
  rw [heldOf_less h hg]
  by_cases h1 : g.acct = n
  · by_cases h2 : g.cur = c
    · subst h1 h2; simp [isH]; omega
    · have h2' : ¬ c = g.cur := fun e => h2 e.symm
      simp [isH, h2, h2']
  · have h1' : ¬ n = g.acct := fun e => h1 e.symm
    simp [isH, h1, h1']

/-- 'delete(m, k)' at the operation, for the walk -/
theorem wpList_del {P : Program} (w : World) {ops : Array Oper} {rest : List Oper} {o : Oper} {a : Act} {Q : Exit → Act → World → Prop}
    (hgd : o.guard = none) (m x : Operand) (t k : TypeId) (ho : o.op = .call { callee := .builtin .delete, args := #[m, x], argTypes := #[t, k] }) {e : TypeId} {κ : Type} [DecidableEq κ] {J : Keying P k κ} (ht : P.underlying t = some (.map k e)) {b n : Nat} {f : κ → Option Value}
    (hm : a.eval m = .map (some b)) (h : MapAt J w b n f) {y : κ} (hy : J.good y) (hx : a.eval x = J.kv y)
    (hK : ∀ w', MapAt J w' b n (fun z => if z = y then none else f z) → w.grownBy w' (some b) → wpList P ops Q rest (a.put o.dst (.tuple #[])) w') :
    wpList P ops Q (o :: rest) a w := by
  refine wpList_plain hgd fun K' hK' => ?_
  obtain ⟨w', hrun, r1, r2⟩ := h.del ht hy o.type
  unfold Oper.wp execOp
  simp only [ho, resolve, invoke, builtin, Sem.run_bind, Sem.run_pure, Result.andThen_ok, List.map_toArray, List.map_cons, List.map_nil, hm, hx, hrun]
  exact hK' _ _ (hK w' r1 r2)

set_option maxHeartbeats 8000000 in
set_option maxRecDepth 100000 in
theorem less_any (w : World) (base p ma mh n : Nat) (s : Lg) (v : Value) (g : Ho) (sum : Int) (h : LedgerAt w base p s ma mh v n) (hn : n ≤ 4000) (hg : findH s.H g.id = some g) (h1 : 1 ≤ sum) (h2 : sum ≤ g.amt) (hi : g.id.size ≤ maxLen) (ha : g.acct.size ≤ maxLen) (hu : g.cur.size ≤ maxLen) :
    Calls Try.prog 36 #[.pointer (some ⟨p, 0, none⟩), .agg #[.string g.id, .string g.acct, .string g.cur, .int .i64 g.amt], .int .i64 sum] w fun e w' => e = .returned (.tuple #[]) ∧ LedgerAt w' base p (lessS s g sum) ma mh v (n + 1) ∧ Turn (fun b => b = ma ∨ b = mh) w w' := by
  obtain ⟨ow, hW⟩ := h.main
  obtain ⟨hgm, _⟩ := findH_some hg
  have hgo := h.ok.hold g hgm
  obtain ⟨q1, q2, q3, ax, hax⟩ := hgo
  unfold mostI at q3
  have hsm := look_small h.ok g.acct g.cur
  unfold mostI at hsm
  have hth : (findA s.A g.acct g.cur).isSome = true := by rw [hax]; rfl
  have HL := hide h
  have HQ := hide (And.intro hgm hth)
  have HQ2 := hide (And.intro h1 h2)
  obtain ⟨am, ham⟩ : ∃ z, z = g.amt := ⟨_, rfl⟩
  obtain ⟨z, hz⟩ : ∃ z, z = am - sum := ⟨_, rfl⟩
  have k1 := hW.alloc (.cells #[.string g.id, .string g.acct, .string g.cur, .int .i64 am] 66)
  have k2 := Whole.made w 66 #[.string g.id, .string g.acct, .string g.cur, .int .i64 am]
  have kL := h.alloc (.cells #[.string g.id, .string g.acct, .string g.cur, .int .i64 am] 66)
  have hr : IntKind.i64.wrap (heOf s g.acct g.cur + -sum) = heOf s g.acct g.cur + -sum := IntWalk.i64_in _ (by omega)
  have hK := keep_any (w.alloc (.cells #[.string g.id, .string g.acct, .string g.cur, .int .i64 am] 66)) p ma mh n v ow g.acct g.cur (-sum) (flOf s g.acct g.cur) (balOf s g.acct g.cur) (heOf s g.acct g.cur) _ (accF s) k1 kL.acc h.dist.1 (by omega) ha hu (fun W h => look_accF h g.acct g.cur ha hu) hr
  have cH := k2.cells
  have hp := hW.lt
  have hmhl := h.hol.lt
  have cn1 : IntKind.i64.wrap (-sum) = -sum := IntWalk.i64_in _ (by omega)
  have cn2 : IntKind.i64.wrap (0 - sum) = -sum := by rw [Int.zero_sub]; exact cn1
  have cz : IntKind.i64.wrap (am - sum) = z := by rw [hz]; exact IntWalk.i64_in _ (by omega)
  have HK := hide hK
  have H1 := hide (And.intro k1 (And.intro k2 kL))
  have HSZ := hide (And.intro hi (And.intro ha hu))
  have HZ := hide (And.intro ham hz)
  have HB := hide ((Below.refl w.heap.size w).alloc (Nat.le_refl _) (.cells #[.string g.id, .string g.acct, .string g.cur, .int .i64 am] 66))
  rw [← ham]
  clear h hW k1 k2 kL hK hg hgm hax hth hsm hr hi ha hu ham hz h1 h2 q1 q2 q3
  go_enter Try.func36, Try.ntmps36
  go_wp2_with fail
  (with_reducible refine (unhide HK).mono ?_); rintro e w2 ⟨rfl, hM, hg⟩
  have t1 : Turn (fun b => b = ma) _ _ := turn_row hg rfl
  have d1 := (unhide H1).1.turn t1 (unhide HL).dist.1
  have d2 := (unhide H1).2.1.turn t1 (by have := (unhide HL).acc.lt; omega)
  have dN := (unhide H1).2.2.hol.turn t1 (fun e => (unhide HL).dist.2.2.1 e.symm)
  have cH := d2.cells
  have sH := d2.soft
  have e1 := (d1.putFar (p := ⟨w.heap.size, 3, none⟩) (by show p ≠ w.heap.size; omega) (.int .i64 z)).drew
  have e2 := (d2.put 3 (.int .i64 z)).drew
  have eN := (dN.setCell (a := ⟨w.heap.size, 3, none⟩) (by show mh ≠ w.heap.size; omega) (.int .i64 z)).drew
  have t1' : Turn (fun b => b = ma ∨ b = mh) w w2 := (Turn.of_below (unhide HB)).trans (t1.mono fun b _ hb => .inl hb)
  have t2 := (t1'.setCell (p := ⟨w.heap.size, 3, none⟩) (.inr (Nat.le_refl _)) (.int .i64 z)).drew
  have eM := (hM.setCell (a := ⟨w.heap.size, 3, none⟩) (by show ma ≠ w.heap.size; have := (unhide HL).acc.lt; omega) (.int .i64 z)).drew
  have H2 := hide (And.intro e1 (And.intro e2 (And.intro eN (And.intro t2 eM))))
  have hgid : txtKeys.good g.id := (unhide HSZ).1
  have HGI := hide hgid
  clear hM hg t1 d1 d2 dN e1 e2 eN t1' t2 eM hgid HK H1
  have cP := (unhide H2).1.cells
  have cG := (unhide H2).2.1.cells
  by_cases hz0 : z = 0
  · have v1 : (z == 0) = true := by simpa using hz0
    have HZ0 := hide hz0
    clear hz0
    go_wp2_with fail
    refine wp_tail 6 (by kernel_rfl) (by kernel_rfl) ?_
    simp only [List.take_succ_cons, List.take_zero, List.drop_succ_cons, List.drop_zero]
    repeat still_step
    refine wpStill_nil ?_
    clear cP cG cH sH
    refine wpList_del _ rfl (.tmp 26) (.tmp 28) 73 9 rfl (J := txtKeys) Try.underlying73 rfl (unhide H2).2.2.1 (y := g.id) (unhide HGI) rfl ?_
    intro w4 hm4 hg4
    have HM4 := hide (And.intro hm4 hg4)
    clear hm4 hg4
    simp only [Act.put]
    go_wp2_with fail
    refine bodyPost_ret (results_none rfl _ _ _) rfl ?_
    obtain ⟨e1, e2, eN, t2, eM⟩ := unhide H2
    obtain ⟨hm4, hg4⟩ := unhide HM4
    have t4 : Turn (fun b => b = ma ∨ b = mh) _ w4 := turn_row hg4 (.inr rfl)
    have hMf := eM.turn (turn_row (S := fun b => b = mh) hg4 rfl) (unhide HL).dist.2.2.1
    obtain ⟨ham, hz⟩ := unhide HZ
    have hz0 := unhide HZ0
    refine ⟨rfl, (unhide HL).newBoth (t2.trans t4) ((unhide HL).ok.less (unhide HQ).1 (unhide HQ2).1 (unhide HQ2).2) rfl (hMf.congr fun y _ => (accF_held (s := s) (s' := lessS s g sum) rfl (heldOf_less' (unhide HL).ok (unhide HQ).1 sum) (unhide HQ).2 y).symm) ((hm4.mono (Nat.le_succ _)).congr fun y _ => ?_) (Nat.le_succ _), t2.trans t4⟩
    rw [holdF_less, if_pos (show g.amt - sum = 0 by omega)]
  · have v1 : (z == 0) = false := by simpa using hz0
    have HZ0 := hide hz0
    clear hz0
    go_wp2_with fail
    refine wp_tail 7 (by kernel_rfl) (by kernel_rfl) ?_
    simp only [List.take_succ_cons, List.take_zero, List.drop_succ_cons, List.drop_zero]
    repeat still_step
    refine wpStill_nil ?_
    clear cP cG cH sH
    go_wp2_with (at_mapUpdate; refine wpList_put _ rfl _ _ _ 73 rfl (J := txtKeys) Try.underlying73 rfl (unhide H2).2.2.1 (by unfold maxLen; omega) (y := g.id) (unhide HGI) (val := .agg #[.string g.id, .string g.acct, .string g.cur, .int .i64 z]) rfl rfl ?_; intro w4 hm4 hg4; have HM4 := hide (And.intro hm4 hg4); clear hm4 hg4)
    go_end0
    obtain ⟨e1, e2, eN, t2, eM⟩ := unhide H2
    obtain ⟨hm4, hg4⟩ := unhide HM4
    have t4 : Turn (fun b => b = ma ∨ b = mh) _ w4 := turn_row hg4 (.inr rfl)
    have hMf := eM.turn (turn_row (S := fun b => b = mh) hg4 rfl) (unhide HL).dist.2.2.1
    obtain ⟨ham, hz⟩ := unhide HZ
    have hz0 := unhide HZ0
    refine ⟨rfl, (unhide HL).newBoth (t2.trans t4) ((unhide HL).ok.less (unhide HQ).1 (unhide HQ2).1 (unhide HQ2).2) rfl (hMf.congr fun y _ => (accF_held (s := s) (s' := lessS s g sum) rfl (heldOf_less' (unhide HL).ok (unhide HQ).1 sum) (unhide HQ).2 y).symm) (hm4.congr fun y _ => ?_) (Nat.le_succ _), t2.trans t4⟩
    rw [holdF_less, if_neg (show ¬ g.amt - sum = 0 by omega), hz, ham]

/-- what an act that lets go leaves -/
def LetQ (w : World) (base p ma mh n : Nat) (s : Lg) (v : Value) (i : ByteArray) (w' : World) : Prop := LedgerAt w' base p (match findH s.H i with | some g => letS s g | none => s) ma mh v (n + 1) ∧ Turn (foot p ma mh v) w w'
set_option maxHeartbeats 4000000 in
set_option maxRecDepth 100000 in
theorem Let_any (w : World) (base p ma mh n : Nat) (s : Lg) (v : Value) (i : ByteArray) (h : LedgerAt w base p s ma mh v n) (hn : n ≤ 4000) (hi : i.size ≤ maxLen) (hs : ∀ g ∈ s.H, g.acct.size ≤ maxLen ∧ g.cur.size ≤ maxLen) :
    Calls Try.prog 17 #[.pointer (some ⟨p, 0, none⟩), .string i] w fun e w' => e = .returned (.int .i64 (letE s i)) ∧ LetQ w base p ma mh n s v i w' := by
  obtain ⟨ow, hW⟩ := h.main
  have HL := hide h
  have cP := hW.cells
  have hl := look_holdT h.hol i hi
  have hp := hW.lt
  unfold letE LetQ
  unfold hoOf at hl
  cases hf : findH s.H i with
  | none =>
    rw [hf] at hl
    simp only [Option.getD_none, noHo, Option.isSome_none] at hl
    clear h hW hf
    go_enter Try.func17, Try.ntmps17
    go_wp2_with fail
    go_ret
    have hb := (Below.refl w.heap.size w).alloc (Nat.le_refl _) (.cells #[.string ⟨#[]⟩, .string ⟨#[]⟩, .string ⟨#[]⟩, .int .i64 0] 66)
    exact ⟨rfl, ((unhide HL).after hb).mono (Nat.le_succ _), .of_below hb⟩
  | some g =>
    rw [hf] at hl
    simp only [Option.getD_some, Option.isSome_some] at hl
    obtain ⟨hgm, rfl⟩ := findH_some hf
    obtain ⟨s1, s2⟩ := hs g hgm
    have hq := h.ok.hold g hgm
    have hb := (Below.refl w.heap.size w).alloc (Nat.le_refl _) (.cells #[.string g.id, .string g.acct, .string g.cur, .int .i64 g.amt] 66)
    have hL2 := less_any (w.alloc (.cells #[.string g.id, .string g.acct, .string g.cur, .int .i64 g.amt] 66)) base p ma mh n s v g g.amt (h.alloc _) hn hf hq.2.1 (Int.le_refl _) hi s1 s2
    have HF := hide hL2
    have HB := hide hb
    clear h hW hf hq hgm hb hL2 s1 s2
    go_enter Try.func17, Try.ntmps17
    go_wp2_with fail
    (with_reducible refine (unhide HF).mono ?_); rintro e w2 ⟨rfl, hL, hT⟩
    have HX := hide (And.intro hL hT)
    clear hL hT
    go_wp2_with fail
    go_ret
    exact ⟨rfl, (unhide HX).1, (Turn.of_below (unhide HB)).trans ((unhide HX).2.mono fun b _ hb => hb.elim (fun e => .inr (.inl e)) (fun e => .inr (.inr (.inl e))))⟩
end Go.Proofs.Ytjihkoleipkgmaa
