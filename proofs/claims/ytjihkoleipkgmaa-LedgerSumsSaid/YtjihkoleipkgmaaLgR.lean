/- Walk: Take. -/
import Derived.Test.YtjihkoleipkgmaaLgS
namespace Go.Proofs.Ytjihkoleipkgmaa
set_option linter.unusedVariables false
set_option linter.unusedSimpArgs false
open Go.RowKit Go.Maps

theorem texts_ne (a b : ByteArray) : (a.toList == b.toList) = decide (a = b) := by
  rw [ByteArray.toList_eq, ByteArray.toList_eq, Bool.eq_iff_iff]
  simp only [beq_iff_eq, decide_eq_true_eq]
  exact ⟨fun h => ByteArray.ext (Array.ext' h), fun h => by rw [h]⟩
theorem eqS_true {a b : ByteArray} (h : a = b) : (a.toList == b.toList) = true := by rw [texts_ne]; simpa using h
theorem eqS_false {a b : ByteArray} (h : a ≠ b) : (a.toList == b.toList) = false := by rw [texts_ne]; simpa using h
def takeT (i : ByteArray) : ByteArray := ⟨#[116, 97, 107, 101, 32]⟩ ++ i
/-- what an act that takes leaves -/
def TakeQ (w : World) (base p ma mh n : Nat) (s : Lg) (v : Value) (i to : ByteArray) (sum : Int) (w' : World) : Prop := ∃ v', LedgerAt w' base p (if takeE s i to sum = 0 then takeS s (hoOf s i) to sum (takeT i) else s) ma mh v' (n + 2) ∧ Turn (foot p ma mh v) w w' ∧ (v'.ownBlock = v.ownBlock ∨ ∃ g, v'.ownBlock = some g ∧ w.heap.size ≤ g)
theorem TakeQ.bad {w w' : World} {base p ma mh n : Nat} {s : Lg} {v : Value} {i to : ByteArray} {sum : Int} (h : LedgerAt w base p s ma mh v n) (hb : Below w.heap.size w w') (he : takeE s i to sum ≠ 0) : TakeQ w base p ma mh n s v i to sum w' := by
  unfold TakeQ
  rw [if_neg he]
  exact ⟨v, (h.after hb).mono (by omega), .of_below hb, .inl rfl⟩
theorem takeE_eq (s : Lg) (i to : ByteArray) (sum : Int) : takeE s i to sum = if (findH s.H i).isSome = false then 4 else if thereB s to (hoOf s i).cur = false then 4 else if to = (hoOf s i).acct then 1 else if sum < 1 ∨ (hoOf s i).amt < sum then 3 else if mostI < balOf s to (hoOf s i).cur + sum then 3 else 0 := by
  unfold takeE hoOf thereB balOf
  cases findH s.H i with
  | none => simp
  | some h =>
    simp only [Option.getD_some, Option.isSome_some, if_neg (show ¬ (true = false) by simp)]
    have hx : ∀ o : Option Ac, (match o with
      | none => (4 : Int)
      | some a => if to = h.acct then 1 else if sum < 1 ∨ h.amt < sum then 3 else if mostI < a.bal + sum then 3 else 0) =
        if o.isSome = false then 4 else if to = h.acct then 1 else if sum < 1 ∨ h.amt < sum then 3 else if mostI < (match o with | some a => a.bal | none => 0) + sum then 3 else 0 := fun o => by cases o <;> simp
    exact hx _

/-- a taking, at its end -/
theorem take_end {w Wm w2 W3 W5 W6 : World} {base p ma mh n np : Nat} {Ap : Option Addr} {cp : Nat} {s s1 : Lg} {i to tx g1 g2 g3 : ByteArray} {g4 sum : Int} {xs : List En} {v6 : Value} (hL : LedgerAt w base p s ma mh (.slice Ap np cp) n) (hBm : Below w.heap.size w Wm)
    (hT2 : Turn (fun b => b = ma ∨ b = mh) Wm w2) (hb3 : Below w2.heap.size w2 W3) (hb5 : Below W3.heap.size W3 W5) (hL6 : LedgerAt W6 base p (bookS s1 tx xs) ma mh v6 (n + 1 + 1)) (hT6 : Turn (foot p ma mh (.slice Ap np cp)) W5 W6)
    (hv : v6.ownBlock = (Value.slice Ap np cp).ownBlock ∨ ∃ g, v6.ownBlock = some g ∧ W5.heap.size ≤ g) (hs1 : s1 = lessS s ⟨g1, g2, g3, g4⟩ sum) (hxs : xs = takeX ⟨g1, g2, g3, g4⟩ to sum) (hX : takeE s i to sum = 0) (hho : hoOf s i = ⟨g1, g2, g3, g4⟩) (htx : (⟨#[116, 97, 107, 101, 32]⟩ ++ i : ByteArray) = tx) :
    TakeQ w base p ma mh n s (.slice Ap np cp) i to sum W6 := by
  unfold TakeQ
  rw [if_pos hX, hho]
  subst hs1; subst hxs; subst htx
  have z1 := hBm.size
  have z2 := hT2.size
  have z3 := hb3.size
  have z5 := hb5.size
  refine ⟨v6, hL6, ?_, ?_⟩
  · have t1 : Turn (foot p ma mh (.slice Ap np cp)) w Wm := .of_below hBm
    have t2 : Turn (foot p ma mh (.slice Ap np cp)) Wm w2 := hT2.mono fun b _ hb => by
      rcases hb with rfl | rfl
      · exact .inr (.inl rfl)
      · exact .inr (.inr (.inl rfl))
    have t3 : Turn (foot p ma mh (.slice Ap np cp)) w2 W3 := .of_below hb3
    have t5 : Turn (foot p ma mh (.slice Ap np cp)) W3 W5 := .of_below hb5
    exact (((t1.trans t2).trans t3).trans t5).trans hT6
  · rcases hv with hv | ⟨g, hv, hg⟩
    · exact .inl hv
    · exact .inr ⟨g, hv, by omega⟩

set_option maxHeartbeats 8000000 in
set_option maxRecDepth 100000 in
theorem Take_any (w : World) (base p ma mh n : Nat) (s : Lg) (v : Value) (i to : ByteArray) (sum : Int) (h : LedgerAt w base p s ma mh v n) (hn : n ≤ 3900) (hi : i.size ≤ 1000) (hto : to.size ≤ maxLen) (hs : ∀ g ∈ s.H, g.acct.size ≤ maxLen ∧ g.cur.size ≤ maxLen) (hsum : -9223372036854775808 ≤ sum ∧ sum ≤ 9223372036854775807) :
    Calls Try.prog 16 #[.pointer (some ⟨p, 0, none⟩), .string i, .string to, .int .i64 sum] w fun e w' => e = .returned (.int .i64 (takeE s i to sum)) ∧ TakeQ w base p ma mh n s v i to sum w' := by
  obtain ⟨ow, hW⟩ := h.main
  obtain ⟨ts, -, ht2, -⟩ := h.row
  obtain ⟨np, hnp⟩ : ∃ k, k = s.P.length := ⟨_, rfl⟩
  rw [← hnp] at ht2
  obtain ⟨Ap, cp, hv, -, -, -, -⟩ := list_of_own ht2
  have hnp4 : np ≤ 3900 := by have := h.np; omega
  have HL := hide h
  have hil : i.size ≤ maxLen := by unfold maxLen; omega
  have cP := hW.cells
  have hl := look_holdT h.hol i hil
  have htE := takeE_eq s i to sum
  obtain ⟨ho, hho⟩ : ∃ g, g = hoOf s i := ⟨_, rfl⟩
  obtain ⟨q6, hq6⟩ : ∃ q, q = (findH s.H i).isSome := ⟨_, rfl⟩
  rw [← hho, ← hq6] at hl htE
  have hcur : ho.cur.size ≤ maxLen := by
    rw [hho]; unfold hoOf
    cases hf : findH s.H i with
    | none => exact Nat.zero_le _
    | some g => exact (hs g (findH_some hf).1).2
  obtain ⟨g1, hg1⟩ : ∃ g, g = ho.id := ⟨_, rfl⟩
  obtain ⟨g2, hg2⟩ : ∃ g, g = ho.acct := ⟨_, rfl⟩
  obtain ⟨g3, hg3⟩ : ∃ g, g = ho.cur := ⟨_, rfl⟩
  obtain ⟨g4, hg4⟩ : ∃ g, g = ho.amt := ⟨_, rfl⟩
  rw [← hg1, ← hg2, ← hg3, ← hg4] at hl
  rw [← hg2, ← hg3, ← hg4] at htE
  rw [← hg3] at hcur
  have hsm := look_small h.ok to g3
  unfold mostI at hsm htE
  have k1 := hW.alloc (.cells #[.string g1, .string g2, .string g3, .int .i64 g4] 66)
  have k2 := Whole.made w 66 #[.string g1, .string g2, .string g3, .int .i64 g4]
  have kM := h.acc.alloc (.cells #[.string g1, .string g2, .string g3, .int .i64 g4] 66)
  have kL := h.alloc (.cells #[.string g1, .string g2, .string g3, .int .i64 g4] 66)
  have kb := (Below.refl w.heap.size w).alloc (Nat.le_refl _) (.cells #[.string g1, .string g2, .string g3, .int .i64 g4] 66)
  have hl1 := look_accT kM.drew to g3 hto hcur
  have hl2 := fun o => look_accT (kM.alloc o).drew to g3 hto hcur
  obtain ⟨q1, hq1⟩ : ∃ q, q = flOf s to g3 := ⟨_, rfl⟩
  obtain ⟨q2, hq2⟩ : ∃ q, q = balOf s to g3 := ⟨_, rfl⟩
  obtain ⟨q3, hq3⟩ : ∃ q, q = heOf s to g3 := ⟨_, rfl⟩
  obtain ⟨q4, hq4⟩ : ∃ q, q = thereB s to g3 := ⟨_, rfl⟩
  rw [← hq1, ← hq2, ← hq3, ← hq4] at hl1
  simp only [← hq1, ← hq2, ← hq3, ← hq4] at hl2
  rw [← hq2, ← hq4] at htE
  rw [← hq1, ← hq2, ← hq3] at hsm
  have hp := hW.lt
  have cQ := k1.drew.cells
  have cQ2 := fun o => (k1.alloc o).drew.cells
  have cK := k2.drew.cells
  have cK2 := fun o => (k2.alloc o).drew.cells
  have HB := hide (fun o => (kb.alloc kb.size o).drew)
  have HM := hide (fun o => And.intro ((k1.alloc o).drew) (And.intro ((k2.alloc o).drew) (kL.alloc o).drew))
  have HE := hide htE
  have HV := hide (And.intro hho (And.intro hq6 (And.intro hg1 (And.intro hg2 (And.intro hg3 (And.intro hg4 (And.intro hq2 hq4)))))))
  have HSZ := hide (And.intro hil (And.intro hto (And.intro hcur hs)))
  have hq2b : -1099511627776 ≤ q2 ∧ q2 ≤ 1099511627776 := by omega
  have HQ2 := hide hq2b
  have HNP := hide hnp
  subst hv
  clear h hW ht2 hnp hil hto hcur hs hho hq6 hg1 hg2 hg3 hg4 hq1 hq2 hq3 hq4 htE hsm k1 k2 kM kL kb hq2b
  go_enter Try.func16, Try.ntmps16
  go_wp2_with fail
  go_region
  clear cP cQ cQ2 cK cK2 hl hl1 hl2
  cases q6
  case false =>
    have HX := hide (show takeE s i to sum = 4 by rw [unhide HE]; rfl)
    go_wp2_with fail
    go_ret
    exact ⟨by rw [unhide HX]; rfl, .bad (unhide HL) (unhide HB _) (by rw [unhide HX]; decide)⟩
  case true =>
    cases q4
    case false =>
      have HX := hide (show takeE s i to sum = 4 by rw [unhide HE]; rfl)
      go_wp2_with fail
      go_ret
      exact ⟨by rw [unhide HX]; rfl, .bad (unhide HL) (unhide HB _) (by rw [unhide HX]; decide)⟩
    case true =>
      by_cases hne : to = g2
      · subst hne
        have HX := hide (show takeE s i to sum = 1 by rw [unhide HE, if_neg (by simp), if_neg (by simp), if_pos rfl])
        go_wp2_with fail
        go_ret
        exact ⟨by rw [unhide HX]; rfl, .bad (unhide HL) (unhide HB _) (by rw [unhide HX]; decide)⟩
      · have n1 : (to.toList == g2.toList) = false := eqS_false hne
        have n2 : (g2.toList == to.toList) = false := eqS_false (fun e => hne e.symm)
        by_cases hr : sum < 1 ∨ g4 < sum
        · have HX := hide (show takeE s i to sum = 3 by rw [unhide HE, if_neg (by simp), if_neg (by simp), if_neg hne, if_pos hr])
          have hway : decide (sum < 1) = true ∨ (decide (sum < 1) = false ∧ decide (g4 < sum) = true) := by
            by_cases h1 : sum < 1
            · exact .inl (by simpa using h1)
            · exact .inr ⟨by simpa using h1, by rw [decide_eq_true_eq]; omega⟩
          clear hr
          rcases hway with d1 | ⟨d1, d2⟩
          all_goals
            go_wp2_with fail
            go_ret
            exact ⟨by rw [unhide HX]; rfl, .bad (unhide HL) (unhide HB _) (by rw [unhide HX]; decide)⟩
        · have d1 : decide (sum < 1) = false := by rw [decide_eq_false_iff_not]; omega
          have d2 : decide (g4 < sum) = false := by rw [decide_eq_false_iff_not]; omega
          have d3 : decide ((4096 : Int) ≤ (np : Int)) = false := by rw [decide_eq_false_iff_not]; omega
          have d4 : decide (4096 ≤ np) = false := by rw [decide_eq_false_iff_not]; omega
          obtain ⟨v1, v2, v3, v4, v5, v6, v7, v8⟩ := unhide HV
          obtain ⟨g, hg⟩ : ∃ g, findH s.H i = some g := Option.isSome_iff_exists.1 v2.symm
          have hgo : hoOf s i = g := by unfold hoOf; rw [hg]; rfl
          have hge : g = ⟨g1, g2, g3, g4⟩ := by rw [v3, v4, v5, v6, v1, hgo]
          obtain ⟨hgm, hid⟩ := findH_some hg
          have hid1 : g1 = i := by rw [v3, v1, hgo]; exact hid
          subst hge
          have hgk := (unhide HL).ok.hold _ hgm
          obtain ⟨hgn, k1, k2, ag, hag⟩ := hgk
          simp only at k1 k2 hag
          unfold mostI at k2
          have hrr : 1 ≤ sum ∧ sum ≤ g4 := by omega
          have cz : IntKind.i64.wrap (q2 + sum) = q2 + sum := IntWalk.i64_in _ (by have := unhide HQ2; omega)
          obtain ⟨z, hz⟩ : ∃ z, z = q2 + sum := ⟨_, rfl⟩
          have cz1 : IntKind.i64.wrap (q2 + sum) = z := by rw [hz]; exact cz
          have cz2 : wrap64 (q2 + sum) = z := by rw [← IntWalk.i64_left]; exact cz1
          have cn : IntKind.i64.wrap (-sum) = -sum := IntWalk.i64_in _ (by omega)
          have cn2 : wrap64 (-sum) = -sum := by rw [← IntWalk.i64_left]; exact cn
          have HR := hide hr
          have HNE := hide hne
          obtain ⟨ow4, hW4⟩ := (unhide HL).main
          have cP4 := hW4.cells 2
          simp only [List.getElem?_toArray, List.getElem?_cons_zero, List.getElem?_cons_succ] at cP4
          clear hW4
          by_cases ho : 1099511627776 < z
          · have HX := hide (show takeE s i to sum = 3 by rw [unhide HE, if_neg (by simp), if_neg (by simp), if_neg hne, if_neg hr, if_pos (by rw [← hz]; exact ho)])
            have e1 : decide ((1099511627776 : Int) < z) = true := by rw [decide_eq_true_eq]; exact ho
            clear cz cn cn2 v1 v2 v3 v4 v5 v6 v7 v8 hg hgo hgm hid hgn k1 k2 hag hrr hr hne ho hz hid1
            go_wp2_with fail
            go_ret
            exact ⟨by rw [unhide HX]; rfl, .bad (unhide HL) (unhide HB _) (by rw [unhide HX]; decide)⟩
          · have HX := hide (show takeE s i to sum = 0 by rw [unhide HE, if_neg (by simp), if_neg (by simp), if_neg hne, if_neg hr, if_neg (by rw [← hz]; exact ho)])
            have e1 : decide ((1099511627776 : Int) < z) = false := by rw [decide_eq_false_iff_not]; exact ho
            obtain ⟨ta, hta⟩ : ∃ a, findA s.A to g3 = some a := by
              have := v8.symm; unfold thereB at this; exact Option.isSome_iff_exists.1 this
            have hbal : ta.bal + sum ≤ mostI := by
              have e : balOf s to g3 = ta.bal := by unfold balOf; rw [hta]
              rw [e] at v7; unfold mostI; omega
            have HALL := hide (take_all (unhide HL).ok hgm (to := to) hta hne hrr.1 hrr.2 hbal)
            have HIN := hide (take_in (s := s) (h := ⟨g1, g2, g3, g4⟩) (to := to) (sum := sum) (by rw [hag]; rfl) (by rw [hta]; rfl))
            have HCF := hide (chF_take (h := ⟨g1, g2, g3, g4⟩) (sum := sum) hne)
            have HHO := hide hgo
            have HID := hide hid1
            have hM := (unhide HM) (.cells #[.int .i64 q1, .int .i64 q2, .int .i64 q3] 70)
            have hBm := (unhide HB) (.cells #[.int .i64 q1, .int .i64 q2, .int .i64 q3] 70)
            obtain ⟨Wm, hWm⟩ : ∃ W, W = ((w.alloc (.cells #[.string g1, .string g2, .string g3, .int .i64 g4] 66)).alloc (.cells #[.int .i64 q1, .int .i64 q2, .int .i64 q3] 70)).drew := ⟨_, rfl⟩
            rw [← hWm] at hM hBm
            have hgs := (unhide HSZ).2.2.2 _ hgm
            have hLE : Calls Try.prog 36 #[.pointer (some ⟨p, 0, none⟩), .agg #[.string g1, .string g2, .string g3, .int .i64 g4], .int .i64 sum] Wm fun e w' => e = .returned (.tuple #[]) ∧ LedgerAt w' base p (lessS s ⟨g1, g2, g3, g4⟩ sum) ma mh (.slice Ap np cp) (n + 1) ∧ Turn (fun b => b = ma ∨ b = mh) Wm w' :=
              less_any Wm base p ma mh n s (.slice Ap np cp) ⟨g1, g2, g3, g4⟩ sum hM.2.2 (by omega) (by rw [← hid1] at hg; exact hg) hrr.1 hrr.2 (by show g1.size ≤ maxLen; rw [hid1]; exact (unhide HSZ).1) hgs.1 hgs.2
            have HLE := hide hLE
            have HK2 := hide hM.2.1
            have HBM := hide hBm
            have HWm := hide hWm
            have HGS := hide hgs
            have cN : Hid (LedgerAt Wm base p s ma mh (.slice Ap np cp) n) := hide hM.2.2
            have hmal := (unhide HL).acc.lt
            have hmhl := (unhide HL).hol.lt
            clear cz v1 v2 v3 v4 v5 v6 v7 v8 hg hgo hgm hid hgn k1 k2 hag hrr hr hne ho hz hid1 hta hbal hM hBm hLE hgs
            go_wp2_with fail
            rw [← hWm]
            clear hWm
            (with_reducible refine (unhide HLE).mono ?_); rintro e w2 ⟨rfl, hL2, hT2⟩
            have hk2 := (unhide HK2).turn hT2 (fun e => by omega)
            have HL2 := hide (And.intro hL2 hT2)
            have HK := hide hk2
            have cK := hk2.cells
            clear hL2 hT2 hk2 cz1 cz2
            go_wp2_with fail
            have HCN := hide (And.intro cn cn2)
            clear cK cP4 cn cn2
            have hlx := list_made enR w2 w2.heap.size rfl 44 (takeX ⟨g1, g2, g3, g4⟩ to sum)
            have hlx : ListIn enR (w2.alloc (.cells #[.string g2, .string g3, .int .i64 (-sum), .string to, .string g3, .int .i64 sum] 44)) (w2.alloc (.cells #[.string g2, .string g3, .int .i64 (-sum), .string to, .string g3, .int .i64 sum] 44)).heap.size (some ⟨w2.heap.size, 0, none⟩) (takeX ⟨g1, g2, g3, g4⟩ to sum) := hlx
            have hk3 := (unhide HK).alloc (.cells #[.string g2, .string g3, .int .i64 (-sum), .string to, .string g3, .int .i64 sum] 44)
            have hb3 := (Below.refl w2.heap.size w2).alloc (Nat.le_refl _) (.cells #[.string g2, .string g3, .int .i64 (-sum), .string to, .string g3, .int .i64 sum] 44)
            have hz3 : (w2.alloc (.cells #[.string g2, .string g3, .int .i64 (-sum), .string to, .string g3, .int .i64 sum] 44)).heap.size = w2.heap.size + 1 := by simp
            generalize (w2.alloc (.cells #[.string g2, .string g3, .int .i64 (-sum), .string to, .string g3, .int .i64 sum] 44)) = W3 at hlx hk3 hb3 hz3 ⊢
            have hgd1 : keyKeys.good (g2, g3) := unhide HGS
            have hgd2 : keyKeys.good (to, g3) := ⟨(unhide HSZ).2.1, (unhide HGS).2⟩
            have hM0 := (MapAt.made keyKeys W3).drew
            obtain ⟨w4, hi1, hM4, hg4⟩ := hM0.put (t := 82) Try.underlying82 (by unfold maxLen; omega) hgd1 (.int .i64 (-sum))
            obtain ⟨w5, hi2, hM5, hg5⟩ := hM4.put (t := 82) Try.underlying82 (by unfold maxLen; omega) hgd2 (.int .i64 sum)
            obtain ⟨w7, hi3, hM7, hg7⟩ := hM0.put (t := 82) Try.underlying82 (by unfold maxLen; omega) hgd2 (.int .i64 sum)
            obtain ⟨w8, hi4, hM8, hg8⟩ := hM7.put (t := 82) Try.underlying82 (by unfold maxLen; omega) hgd1 (.int .i64 (-sum))
            have hi1 : (Instr.mapUpdate 82 (.map (some W3.heap.size)) (.agg #[.string g2, .string g3]) (.int .i64 (-sum))).run Try.prog (W3.alloc (.map #[] 0)).drew = .ok () w4 := hi1
            have hi2 : (Instr.mapUpdate 82 (.map (some W3.heap.size)) (.agg #[.string to, .string g3]) (.int .i64 sum)).run Try.prog w4 = .ok () w5 := hi2
            have hi3 : (Instr.mapUpdate 82 (.map (some W3.heap.size)) (.agg #[.string to, .string g3]) (.int .i64 sum)).run Try.prog (W3.alloc (.map #[] 0)).drew = .ok () w7 := hi3
            have hi4 : (Instr.mapUpdate 82 (.map (some W3.heap.size)) (.agg #[.string g2, .string g3]) (.int .i64 (-sum))).run Try.prog w7 = .ok () w8 := hi4
            have hwm := (unhide HBM).size
            have hw2 := (unhide HL2).2.size
            have hb0 : Below W3.heap.size W3 (W3.alloc (.map #[] 0)).drew := ((Below.refl W3.heap.size W3).alloc (Nat.le_refl _) (.map #[] 0)).drew
            have hb4 : Below W3.heap.size W3 w4 := hb0.grown hg4 (by simp) (fun q hq => by cases hq; exact Nat.le_refl _)
            have hb5 : Below W3.heap.size W3 w5 := hb4.grown hg5 (by have := hg4.size; simp at this; omega) (fun q hq => by cases hq; exact Nat.le_refl _)
            have hb7 : Below W3.heap.size W3 w7 := hb0.grown hg7 (by simp) (fun q hq => by cases hq; exact Nat.le_refl _)
            have hb8 : Below W3.heap.size W3 w8 := hb7.grown hg8 (by have := hg7.size; simp at this; omega) (fun q hq => by cases hq; exact Nat.le_refl _)
            have hk4 := hk3.after hb4
            have hk5 := hk3.after hb5
            have hk7 := hk3.after hb7
            have hk8 := hk3.after hb8
            have hL3 := (unhide HL2).1.after hb3
            have hfoot : ∀ b, foot p ma mh (.slice Ap np cp) b → b < w.heap.size := fun b hb => ((unhide HL).lt b hb).2
            have hMC : MapAt keyKeys w5 W3.heap.size 2 (chF (takeX ⟨g1, g2, g3, g4⟩ to sum)) := (hM5.mono (n' := 2) (by omega)).congr fun y _ => unhide HCF y
            have hMC8 : MapAt keyKeys w8 W3.heap.size 2 (chF (takeX ⟨g1, g2, g3, g4⟩ to sum)) := (hM8.mono (n' := 2) (by omega)).congr fun y _ => (chF_take2 (h := ⟨g1, g2, g3, g4⟩) (to := to) (sum := sum) (unhide HNE) y).trans (unhide HCF y)
            have hf1 : ∀ b off, (some ⟨w2.heap.size, 0, none⟩ : Option Addr) = some ⟨b, off, none⟩ → ¬ foot p ma mh (.slice Ap np cp) b := fun b off e hf => by
              have e2 : w2.heap.size = b := by injection e with e; injection e
              have := hfoot _ hf; omega
            have hf2 : ¬ foot p ma mh (.slice Ap np cp) W3.heap.size := fun hf => by have := hfoot _ hf; omega
            have hn1 : n + 1 ≤ 4000 := by omega
            have hlen2 : 2 = (takeX ⟨g1, g2, g3, g4⟩ to sum).length := rfl
            obtain ⟨tx, htx⟩ : ∃ tx, tx = takeT i := ⟨_, rfl⟩
            obtain ⟨s1, hs1⟩ : ∃ s1, s1 = lessS s ⟨g1, g2, g3, g4⟩ sum := ⟨_, rfl⟩
            obtain ⟨xs, hxs⟩ : ∃ xs, xs = takeX ⟨g1, g2, g3, g4⟩ to sum := ⟨_, rfl⟩
            have HIN' := unhide HIN
            have HALL' := unhide HALL
            rw [← hs1, ← hxs] at HIN' HALL'
            rw [← hs1] at hL3
            rw [← hxs] at hMC hMC8 hlx hlen2
            have hBK := book_any w5 base p ma mh (n + 1) s1 (.slice Ap np cp) tx xs (some ⟨w2.heap.size, 0, none⟩) 2 2 W3.heap.size 2 (hL3.after hb5) hn1 (hlx.after hb5) hlen2 (by omega) hf1 hMC hf2 HIN' HALL'
            have hBK8 := book_any w8 base p ma mh (n + 1) s1 (.slice Ap np cp) tx xs (some ⟨w2.heap.size, 0, none⟩) 2 2 W3.heap.size 2 (hL3.after hb8) hn1 (hlx.after hb8) hlen2 (by omega) hf1 hMC8 hf2 HIN' HALL'
            have HBK := hide hBK
            have HBK8 := hide hBK8
            have htx' : (⟨#[116, 97, 107, 101, 32]⟩ ++ i : ByteArray) = tx := htx.symm
            have HEQ := hide (And.intro hs1 hxs)
            have hcat : (9223372036854775807 < 5 + i.size) = False := by rw [eq_iff_iff, iff_false]; omega
            have K3 := hide hk3; have K4 := hide hk4; have K5 := hide hk5; have K7 := hide hk7; have K8 := hide hk8
            have cn := (unhide HCN).1
            have cn2 := (unhide HCN).2
            have hmm := @run_makeMap Try.prog
            have c1 := hk3.drew.cells 1
            have c2 := hk3.drew.cells 2
            simp only [List.getElem?_toArray, List.getElem?_cons_zero, List.getElem?_cons_succ] at c1 c2
            have HBB := hide (And.intro hb3 (And.intro hb5 hb8))
            clear hlx hb0 hb3 hz3 hgd1 hgd2 hM0 hM4 hM5 hM7 hM8 hg4 hg5 hg7 hg8 hb4 hb5 hb7 hb8 hL3 hfoot hBK hBK8 hk3 hk4 hk5 hk7 hk8 hMC hMC8 hf1 hf2 hn1 hlen2 htx hs1 hxs HIN' HALL' hmal hmhl hwm hw2
            refine wp_region_noPanic ?_
            refine wp_region_held_drew (S := (fun w' => w'.cell? ⟨w.heap.size, 1, none⟩ = some (.string g2) ∧ w'.cell? ⟨w.heap.size, 2, none⟩ = some (.string g3))) (by kernel_rfl) ?_ (fun hHeld => ?_)
            · first | (exact ⟨(unhide K3).drew.cells 1, (unhide K3).drew.cells 2⟩) | (exact ⟨((unhide K3).alloc _).drew.cells 1, ((unhide K3).alloc _).drew.cells 2⟩) | (exact ⟨(unhide K4).cells 1, (unhide K4).cells 2⟩) | (exact ⟨(unhide K5).cells 1, (unhide K5).cells 2⟩) | (exact ⟨(unhide K7).cells 1, (unhide K7).cells 2⟩) | (exact ⟨(unhide K8).cells 1, (unhide K8).cells 2⟩) | (exact ⟨(unhide K6).cells 1, (unhide K6).cells 2⟩)
            refine wpAnyH_take (i := 0) (oi := _) (v := ?_) rfl (by kernel_rfl) (by kernel_rfl) (by kernel_rfl) (fun _ _ _ h => h) (Or.inl ⟨by rfl, ?_⟩) (by assumption) ?_
            rotate_left
            · intro W hSw; (try dsimp only at hSw); go_simp; (try with_reducible rfl)
            try simp only [Act.put, List.setIfInBounds_toArray, List.set_cons_zero, List.set_cons_succ]
            refine wpAnyH_take (i := 1) (oi := _) (v := ?_) rfl (by kernel_rfl) (by kernel_rfl) (by kernel_rfl) (fun _ _ _ h => h) (Or.inl ⟨by rfl, ?_⟩) (by assumption) ?_
            rotate_left
            · intro W hSw; (try dsimp only at hSw); go_simp; (try with_reducible rfl)
            try simp only [Act.put, List.setIfInBounds_toArray, List.set_cons_zero, List.set_cons_succ]
            refine wpAnyH_take (i := 2) (oi := _) (v := ?_) rfl (by kernel_rfl) (by kernel_rfl) (by kernel_rfl) (fun _ _ _ h => h) (Or.inl ⟨by rfl, ?_⟩) (by assumption) ?_
            rotate_left
            · intro W hSw; (try dsimp only at hSw); go_simp; (try with_reducible rfl)
            try simp only [Act.put, List.setIfInBounds_toArray, List.set_cons_zero, List.set_cons_succ]
            refine wpAnyH_take (i := 3) (oi := _) (v := ?_) rfl (by kernel_rfl) (by kernel_rfl) (by kernel_rfl) (fun _ _ _ h => h) (Or.inl ⟨by rfl, ?_⟩) (by assumption) ?_
            rotate_left
            · intro W hSw; (try dsimp only at hSw); go_simp; (try with_reducible rfl)
            try simp only [Act.put, List.setIfInBounds_toArray, List.set_cons_zero, List.set_cons_succ]
            refine wpAnyH_take (i := 5) (oi := _) (v := ?_) rfl (by kernel_rfl) (by kernel_rfl) (by kernel_rfl) (fun _ _ _ h => h) (Or.inl ⟨by rfl, ?_⟩) (by assumption) ?_
            rotate_left
            · intro W hSw; (try dsimp only at hSw); go_simp; (try with_reducible rfl)
            try simp only [Act.put, List.setIfInBounds_toArray, List.set_cons_zero, List.set_cons_succ]
            refine wpAnyH_take (i := 6) (oi := _) (v := ?_) rfl (by kernel_rfl) (by kernel_rfl) (by kernel_rfl) (fun _ _ _ h => h) (Or.inl ⟨by rfl, ?_⟩) (by assumption) ?_
            rotate_left
            · intro W hSw; (try dsimp only at hSw); go_simp; (try with_reducible rfl)
            try simp only [Act.put, List.setIfInBounds_toArray, List.set_cons_zero, List.set_cons_succ]
            refine wpAnyH_take (i := 7) (oi := _) (v := ?_) rfl (by kernel_rfl) (by kernel_rfl) (by kernel_rfl) (fun _ _ _ h => h) (Or.inl ⟨by rfl, ?_⟩) (by assumption) ?_
            rotate_left
            · intro W hSw; (try dsimp only at hSw); go_simp; (try with_reducible rfl)
            try simp only [Act.put, List.setIfInBounds_toArray, List.set_cons_zero, List.set_cons_succ]
            refine wpAnyH_take (i := 8) (oi := _) (v := ?_) rfl (by kernel_rfl) (by kernel_rfl) (by kernel_rfl) (fun _ _ _ h => h) (Or.inl ⟨by rfl, ?_⟩) (by assumption) ?_
            rotate_left
            · intro W hSw; (try dsimp only at hSw); go_simp; (try with_reducible rfl)
            try simp only [Act.put, List.setIfInBounds_toArray, List.set_cons_zero, List.set_cons_succ]
            refine wpAnyH_take (i := 9) (oi := _) (v := ?_) rfl (by kernel_rfl) (by kernel_rfl) (by kernel_rfl) (fun _ _ _ h => h) (Or.inl ⟨by rfl, ?_⟩) (by assumption) ?_
            rotate_left
            · intro W hSw; (try dsimp only at hSw); go_simp; (try with_reducible rfl)
            try simp only [Act.put, List.setIfInBounds_toArray, List.set_cons_zero, List.set_cons_succ]
            refine wpAnyH_take (i := 10) (oi := _) (v := ?_) rfl (by kernel_rfl) (by kernel_rfl) (by kernel_rfl) (fun _ _ _ h => h) (Or.inl ⟨by rfl, ?_⟩) (by assumption) ?_
            rotate_left
            · intro W hSw; (try dsimp only at hSw); go_simp; (try with_reducible rfl)
            try simp only [Act.put, List.setIfInBounds_toArray, List.set_cons_zero, List.set_cons_succ]
            refine wpAnyH_take (i := 11) (oi := _) (v := ?_) rfl (by kernel_rfl) (by kernel_rfl) (by kernel_rfl) (fun _ _ _ h => h) (Or.inl ⟨by rfl, ?_⟩) (by assumption) ?_
            rotate_left
            · intro W hSw; (try dsimp only at hSw); go_simp; (try with_reducible rfl)
            try simp only [Act.put, List.setIfInBounds_toArray, List.set_cons_zero, List.set_cons_succ]
            refine wpAnyH_take (i := 13) (oi := _) (v := ?_) rfl (by kernel_rfl) (by kernel_rfl) (by kernel_rfl) (fun _ _ _ h => h) (Or.inl ⟨by rfl, ?_⟩) (by assumption) ?_
            rotate_left
            · intro W hSw; (try dsimp only at hSw); go_simp; (try with_reducible rfl)
            try simp only [Act.put, List.setIfInBounds_toArray, List.set_cons_zero, List.set_cons_succ]
            refine wpAnyH_take (i := 14) (oi := _) (v := ?_) rfl (by kernel_rfl) (by kernel_rfl) (by kernel_rfl) (fun _ _ _ h => h) (Or.inl ⟨by rfl, ?_⟩) (by assumption) ?_
            rotate_left
            · intro W hSw; (try dsimp only at hSw); go_simp; (try with_reducible rfl)
            try simp only [Act.put, List.setIfInBounds_toArray, List.set_cons_zero, List.set_cons_succ]
            refine wpAnyH_take (i := 15) (oi := _) (v := ?_) rfl (by kernel_rfl) (by kernel_rfl) (by kernel_rfl) (fun _ _ _ h => h) (Or.inl ⟨by rfl, ?_⟩) (by assumption) ?_
            rotate_left
            · intro W hSw; (try dsimp only at hSw); go_simp; (try with_reducible rfl)
            try simp only [Act.put, List.setIfInBounds_toArray, List.set_cons_zero, List.set_cons_succ]
            refine wpAnyH_take (i := 16) (oi := _) (v := ?_) rfl (by kernel_rfl) (by kernel_rfl) (by kernel_rfl) (fun _ _ _ h => h) (Or.inl ⟨by rfl, ?_⟩) (by assumption) ?_
            rotate_left
            · intro W hSw; (try dsimp only at hSw); go_simp; (try with_reducible rfl)
            try simp only [Act.put, List.setIfInBounds_toArray, List.set_cons_zero, List.set_cons_succ]
            refine wpAnyH_take (i := 17) (oi := _) (v := ?_) rfl (by kernel_rfl) (by kernel_rfl) (by kernel_rfl) (fun _ _ _ h => h) (Or.inl ⟨by rfl, ?_⟩) (by assumption) ?_
            rotate_left
            · intro W hSw; (try dsimp only at hSw); go_simp; (try with_reducible rfl)
            try simp only [Act.put, List.setIfInBounds_toArray, List.set_cons_zero, List.set_cons_succ]
            refine wpAnyH_ready (rs := [4]) (by kernel_rfl) (by simp) ?_
            refine AllReadyH.cons (o := _) rfl (fun K hK => ?_) AllReadyH.nil
            go_simp
            trace "map"
            try go_wp2_with fail
            refine hK.out _ _ ?_ (fun hHeld => ?_)
            · first | (exact ⟨(unhide K3).drew.cells 1, (unhide K3).drew.cells 2⟩) | (exact ⟨((unhide K3).alloc _).drew.cells 1, ((unhide K3).alloc _).drew.cells 2⟩) | (exact ⟨(unhide K4).cells 1, (unhide K4).cells 2⟩) | (exact ⟨(unhide K5).cells 1, (unhide K5).cells 2⟩) | (exact ⟨(unhide K7).cells 1, (unhide K7).cells 2⟩) | (exact ⟨(unhide K8).cells 1, (unhide K8).cells 2⟩) | (exact ⟨(unhide K6).cells 1, (unhide K6).cells 2⟩)
            clear hK K
            try simp only [Act.put, List.setIfInBounds_toArray, List.set_cons_zero, List.set_cons_succ]
            refine wpAnyH_ready (rs := [12, 18]) (by kernel_rfl) (by simp) ?_
            refine AllReadyH.cons (o := _) rfl (fun K hK => ?_) (AllReadyH.cons (o := _) rfl (fun K hK => ?_) AllReadyH.nil)
            · skip
              go_simp
              try go_wp2_with fail
              refine hK.out _ _ ?_ (fun hHeld => ?_)
              · first | (exact ⟨(unhide K3).drew.cells 1, (unhide K3).drew.cells 2⟩) | (exact ⟨((unhide K3).alloc _).drew.cells 1, ((unhide K3).alloc _).drew.cells 2⟩) | (exact ⟨(unhide K4).cells 1, (unhide K4).cells 2⟩) | (exact ⟨(unhide K5).cells 1, (unhide K5).cells 2⟩) | (exact ⟨(unhide K7).cells 1, (unhide K7).cells 2⟩) | (exact ⟨(unhide K8).cells 1, (unhide K8).cells 2⟩) | (exact ⟨(unhide K6).cells 1, (unhide K6).cells 2⟩)
              clear hK K
              try simp only [Act.put, List.setIfInBounds_toArray, List.set_cons_zero, List.set_cons_succ]
              refine wpAnyH_ready (rs := [18]) (by kernel_rfl) (by simp) ?_
              refine AllReadyH.cons (o := _) rfl (fun K hK => ?_) AllReadyH.nil
              go_simp
              trace "i2"
              try go_wp2_with fail
              refine hK.out _ _ ?_ (fun hHeld => ?_)
              · first | (exact ⟨(unhide K3).drew.cells 1, (unhide K3).drew.cells 2⟩) | (exact ⟨((unhide K3).alloc _).drew.cells 1, ((unhide K3).alloc _).drew.cells 2⟩) | (exact ⟨(unhide K4).cells 1, (unhide K4).cells 2⟩) | (exact ⟨(unhide K5).cells 1, (unhide K5).cells 2⟩) | (exact ⟨(unhide K7).cells 1, (unhide K7).cells 2⟩) | (exact ⟨(unhide K8).cells 1, (unhide K8).cells 2⟩) | (exact ⟨(unhide K6).cells 1, (unhide K6).cells 2⟩)
              clear hK K
              try simp only [Act.put, List.setIfInBounds_toArray, List.set_cons_zero, List.set_cons_succ]
              refine wpAnyH_take (i := 19) (oi := _) (v := ?_) rfl (by kernel_rfl) (by kernel_rfl) (by kernel_rfl) (fun _ _ _ h => h) (Or.inl ⟨by rfl, ?_⟩) (by assumption) ?_
              rotate_left
              · intro W hSw; (try dsimp only at hSw); go_simp; (try with_reducible rfl)
              try simp only [Act.put, List.setIfInBounds_toArray, List.set_cons_zero, List.set_cons_succ]
              refine wpAnyH_ready (rs := [20]) (by kernel_rfl) (by simp) ?_
              refine AllReadyH.cons (o := _) rfl (fun K hK => ?_) AllReadyH.nil
              go_simp
              go_at_call 37; (with_reducible refine (unhide HBK).mono ?_); rintro e w6 ⟨rfl, v6, hL6, hT6, hv6⟩; have K6 := hide ((unhide K5).turn hT6 (fun hf => by have := ((unhide HL).lt _ hf).2; omega)); have H6 := hide (And.intro hL6 (And.intro hT6 hv6)); clear hL6 hT6 hv6
              try go_wp2_with fail
              refine hK.out _ _ ?_ (fun hHeld => ?_)
              · first | (exact ⟨(unhide K3).drew.cells 1, (unhide K3).drew.cells 2⟩) | (exact ⟨((unhide K3).alloc _).drew.cells 1, ((unhide K3).alloc _).drew.cells 2⟩) | (exact ⟨(unhide K4).cells 1, (unhide K4).cells 2⟩) | (exact ⟨(unhide K5).cells 1, (unhide K5).cells 2⟩) | (exact ⟨(unhide K7).cells 1, (unhide K7).cells 2⟩) | (exact ⟨(unhide K8).cells 1, (unhide K8).cells 2⟩) | (exact ⟨(unhide K6).cells 1, (unhide K6).cells 2⟩)
              clear hK K
              try simp only [Act.put, List.setIfInBounds_toArray, List.set_cons_zero, List.set_cons_succ]
              refine wpAnyH_done (by kernel_rfl) ?_ _
              refine NoPanic.normal ?_
              have h6 := unhide H6
              have HF := hide (take_end (unhide HL) (unhide HBM) (unhide HL2).2 (unhide HBB).1 (unhide HBB).2.1 h6.1 h6.2.1 h6.2.2 (unhide HEQ).1 (unhide HEQ).2 (unhide HX) (unhide HHO) htx')
              clear h6 htx'
              go_wp2_with fail
              go_ret
              exact ⟨by rw [unhide HX]; rfl, unhide HF⟩
            · skip
              go_simp
              try go_wp2_with fail
              refine hK.out _ _ ?_ (fun hHeld => ?_)
              · first | (exact ⟨(unhide K3).drew.cells 1, (unhide K3).drew.cells 2⟩) | (exact ⟨((unhide K3).alloc _).drew.cells 1, ((unhide K3).alloc _).drew.cells 2⟩) | (exact ⟨(unhide K4).cells 1, (unhide K4).cells 2⟩) | (exact ⟨(unhide K5).cells 1, (unhide K5).cells 2⟩) | (exact ⟨(unhide K7).cells 1, (unhide K7).cells 2⟩) | (exact ⟨(unhide K8).cells 1, (unhide K8).cells 2⟩) | (exact ⟨(unhide K6).cells 1, (unhide K6).cells 2⟩)
              clear hK K
              try simp only [Act.put, List.setIfInBounds_toArray, List.set_cons_zero, List.set_cons_succ]
              refine wpAnyH_ready (rs := [12]) (by kernel_rfl) (by simp) ?_
              refine AllReadyH.cons (o := _) rfl (fun K hK => ?_) AllReadyH.nil
              go_simp
              trace "i2"
              try go_wp2_with fail
              refine hK.out _ _ ?_ (fun hHeld => ?_)
              · first | (exact ⟨(unhide K3).drew.cells 1, (unhide K3).drew.cells 2⟩) | (exact ⟨((unhide K3).alloc _).drew.cells 1, ((unhide K3).alloc _).drew.cells 2⟩) | (exact ⟨(unhide K4).cells 1, (unhide K4).cells 2⟩) | (exact ⟨(unhide K5).cells 1, (unhide K5).cells 2⟩) | (exact ⟨(unhide K7).cells 1, (unhide K7).cells 2⟩) | (exact ⟨(unhide K8).cells 1, (unhide K8).cells 2⟩) | (exact ⟨(unhide K6).cells 1, (unhide K6).cells 2⟩)
              clear hK K
              try simp only [Act.put, List.setIfInBounds_toArray, List.set_cons_zero, List.set_cons_succ]
              refine wpAnyH_take (i := 19) (oi := _) (v := ?_) rfl (by kernel_rfl) (by kernel_rfl) (by kernel_rfl) (fun _ _ _ h => h) (Or.inl ⟨by rfl, ?_⟩) (by assumption) ?_
              rotate_left
              · intro W hSw; (try dsimp only at hSw); go_simp; (try with_reducible rfl)
              try simp only [Act.put, List.setIfInBounds_toArray, List.set_cons_zero, List.set_cons_succ]
              refine wpAnyH_ready (rs := [20]) (by kernel_rfl) (by simp) ?_
              refine AllReadyH.cons (o := _) rfl (fun K hK => ?_) AllReadyH.nil
              go_simp
              go_at_call 37; (with_reducible refine (unhide HBK8).mono ?_); rintro e w6 ⟨rfl, v6, hL6, hT6, hv6⟩; have K6 := hide ((unhide K8).turn hT6 (fun hf => by have := ((unhide HL).lt _ hf).2; omega)); have H6 := hide (And.intro hL6 (And.intro hT6 hv6)); clear hL6 hT6 hv6
              try go_wp2_with fail
              refine hK.out _ _ ?_ (fun hHeld => ?_)
              · first | (exact ⟨(unhide K3).drew.cells 1, (unhide K3).drew.cells 2⟩) | (exact ⟨((unhide K3).alloc _).drew.cells 1, ((unhide K3).alloc _).drew.cells 2⟩) | (exact ⟨(unhide K4).cells 1, (unhide K4).cells 2⟩) | (exact ⟨(unhide K5).cells 1, (unhide K5).cells 2⟩) | (exact ⟨(unhide K7).cells 1, (unhide K7).cells 2⟩) | (exact ⟨(unhide K8).cells 1, (unhide K8).cells 2⟩) | (exact ⟨(unhide K6).cells 1, (unhide K6).cells 2⟩)
              clear hK K
              try simp only [Act.put, List.setIfInBounds_toArray, List.set_cons_zero, List.set_cons_succ]
              refine wpAnyH_done (by kernel_rfl) ?_ _
              refine NoPanic.normal ?_
              have h6 := unhide H6
              have HF := hide (take_end (unhide HL) (unhide HBM) (unhide HL2).2 (unhide HBB).1 (unhide HBB).2.2 h6.1 h6.2.1 h6.2.2 (unhide HEQ).1 (unhide HEQ).2 (unhide HX) (unhide HHO) htx')
              clear h6 htx'
              go_wp2_with fail
              go_ret
              exact ⟨by rw [unhide HX]; rfl, unhide HF⟩
end Go.Proofs.Ytjihkoleipkgmaa
