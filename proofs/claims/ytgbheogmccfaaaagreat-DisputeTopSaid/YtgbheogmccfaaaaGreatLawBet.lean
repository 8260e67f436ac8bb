/- Walk: the law DisputeBetter. -/
import Derived.Test.YtgbheogmccfaaaaGreatAwk
import Derived.Test.YtgbheogmccfaaaaGreatRRank
namespace Go.Proofs.YtgbheogmccfaaaaGreat
set_option linter.unusedVariables false
set_option linter.unusedSimpArgs false
open Go.RowKit Go.Maps

abbrev clC (x : Cl) : Array Value := #[.string x.name, .string x.thing, .int .i64 x.right, .int .i64 x.day, .int .i64 x.amount]
/-- two claimants that came in, each in its block -/
def ClTwo (w w1 : World) (a b : Cl) : Prop := Whole w1 w.heap.size 23 (clC a) ∧ Whole w1 (w.heap.size + 1) 23 (clC b) ∧ Below w.heap.size w w1
section
variable {w w1 w2 : World} {a b : Cl}
theorem ClTwo.made (w : World) (a b : Cl) : ClTwo w ((w.alloc (.cells (clC a) 23)).alloc (.cells (clC b) 23)) a b :=
  ⟨(Whole.made w _ _).alloc _, Whole.made_at _ _ _ _ (by simp), ((Below.refl w.heap.size w).alloc (Nat.le_refl _) _).alloc (by simp) _⟩
theorem ClTwo.after (h : ClTwo w w1 a b) (hb : Below w1.heap.size w1 w2) : ClTwo w w2 a b := ⟨h.1.after hb, h.2.1.after hb, h.2.2.trans (hb.mono h.2.2.size)⟩
theorem ClTwo.laid (h : ClTwo w w1 a b) (hb : Laid w1 w2) : ClTwo w w2 a b := h.after hb.1
theorem ClTwo.alloc (h : ClTwo w w1 a b) (o : Obj) : ClTwo w (w1.alloc o) a b := h.after ((Below.refl _ _).alloc (Nat.le_refl _) _)
theorem ClTwo.list {l : List Cl} {A : Option Addr} (h : ClTwo w w1 a b) (hx : ListIn clR w w.heap.size A l) : ListIn clR w1 w1.heap.size A l := hx.after h.2.2
end

set_option maxHeartbeats 8000000 in
set_option maxRecDepth 100000 in
theorem DisputeBetter_any (a b : Cl) (l : List Cl) (A : Option Addr) (n c : Nat) (w : World) (hn : n = l.length) (hm : n ≤ maxLen) (hx : ListIn clR w w.heap.size A l) :
    Calls Tryz.prog 3 #[a.val, b.val, .slice A n c] w fun e w' => e = .returned (.bool true) ∧ Below w.heap.size w w' := by
  have HX := hide hx; have HN := hide hn; have HM := hide hm
  have hln : fewGo 0 l = true → n ≤ 41 := fun h => by rw [hn]; exact few_len h
  have HLN := hide hln
  have T0 := hide (ClTwo.made w a b)
  clear hx hn hm hln
  go_enter Tryz.func3, Tryz.ntmps3
  go_wp2_with fail
  (with_reducible refine (awake_any _).mono ?_); rintro e w1 ⟨rfl, hb⟩
  have T1 := hide ((unhide T0).after hb)
  clear hb T0
  go_wp2_with fail
  (with_reducible refine (Few_any l A n c w1 (unhide HN) (unhide HM) ((unhide T1).list (unhide HX))).mono ?_); rintro e w2 ⟨rfl, hl⟩
  have T2 := hide ((unhide T1).laid hl)
  clear hl T1
  obtain ⟨r1, hr1⟩ : ∃ r, r = fewGo 0 l := ⟨_, rfl⟩
  rw [← hr1] at HLN ⊢
  clear hr1
  cases r1
  · go_wp2_with fail
    go_ret
    exact ⟨rfl, (unhide T2).2.2⟩
  · have hl41 := unhide HLN rfl
    have e0 := (unhide T2).1.cells
    have e1 := (unhide T2).2.1.cells
    have hz := (unhide T2).2.1.lt
    have h2 := Few_any [a, b] (some ⟨w2.heap.size, 0, none⟩) 2 2 (w2.alloc (.cells #[.string a.name, .string a.thing, .int .i64 a.right, .int .i64 a.day, .int .i64 a.amount, .string b.name, .string b.thing, .int .i64 b.right, .int .i64 b.day, .int .i64 b.amount] 23)) rfl (by unfold maxLen; omega) (list_made clR w2 _ rfl 23 [a, b])
    obtain ⟨r2, hr2⟩ : ∃ r, r = fewGo 0 [a, b] := ⟨_, rfl⟩
    rw [← hr2] at h2
    have H2 := hide h2
    clear h2 hr2
    go_wp2_with fail
    (with_reducible refine (unhide H2).mono ?_); rintro e w3 ⟨rfl, hl⟩
    have T3 := hide (((unhide T2).alloc _).laid hl)
    clear hl H2 e0 e1 hz T2
    cases r2
    · go_wp2_with fail
      go_ret
      exact ⟨rfl, (unhide T3).2.2⟩
    · have e0 := (unhide T3).1.cells
      have e1 := (unhide T3).2.1.cells
      go_wp2_with fail
      (with_reducible refine (RBetter_any a b _).mono ?_); rintro e w4 ⟨rfl, hl⟩
      have T4 := hide ((unhide T3).laid hl)
      clear hl T3 e0 e1
      have HBT := hide (fun W => Better_any a b W)
      have HWY := hide (fun W => Why_any a b W)
      obtain ⟨cc, hcc⟩ : ∃ z, z = - clCmp a b := ⟨_, rfl⟩
      obtain ⟨wy, hwy⟩ : ∃ z, z = whyC a b := ⟨_, rfl⟩
      rw [← hcc] at HBT ⊢
      rw [← hwy] at HWY ⊢
      clear hcc hwy
      have e0 := (unhide T4).1.cells
      have e1 := (unhide T4).2.1.cells
      go_wp2_with fail
      (with_reducible refine (unhide HBT _).mono ?_); rintro e w5 ⟨rfl, hl⟩
      have T5 := hide ((unhide T4).laid hl)
      clear hl T4 e0 e1
      have e0 := (unhide T5).1.cells
      have e1 := (unhide T5).2.1.cells
      go_wp2_with fail
      (with_reducible refine (unhide HWY _).mono ?_); rintro e w6 ⟨rfl, hl⟩
      have T6 := hide ((unhide T5).laid hl)
      clear hl T5 e0 e1
      go_wp2_with fail
      (with_reducible refine (Rank_any l A n c w6 (unhide HN) (by omega) ((unhide T6).list (unhide HX))).mono ?_); rintro e w7 ⟨v, rfl, own, hb⟩
      obtain ⟨A7, c7, rfl, _, _, hn7, hL7⟩ := list_of_own own
      have T7 := hide ((unhide T6).after hb)
      have HL7 := hide hL7; have HN7 := hide hn7
      clear hb T6 own hL7 hn7
      go_wp2_with fail
      (with_reducible refine (RRank_any l A n c w7 (unhide HN) (by omega) ((unhide T7).list (unhide HX))).mono ?_); rintro e w8 ⟨A8, c8, rfl, _, _, hL8, hb⟩
      have T8 := hide ((unhide T7).after hb)
      have HL7' := hide ((unhide HL7).after hb)
      have HL8 := hide hL8
      clear hb T7 hL8 HL7
      go_wp2_with fail
      (with_reducible refine (Same_same (rankL l) A7 A8 n c7 c8 w8 (unhide HN7) (by omega) (unhide HL7') (unhide HL8)).mono ?_); rintro e w9 ⟨rfl, hl⟩
      have T9 := hide ((unhide T8).laid hl)
      clear hl T8
      go_wp2_with fail
      go_ret
      exact ⟨rfl, (unhide T9).2.2⟩
end Go.Proofs.YtgbheogmccfaaaaGreat
