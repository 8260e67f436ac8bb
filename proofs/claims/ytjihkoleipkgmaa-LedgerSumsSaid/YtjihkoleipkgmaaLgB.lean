/- Walks: put, keep. -/
import Derived.Test.YtjihkoleipkgmaaLgA
import Derived.BigRegion
namespace Go.Proofs.Ytjihkoleipkgmaa
set_option linter.unusedVariables false
set_option linter.unusedSimpArgs false
open Go.RowKit Go.Maps

theorem grown_since {w w1 w2 : World} {row : Option Nat} (hb : Below w.heap.size w w1) (hg : w1.grownBy w2 row) : w.grownBy w2 row :=
  ⟨hg.os.trans hb.os, hg.tape.trans hb.tape, hg.output.trans hb.output, Nat.le_trans hb.size hg.size, fun i hi hne => (hg.block i (Nat.lt_of_lt_of_le hi hb.size) hne).trans (hb.block i hi)⟩
set_option maxHeartbeats 4000000 in
set_option maxRecDepth 20000 in
theorem put_any (w : World) (p ma mh k : Nat) (v : Value) (ow n c : ByteArray) (fl : Int) (f : ByteArray × ByteArray → Option Value) (hW : Whole w p 75 #[.string ow, .map (some ma), v, .map (some mh)]) (hM : MapAt keyKeys w ma k f) (hpm : p ≠ ma) (hk : k ≤ 100000) (hn : n.size ≤ maxLen) (hc : c.size ≤ maxLen) :
    Calls Try.prog 35 #[.pointer (some ⟨p, 0, none⟩), .agg #[.string n, .string c], .int .i64 fl] w fun e w' => e = .returned (.tuple #[]) ∧ MapAt keyKeys w' ma (k + 1) (fun y => if y = (n, c) then some (.agg #[.int .i64 fl, .int .i64 0, .int .i64 0]) else f y) ∧ w.grownBy w' (some ma) := by
  have a1 := (hW.alloc (.cells #[.string n, .string c] 68)).drew
  have a2 := (Whole.made w 68 #[.string n, .string c]).drew
  have HM := hide ((hM.alloc (.cells #[.string n, .string c] 68)).drew)
  have cP := a1.cells
  have cK := a2.cells
  have hgood : keyKeys.good (n, c) := ⟨hn, hc⟩
  have HG := hide hgood
  have hp := hW.lt
  have hb := hide (((Below.refl w.heap.size w).alloc (Nat.le_refl _) (.cells #[.string n, .string c] 68)).drew)
  clear hW hM a1 a2 hgood hn hc
  go_enter Try.func35, Try.ntmps35
  go_wp2_with fail
  refine wp_tail 7 (by kernel_rfl) (by kernel_rfl) ?_
  simp only [List.take_succ_cons, List.take_zero, List.drop_succ_cons, List.drop_zero]
  repeat still_step
  refine wpStill_nil ?_
  clear cP cK
  go_wp2_with (at_mapUpdate; refine wpList_put _ rfl _ _ _ 72 rfl (J := keyKeys) Try.underlying72 rfl (unhide HM) (by unfold maxLen; omega) (y := (n, c)) (unhide HG) (val := .agg #[.int .i64 fl, .int .i64 0, .int .i64 0]) rfl rfl ?_; intro w4 hm4 hg4)
  go_end0
  exact ⟨rfl, hm4, grown_since (unhide hb) hg4⟩

set_option maxHeartbeats 4000000 in
set_option maxRecDepth 20000 in
theorem keep_any (w : World) (p ma mh k : Nat) (v : Value) (ow n c : ByteArray) (more q1 q2 q3 r : Int) (f : ByteArray × ByteArray → Option Value) (hW : Whole w p 75 #[.string ow, .map (some ma), v, .map (some mh)]) (hM : MapAt keyKeys w ma k f) (hpm : p ≠ ma) (hk : k ≤ 100000) (hn : n.size ≤ maxLen) (hc : c.size ≤ maxLen)
    (hl : ∀ W : World, MapAt keyKeys W ma k f → (Instr.lookup 72 (.map (some ma)) (.agg #[.string n, .string c]) false).run Try.prog W = .ok (.agg #[.int .i64 q1, .int .i64 q2, .int .i64 q3]) W) (hr : IntKind.i64.wrap (q3 + more) = r) :
    Calls Try.prog 33 #[.pointer (some ⟨p, 0, none⟩), .agg #[.string n, .string c], .int .i64 more] w fun e w' => e = .returned (.tuple #[]) ∧ MapAt keyKeys w' ma (k + 1) (fun y => if y = (n, c) then some (.agg #[.int .i64 q1, .int .i64 q2, .int .i64 r]) else f y) ∧ w.grownBy w' (some ma) := by
  have a1 := hW.alloc (.cells #[.string n, .string c] 68)
  have a2 := Whole.made w 68 #[.string n, .string c]
  have aM := hM.alloc (.cells #[.string n, .string c] 68)
  have hl1 := hl _ aM.drew
  have hl2 := fun o => hl _ (aM.alloc o).drew
  have cP := a1.drew.cells
  have cP2 := fun o => (a1.alloc o).drew.cells
  have cK := a2.drew.cells
  have cK2 := fun o => (a2.alloc o).drew.cells
  have b1 := ((a1.alloc (.cells #[.int .i64 q1, .int .i64 q2, .int .i64 r] 70)).drew).drew
  have b2 := ((a2.alloc (.cells #[.int .i64 q1, .int .i64 q2, .int .i64 r] 70)).drew).drew
  have b3 := ((Whole.made_at (w.alloc (.cells #[.string n, .string c] 68)) 70 #[.int .i64 q1, .int .i64 q2, .int .i64 r] (w.heap.size + 1) (by simp)).drew).drew
  have bM := ((aM.alloc (.cells #[.int .i64 q1, .int .i64 q2, .int .i64 r] 70)).drew).drew
  have bb := ((((Below.refl w.heap.size w).alloc (Nat.le_refl _) (.cells #[.string n, .string c] 68)).alloc (by simp) (.cells #[.int .i64 q1, .int .i64 q2, .int .i64 r] 70)).drew).drew
  have hp := hW.lt
  have hgood : keyKeys.good (n, c) := ⟨hn, hc⟩
  have HG := hide hgood
  have H3 := hide (And.intro b1 (And.intro b2 (And.intro b3 (And.intro bM bb))))
  clear hW hM a1 a2 hgood hn hc aM b1 b2 b3 bM bb hl
  go_enter Try.func33, Try.ntmps33
  go_wp2_with fail
  go_region
  clear cP cP2 cK cK2 hl1 hl2
  go_wp2_with fail
  have cP := (unhide H3).1.cells
  have cK := (unhide H3).2.1.cells
  have cA := (unhide H3).2.2.1.cells
  refine wp_tail 6 (by kernel_rfl) (by kernel_rfl) ?_
  simp only [List.take_succ_cons, List.take_zero, List.drop_succ_cons, List.drop_zero]
  repeat still_step
  refine wpStill_nil ?_
  clear cP cK cA
  go_wp2_with (at_mapUpdate; refine wpList_put _ rfl _ _ _ 72 rfl (J := keyKeys) Try.underlying72 rfl (unhide H3).2.2.2.1 (by unfold maxLen; omega) (y := (n, c)) (unhide HG) (val := .agg #[.int .i64 q1, .int .i64 q2, .int .i64 r]) rfl rfl ?_; intro w4 hm4 hg4)
  go_end0
  exact ⟨rfl, hm4, grown_since (unhide H3).2.2.2.2 hg4⟩
end Go.Proofs.Ytjihkoleipkgmaa
