/- Walks: a row of claimants, cloned; the reference's Rank. -/
import Derived.Test.YtgbheogmccfaaaaGreatClD
import Derived.Test.YtgbheogmccfaaaaGreatPushA
import Derived.Test.YtgbheogmccfaaaaGreatRnkP
namespace Go.Proofs.YtgbheogmccfaaaaGreat
set_option linter.unusedVariables false
set_option linter.unusedSimpArgs false
open Go.RowKit

theorem info_cl : (Tryz.prog.info? 23).map (fun i => (i.zero, i.size, i.bytes)) = some (some (.agg #[.string ⟨#[]⟩, .string ⟨#[]⟩, .int .i64 0, .int .i64 0, .int .i64 0]), 5, 56) := by kernel_rfl
theorem Laid.grown {a w w' : World} {base : Nat} {e : TypeId} {size n : Nat} {v : Value} {xs : List Value} (k : Laid a w) (hown : w.ownsRow base e size v n xs) (hB : a.heap.size ≤ base) (hg : w.grownBy w' v.ownBlock) (hd : w.drawn ≤ w'.drawn) : Laid a w' :=
  ⟨below_grown k.1 hown hB hg, Nat.le_trans k.2 hd⟩

set_option maxHeartbeats 2000000 in
set_option maxRecDepth 100000 in
theorem CloneCl_any (xs : List Cl) (A : Option Addr) (n c : Nat) (w : World) (hn : n = xs.length) (hlen : n ≤ 100000) (hx : ListIn clR w w.heap.size A xs) :
    Calls Tryz.prog 26 #[.slice A n c] w fun e w' => ∃ v, e = .returned v ∧ w'.ownsRow w.heap.size 23 clR.sz v n (xs.flatMap clR.cells) ∧ Below w.heap.size w w' := by
  cases A with
  | none =>
    have hxs : xs = [] := by
      cases xs with
      | nil => rfl
      | cons x r => obtain ⟨b, off, e, _⟩ := hx (by simp); cases e
    subst hxs
    simp at hn; subst hn
    have q24 : ∀ (W : World) (a : Option Addr) (n c n' c' : Nat), (binOp .eql 24 (.slice a n c) (.slice none n' c')).run Tryz.prog W = .ok (.bool a.isNone) W := fun W a n c n' c' => Lib.run_eql_slice_nil W _ _ a n c n' c' Tryz.underlying24
    go_enter Tryz.func26, Tryz.ntmps26
    go_wp2_with fail
    go_ret
    exact ⟨_, rfl, World.ownsRow_nil _ _ _ _, Below.refl _ _⟩
  | some ad =>
    obtain ⟨i0, hi0, hz0, hz1, hz2⟩ := info_parts info_cl
    have own0 : (w.alloc (.cells #[] 23)).ownsRow w.heap.size 23 5 (.slice (some ⟨w.heap.size, 0, none⟩) 0 0) 0 [] := World.ownsRow_lit (base := w.heap.size) (e := 23) (size := 5) w #[] 0 (Nat.le_refl _) (by unfold maxLen; omega) (by simp)
    have src1 : Src (w.alloc (.cells #[] 23)) 5 (some ad) n (xs.flatMap clR.cells) := (hx.alloc _).src_n hn
    have q24 : ∀ (W : World) (a : Option Addr) (n c n' c' : Nat), (binOp .eql 24 (.slice a n c) (.slice none n' c')).run Tryz.prog W = .ok (.bool a.isNone) W := fun W a n c n' c' => Lib.run_eql_slice_nil W _ _ a n c n' c' Tryz.underlying24
    have O0 := hide own0; have S1 := hide src1
    clear own0 src1 hn hx
    go_enter Tryz.func26, Tryz.ntmps26
    go_wp2_with (at_builtin; refine wpList_append_src _ rfl (.tmp 5) (.tmp 6) 24 rfl w.heap.size 23 i0 _ 5 56 Tryz.underlying24 hi0 hz0 hz1 hz2 rfl (by omega) rfl (unhide O0) rfl (unhide S1) (rows_one clR xs) (by unfold maxLen; omega) (by omega) (by simp) ?_
                 intro v1 w1 own1 hg1 hat1
                 rw [Nat.zero_add, List.nil_append] at own1
                 have hb1 : Below w.heap.size w w1 := below_grown ((Below.refl w.heap.size w).alloc (Nat.le_refl _) _) (unhide O0) (Nat.le_refl _) hg1
                 have F1 := hide (And.intro own1 hb1)
                 clear own1 hb1 hg1 hat1 hi0 hz0 hz1 hz2)
    go_ret
    exact ⟨_, rfl, (unhide F1).1, (unhide F1).2⟩
end Go.Proofs.YtgbheogmccfaaaaGreat
