/- Walks: conditions, and the first that is met. -/
import Derived.Test.YtgalpdjmmpjddaaBondA
import Derived.BigRegion
import Derived.Shelf.Abstract
namespace Go.Proofs.Ytgalpdjmmpjddaa
set_option linter.unusedVariables false
set_option linter.unusedSimpArgs false
open Go.RowKit Go.Maps

/-- a condition as a value: called in any later world it tells this -/
def Cond (w : World) (v : Value) (b : Bool) (e : Int) : Prop :=
  ∃ fn caps, v = .func (.func fn) #[] caps ∧ (∀ W, (callFunc fn caps).run Try.prog W = .ok (.enter fn caps) W) ∧ ∀ W, Below w.heap.size w W → Calls Try.prog fn caps W fun en W' => en = .returned (.tuple #[.bool b, .int .i64 e]) ∧ Below W.heap.size W W'
theorem Cond.after {w w' : World} {v : Value} {b : Bool} {e : Int} (h : Cond w v b e) (hb : Below w.heap.size w w') : Cond w' v b e := by
  obtain ⟨fn, caps, hv, he, hc⟩ := h
  exact ⟨fn, caps, hv, he, fun W hW => hc W (hb.trans (hW.mono hb.size))⟩

set_option maxHeartbeats 1000000 in
theorem when1_any (p q : Nat) (b : Bool) (e : Int) (w : World) (h1 : w.cell? ⟨p, 0, none⟩ = some (.bool b)) (h2 : w.cell? ⟨q, 0, none⟩ = some (.int .i64 e)) :
    Calls Try.prog 60 #[.pointer (some ⟨p, 0, none⟩), .pointer (some ⟨q, 0, none⟩)] w fun en w' => en = .returned (.tuple #[.bool b, .int .i64 e]) ∧ Below w.heap.size w w' := by
  go_enter Try.func60, Try.ntmps60
  go_wp2_with fail
  go_region
  go_wp2_with fail
  go_ret2
  exact ⟨rfl, (Below.refl _ _).drew⟩

set_option maxHeartbeats 1000000 in
theorem when_any (b : Bool) (e : Int) (w : World) :
    Calls Try.prog 43 #[.bool b, .int .i64 e] w fun en w' => ∃ v, en = .returned v ∧ Cond w' v b e ∧ Below w.heap.size w w' := by
  go_enter Try.func43, Try.ntmps43
  go_wp2_with fail
  go_ret
  refine ⟨_, rfl, ⟨_, _, rfl, fun W => enters_of Try.func60 (by kernel_rfl) rfl _ _, fun W hW => ?_⟩, ((Below.refl _ _).alloc (Nat.le_refl _) _).alloc (by simp) _⟩
  have k1 := ((Whole.made w 4 #[.bool b]).alloc (.cells #[.int .i64 e] 26)).after hW
  have k2 := (Whole.made_at (w.alloc (.cells #[.bool b] 4)) 26 #[.int .i64 e] (w.heap.size + 1) (by simp)).after hW
  exact when1_any _ _ b e W (by rw [k1.cells]; rfl) (by rw [k2.cells]; rfl)

/-- the error of the first condition that is met -/
def firstE : List (Bool × Int) → Int
  | [] => 0
  | (b, e) :: r => if b then e else firstE r
theorem firstE_at (cs : List (Bool × Int)) (k : Nat) (b : Bool) (e : Int) (h : cs[k]? = some (b, e)) : firstE (cs.drop k) = if b then e else firstE (cs.drop (k + 1)) := by
  have hk : k < cs.length := (List.getElem?_eq_some_iff.1 h).1
  rw [List.drop_eq_getElem_cons hk, (List.getElem?_eq_some_iff.1 h).2, firstE]

set_option maxHeartbeats 2000000 in
theorem first_any (cs : List (Bool × Int)) (blk n c : Nat) (w : World) (hn : n = cs.length) (hlen : n ≤ 100) (hb : blk < w.heap.size)
    (hc : ∀ k b e, cs[k]? = some (b, e) → ∃ v, w.cell? ⟨blk, k, none⟩ = some v ∧ Cond w v b e) :
    Calls Try.prog 45 #[.slice (some ⟨blk, 0, none⟩) n c] w fun en w' => en = .returned (.int .i64 (firstE cs)) ∧ Below w.heap.size w w' := by
  obtain ⟨r, hr⟩ : ∃ r, r = firstE cs := ⟨_, rfl⟩
  rw [← hr]
  have HN := hide hn
  have HC := hide hc
  have HR := hide hr
  clear hn hc hr
  go_enter Try.func45, Try.ntmps45
  go_wp2_with fail
  go_loopw [9] (fun i wr => ∃ k : Nat, k ≤ n ∧ i = .int .i64 k ∧ Below w.heap.size w wr ∧ Hid (r = firstE (cs.drop k))) (fun i _ => n - (intOf i).toNat)
  case atStart => exact ⟨0, by omega, rfl, Below.refl _ _, hide (unhide HR)⟩
  case round =>
    obtain ⟨k, hk, rfl, hbw, HI⟩ := hrel
    obtain ⟨wo, rfl⟩ : ∃ wo : World, wo = wr := ⟨_, rfl⟩
    by_cases hlt : k < n
    · obtain ⟨⟨b, e⟩, hx⟩ : ∃ x, cs[k]? = some x := ⟨cs[k]'(by rw [← unhide HN]; exact hlt), List.getElem?_eq_getElem _⟩
      obtain ⟨v, hv, fn, caps, rfl, hent, hcall⟩ := unhide HC k b e hx
      have hst := firstE_at cs k b e hx
      rw [← unhide HI] at hst
      have hcell : wo.cell? ⟨blk, k, none⟩ = some (.func (.func fn) #[] caps) := (hbw.cell (p := ⟨blk, k, none⟩) hb).trans hv
      have HCALL := hide (hcall wo hbw)
      have HS := hide hst
      have HB := hide hbw
      clear hv hcall hst hbw hx
      go_wp2_with fail
      (with_reducible refine (unhide HCALL).mono ?_); rintro en w2 ⟨rfl, hb2⟩
      have HB2 := hide ((unhide HB).trans (hb2.mono (unhide HB).size))
      clear hb2
      cases b
      · go_wp2_with fail
        go_roundw
        case rel => exact ⟨k + 1, by omega, by go_num, unhide HB2, hide (unhide HS)⟩
        case measure => simp [intOf]; omega
      · go_wp2_with fail
        go_ret
        exact ⟨ret_int (unhide HS).symm, unhide HB2⟩
    · have hend : r = 0 := by rw [unhide HI, List.drop_eq_nil_of_le (by rw [← unhide HN]; omega)]; rfl
      have HE := hide hend
      have HB := hide hbw
      clear hend hbw
      go_wp2_with fail
      go_ret
      exact ⟨ret_int (unhide HE).symm, unhide HB⟩
end Go.Proofs.Ytgalpdjmmpjddaa
