/- Walk: a bond's own copy. -/
import Derived.Test.YtgalpdjmmpjddaaLeaveB
namespace Go.Proofs.Ytgalpdjmmpjddaa
set_option linter.unusedVariables false
set_option linter.unusedSimpArgs false
open Go.RowKit Go.Maps

section
variable {P : Program} {k t e : TypeId} {κ : Type} {J : Keying P k κ} {w w' : World} {b r n : Nat} {f : κ → Option Value} {todo : κ → Bool} {cnt : Nat}
/-- 'range m': no more rounds than entries -/
theorem wpList_going_le {ops : Array Oper} {rest : List Oper} {o : Oper} {a : Act} {Q : Exit → Act → World → Prop} (w : World)
    (hg : o.guard = none) (m : Operand) (t : TypeId) (hop : o.op = Op.range t m) (k e : TypeId) {κ : Type} {J : Keying P k κ} (ht : P.underlying t = some (.map k e)) (b n : Nat) {f : κ → Option Value}
    (hm : a.eval m = .map (some b)) (h : MapAt J w b n f)
    (hK : ∀ w' cnt, cnt ≤ n → Going J w' b w.heap.size n f (fun x => (f x).isSome) cnt → w.grownBy w' none → w'.heap.size = w.heap.size + 1 → wpList P ops Q rest (a.put o.dst (.pointer (some ⟨w.heap.size, 0, none⟩))) w') :
    wpList P ops Q (o :: rest) a w := by
  obtain ⟨D, hD, hf⟩ := h
  have h1 : Maps.size D ≤ n := by
    obtain ⟨es, clock, hb, F, hs, rfl⟩ := hD
    simpa [Maps.size, length_sorted] using hs
  refine wpList_range_own w hg m t hop k e J.keyed ht raw b n D hm hD fun w' r1 r2 r3 => hK w' _ h1 ⟨D, _, r1, hf, fun x hx => ?_⟩ r2 r3
  show (f x).isSome = has D (J.kl x)
  cases hv : f x with
  | some v => rw [has_true_of_atKey ((hf x hx).1 v hv)]; rfl
  | none => rw [has_false_of_atKey ((hf x hx).2 hv)]; rfl
end

/-- those that have come -/
def doneF (f : ByteArray → Option Value) (todo : ByteArray → Bool) (s : ByteArray) : Option Value := if todo s then none else f s
theorem doneF_all (f : ByteArray → Option Value) (todo : ByteArray → Bool) (h : ∀ s, todo s = (f s).isSome) (s : ByteArray) : doneF f todo s = none := by
  unfold doneF
  rw [h]
  cases hf : f s <;> simp
theorem doneF_step (f : ByteArray → Option Value) (todo : ByteArray → Bool) (x : ByteArray) (v : Value) (hx : f x = some v) (s : ByteArray) : (if s = x then some v else doneF f todo s) = doneF f (fun y => todo y && !decide (y = x)) s := by
  unfold doneF
  by_cases h : s = x
  · subst h; simp [hx]
  · simp [h]
theorem limI_id {n : Int} (h0 : 0 ≤ n) (h1 : n ≤ 1099511627776) : limI n = n := by
  unfold limI
  rw [if_neg (by omega), if_neg (by omega)]

/-- what a copy is -/
def CopyQ (w : World) (lim : Int) (n : Nat) (bs : List Bx) (e : Ending) (w' : World) : Prop :=
  ∃ p m k, e = .returned (.pointer (some ⟨p, 0, none⟩)) ∧ k ≤ n ∧ w.heap.size ≤ p ∧ w.heap.size ≤ m ∧ p ≠ m ∧ BondAt w' p lim m k bs ∧ Below w.heap.size w w'

set_option maxHeartbeats 4000000 in
set_option maxRecDepth 100000 in
theorem Copy_any (p m n : Nat) (lim : Int) (bs : List Bx) (w : World) (hB : BondAt w p lim m n bs) (hn : n ≤ 4000) (h0 : 0 ≤ lim) (h1 : lim ≤ 1099511627776) :
    Calls Try.prog 23 #[.pointer (some ⟨p, 0, none⟩)] w (CopyQ w lim n bs) := by
  have cB := hB.1.cells
  have hop := Open_any lim w
  rw [limI_id h0 h1] at hop
  have HOP := hide hop; have HB := hide hB
  have hmw := hB.2.lt
  clear hop hB h0 h1
  go_enter Try.func23, Try.ntmps23
  go_wp2_with fail
  (with_reducible refine (unhide HOP).mono ?_); rintro en w1 ⟨rfl, hN, hb⟩
  have hB1 := (unhide HB).after hb
  have cB1 := hB1.1.cells
  have cN1 := hN.1.cells
  have hnz := hN.1.lt
  have HN := hide hN; have HB1 := hide hB1; have HBL := hide hb
  clear hN hB1 hb cB
  go_wp2_with (at_range; refine wpList_going_le _ rfl _ 94 rfl 9 93 (J := strKeys) Try.underlying94 m n rfl (unhide HB1).2 ?_; intro w2 cnt hcnt hgo hgr hs2)
  go_frame
  have hbl : Below w1.heap.size w1 w2 := ⟨hgr.os, hgr.tape, hgr.output, hgr.size, fun i hi => hgr.block i hi (by simp)⟩
  go_loopw [4, 5] (fun _ _ wr => ∃ todo cnt j, Going strKeys wr m w1.heap.size n (boxF bs) todo cnt ∧ j + cnt ≤ n ∧ MapAt strKeys wr w.heap.size j (doneF (boxF bs) todo) ∧ Whole wr (w.heap.size + 1) 96 #[.int .i64 lim, .map (some w.heap.size)] ∧ Below w.heap.size w wr) (fun _ _ wr => wr.rangeLeft m w1.heap.size)
  case atStart =>
    exact ⟨_, _, 0, hgo, by omega, ((unhide HN).2.after hbl).congr fun s _ => (doneF_all _ _ (fun _ => rfl) s).symm, (unhide HN).1.after hbl, (unhide HBL).trans (hbl.mono (unhide HBL).size)⟩
  case round =>
    obtain ⟨todo, cnt2, j, hg, hj, hm, hw, hb⟩ := hrel
    obtain ⟨wo, rfl⟩ : ∃ wo : World, wo = wr := ⟨_, rfl⟩
    have HM := hide hm; have HW := hide hw; have HBW := hide hb
    have hmw2 := hm.lt
    have hww2 := hw.lt
    clear hm hw hb
    go_wp2_with (at_next; refine wpList_going_next _ rfl _ rfl (fun key kl h => str_inv h) rfl hg ?_ ?_)
    · intro hc0 hl0
      have hend := (unhide HM).congr (g := boxF bs) (fun s hs => by unfold doneF; rw [hl0 s hs]; rfl)
      have HE := hide hend
      clear hend
      go_wp2_with fail
      go_ret
      exact ⟨_, _, j, rfl, by omega, by omega, Nat.le_refl _, by omega, ⟨unhide HW, unhide HE⟩, unhide HBW⟩
    · intro nm v w3 cnt3 hgood htodo hfx hg2 hlt hgr2 hsz2 hen
      have hst := doneF_step (boxF bs) todo nm v hfx
      obtain ⟨x, hx, rfl, rfl⟩ := boxF_some hfx
      have hb3 : Below w.heap.size w w3 := (unhide HBW).grown hgr2 (unhide HBW).size (fun q hq => by cases hq; omega)
      have hne1 : some w.heap.size ≠ some w1.heap.size := by intro e; injection e; omega
      have hne2 : some (w.heap.size + 1) ≠ some w1.heap.size := by intro e; injection e; omega
      have hm3 := (unhide HM).kept hgr2 hne1
      have hw3 : Whole w3 (w.heap.size + 1) 96 #[.int .i64 lim, .map (some w.heap.size)] := (hgr2.block _ hww2 hne2).trans (unhide HW)
      have hM3 := (hm3.alloc (.cells #[.int .i64 x.duty, .int .i64 x.day, .int .i64 x.state] 93)).drew
      have hW3 := (hw3.alloc (.cells #[.int .i64 x.duty, .int .i64 x.day, .int .i64 x.state] 93)).drew
      have hB3 := (hb3.alloc hb3.size (.cells #[.int .i64 x.duty, .int .i64 x.day, .int .i64 x.state] 93)).drew
      have cW := hW3.cells
      have cX := (Whole.made w3 93 #[.int .i64 x.duty, .int .i64 x.day, .int .i64 x.state]).drew.cells
      have hG3 : Going strKeys (w3.alloc (.cells #[.int .i64 x.duty, .int .i64 x.day, .int .i64 x.state] 93)).drew m w1.heap.size n (boxF bs) (fun y => todo y && !decide (y = x.name)) cnt3 := hg2.alloc _
      have HM3 := hide hM3; have HW3 := hide hW3; have HB3 := hide hB3; have HG3 := hide hG3; have HST := hide hst; have HG := hide hg; have HL := hide hlt
      have hw3z := hw3.lt
      clear hm3 hw3 hb3 hM3 hW3 hB3 hG3 hst hg hg2 hgr2 hlt hfx htodo hx hmw2 hww2
      unfold Bx.val at hen HST ⊢
      go_wp2_with fail
      refine wp_tail 6 (by kernel_rfl) (by kernel_rfl) ?_
      simp only [List.take_succ_cons, List.take_zero, List.drop_succ_cons, List.drop_zero]
      repeat still_step
      refine wpStill_nil ?_
      clear cW cX
      go_wp2_with (at_mapUpdate; refine wpList_put _ rfl _ _ _ 94 rfl (J := strKeys) Try.underlying94 rfl (unhide HM3) (by unfold maxLen; omega) hgood rfl rfl ?_; intro w4 hm4 hg4; go_frame)
      have hG4 := (unhide HG3).kept hg4 (by intro e; injection e; omega) (by intro e; injection e; omega)
      have HG4 := hide hG4
      have HF := hide (And.intro hm4 hg4)
      clear hm4 hg4 hG4
      go_roundw
      case rel =>
        obtain ⟨hm4, hg4⟩ := unhide HF
        refine ⟨_, _, j + 1, unhide HG4, by have := unhide HL; omega, hm4.congr fun s _ => unhide HST s, ?_, (unhide HB3).grown hg4 (unhide HB3).size (fun q hq => by cases hq; exact Nat.le_refl _)⟩
        exact (hg4.block _ (unhide HW3).lt (by intro e; injection e; omega)).trans (unhide HW3)
      case measure =>
        rw [(unhide HG4).measure, (unhide HG).measure]; exact unhide HL
end Go.Proofs.Ytgalpdjmmpjddaa
