/- Own small words on memory, used by all walks of this seat. -/
import Derived.Test.YtjihkoleipkgmaaRows
import Derived.WalkKit
import Derived.WalkSpells
import Derived.WalkLawsBesides
import Derived.Lib.Hide
import Derived.Deep.LoopGhost
import Derived.Deep.Light
import Derived.Deep.DeepMust
import Derived.StillTailTactics
import Derived.Deep.QuietTactic
import Derived.BigQuiet
namespace Go.Proofs.Ytjihkoleipkgmaa
set_option linter.unusedVariables false
set_option linter.unusedSimpArgs false
open Go.RowKit

theorem hide {p : Prop} (h : p) : Hid p := h
theorem unhide {p : Prop} (h : Hid p) : p := h
theorem ret_bool {a b : Bool} (h : a = b) : Ending.returned (.bool a) = .returned (.bool b) := by rw [h]
theorem ret_int {k : IntKind} {a b : Int} (h : a = b) : Ending.returned (.int k a) = .returned (.int k b) := by rw [h]

/-- block b is just these cells, none of them frozen -/
def Whole (w : World) (b : Nat) (t : TypeId) (cs : Array Value) : Prop := w.heap[b]? = some (.cells cs t (0, 0))
section
variable {w w' : World} {b : Nat} {t : TypeId} {cs : Array Value}
theorem Whole.lt (h : Whole w b t cs) : b < w.heap.size := by
  rcases Nat.lt_or_ge b w.heap.size with hl | hl
  · exact hl
  · simp [Whole, Array.getElem?_eq_none hl] at h
theorem Whole.cells (h : Whole w b t cs) (i : Nat) : w.cell? ⟨b, i, none⟩ = cs[i]? := by
  unfold Whole at h; simp [World.cell?, h]
theorem Whole.soft (h : Whole w b t cs) (i : Nat) : w.frozen? ⟨b, i, none⟩ = false := by
  unfold Whole at h; simp [World.frozen?, h]
theorem Whole.made (w : World) (t : TypeId) (cs : Array Value) : Whole (w.alloc (.cells cs t)) w.heap.size t cs := heap_alloc_new w _
theorem Whole.made_at (w : World) (t : TypeId) (cs : Array Value) (n : Nat) (hn : n = w.heap.size) : Whole (w.alloc (.cells cs t)) n t cs := by subst hn; exact Whole.made w t cs
theorem Whole.alloc (h : Whole w b t cs) (o : Obj) : Whole (w.alloc o) b t cs := (Below.heap_alloc w o b h.lt).trans h
theorem Whole.drew (h : Whole w b t cs) : Whole w.drew b t cs := h
theorem Whole.drewN (h : Whole w b t cs) (n : Nat) : Whole (w.drewN n) b t cs := h
theorem Whole.below {B : Nat} (h : Whole w b t cs) (hb : Below B w w') (hB : b < B) : Whole w' b t cs := (hb.block b hB).trans h
theorem Whole.after (h : Whole w b t cs) (hb : Below w.heap.size w w') : Whole w' b t cs := h.below hb h.lt
theorem Whole.put (h : Whole w b t cs) (i : Nat) (v : Value) : Whole (w.setCell ⟨b, i, none⟩ v) b t (cs.setIfInBounds i v) := by
  unfold Whole at h ⊢
  simp [World.setCell, Array.getElem?_modify, h]
theorem Whole.putFar (h : Whole w b t cs) {p : Addr} (hp : b ≠ p.block) (v : Value) : Whole (w.setCell p v) b t cs := (Below.heap_setCell w p v b hp).trans h
end

/-- from address b, off on there lie these cells -/
def CellsAt (w : World) (b off : Nat) (vs : List Value) : Prop := ∀ i v, vs[i]? = some v → w.cell? ⟨b, off + i, none⟩ = some v
theorem CellsAt.keep {w w' : World} {b off : Nat} {vs : List Value} (h : CellsAt w b off vs) (hk : ∀ o, w'.cell? ⟨b, o, none⟩ = w.cell? ⟨b, o, none⟩) : CellsAt w' b off vs :=
  fun i v hv => (hk _).trans (h i v hv)

/-- old cells, and old marks, behind a call that has made memory alone -/
theorem old_cells {W w1 : World} {B : Nat} (hb : Below B W w1) : ∀ b o, b < B → w1.cell? ⟨b, o, none⟩ = W.cell? ⟨b, o, none⟩ := fun b o h => hb.cell (p := ⟨b, o, none⟩) h
theorem old_soft {W w1 : World} {B : Nat} (hb : Below B W w1) : ∀ b o, b < B → w1.frozen? ⟨b, o, none⟩ = W.frozen? ⟨b, o, none⟩ := fun b o h => hb.frozen (p := ⟨b, o, none⟩) h

/-- a region that draws: all but its tail stands still -/
theorem wp_tail {P : Program} {id : Nat} {Q : Exit → Act → World → Prop} {a : Act} {w : World} {l : List Oper} (n : Nat) (hm : P.follows .mixedOrders = true) (hB : Region.lexTailB .any l.toArray n = true)
    (h : wpStill P l.toArray w.drew (fun a' => wpList P l.toArray Q (l.drop n) a' w.drew) (l.take n) a) : (Code.region id l.toArray true).wp P Q a w := wp_region_still_tail n hm hB h
/-- a callee that leaves the world as it is, met in such a region -/
theorem still_of {P : Program} {f : FuncId} {args : Array Value} {w : World} {v : Value} (h : Calls P f args w fun e w' => e = .returned v ∧ w = w') : Calls P f args w fun e w'' => e = .returned v ∧ w'' = w :=
  h.mono fun _ _ ⟨he, hw⟩ => ⟨he, hw.symm⟩
theorem quiet_of {P : Program} {f : FuncId} {args : Array Value} {w : World} {n : Nat} {v : Value} (h : Calls P f args (w.drewN n) fun e w' => e = .returned v ∧ w.drewN n = w') : Calls P f args (w.drewN n) fun e w'' => e = .returned v ∧ ∃ m, w'' = w.drewN m :=
  h.mono fun _ _ ⟨he, hw⟩ => ⟨he, n, hw.symm⟩

end Go.Proofs.Ytjihkoleipkgmaa
