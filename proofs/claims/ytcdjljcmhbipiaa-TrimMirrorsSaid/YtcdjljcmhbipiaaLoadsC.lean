/- More on rows of loads that the call itself has made. -/
import Derived.Test.YtcdjljcmhbipiaaLoadsB
namespace Go.Proofs.Ytcdjljcmhbipiaa
open Go.RowKit

theorem own_cap {w : World} {base e size g n cap : Nat} {xs : List Value} (h : w.ownsRow base e size (.slice (some ⟨g, 0, none⟩) n cap) n xs) : n ≤ cap := by
  rcases h.2 with ⟨h', _⟩ | ⟨g', cap', cur, h', _, _, hnc, _⟩
  · cases h'
  · cases h'; exact hnc

theorem up_row {w w2 : World} {g n cap : Nat} (hlt : w.heap.size < w2.heap.size)
    (h : (Value.slice (some ⟨g, 0, none⟩) n cap).ownBlock = (Value.slice (some ⟨w2.heap.size, 0, none⟩) 0 0).ownBlock ∨ (Value.slice (some ⟨g, 0, none⟩) n cap).ownBlock = some (w2.alloc (.cells #[] 33)).heap.size) : w.heap.size < g ∧ ¬ g = w.heap.size ∧ ¬ w.heap.size = g := by
  simp [Value.ownBlock] at h
  omega

theorem whole_past {w w' : World} {o : Obj} {b n c : Nat} {t : TypeId} {cs : Array Value} (k : Whole w b t cs) (hg : (w.alloc o).grownBy w' (Value.slice (some ⟨w.heap.size, 0, none⟩) n c).ownBlock) : Whole w' b t cs := by
  have hlt := k.lt
  refine (hg.block b (by simp; omega) ?_).trans (k.alloc o)
  intro e
  simp [Value.ownBlock] at e
  omega
theorem below_past {B : Nat} {a w w' : World} {o : Obj} {n c : Nat} (k : Below B a w) (hB : B ≤ w.heap.size) (hg : (w.alloc o).grownBy w' (Value.slice (some ⟨w.heap.size, 0, none⟩) n c).ownBlock) : Below B a w' := by
  refine (k.alloc hB o).grown hg (by simp; omega) (fun j hj => ?_)
  simp [Value.ownBlock] at hj
  omega

theorem loads_of_own' {w : World} {base n g cap : Nat} {xs : List Ld} (h : w.ownsRow base 33 7 (.slice (some ⟨g, 0, none⟩) n cap) n (xs.flatMap Ld.cells)) : LoadsIn w w.heap.size (some ⟨g, 0, none⟩) xs := by
  obtain ⟨A, c, e, hl⟩ := loads_of_own h
  cases e
  exact hl


/-- mirrored along and across, as the machine reckons -/
def mir (q1 q2 : Int) (x : Ld) : Ld := { x with bay := IntKind.i64.wrap (q1 - x.bay), row := IntKind.i64.wrap (q2 - x.row) }
theorem src_one (w : World) (x : Ld) (t : TypeId) (n : Nat) (hn : n = w.heap.size) : Src (w.alloc (.cells x.cells.toArray t)) 7 (some ⟨n, 0, none⟩) 1 x.cells :=
  ⟨rfl, fun _ => ⟨_, rfl, fun j u hj => by
    have h := (Whole.made_at w t x.cells.toArray n hn).cells j
    have e : (⟨n, 0, none⟩ : Addr).add j = ⟨n, j, none⟩ := by
      unfold Addr.add; split
      · rename_i h0; subst h0; rfl
      · simp
    rw [e, h]; simpa using hj⟩⟩
theorem one_cells (x : Ld) : ∀ u ∈ x.cells, u.oneCell' = true := by
  have := one_flat [x]
  simpa using this
theorem flat_snoc (xs : List Ld) (x : Ld) : xs.flatMap Ld.cells ++ x.cells = (xs ++ [x]).flatMap Ld.cells := by simp
end Go.Proofs.Ytcdjljcmhbipiaa
