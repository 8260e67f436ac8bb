/- A row of structs of the call's own, sorted by the library. -/
import Derived.Test.YtjihkoleipkgmaaCmpG
import Derived.Shelf.SlSortCmp.NoneTotal
import Derived.Sort.OwnSorted
namespace Go.Proofs.Ytjihkoleipkgmaa
set_option linter.unusedVariables false
set_option linter.unusedSimpArgs false
open Go.RowKit Go.Sort Go.Shelf Go.Lib

section
variable {α : Type} [Inhabited α] (R : Rowing α)
theorem flatK_rows (xs : List α) : (flatK R.cells R.sz xs.toArray).toList = xs.flatMap R.cells := by
  apply List.ext_getElem?
  intro t
  rcases Nat.lt_or_ge t (xs.length * R.sz) with ht | ht
  · have hu : ∃ u, (xs.flatMap R.cells)[t]? = some u := ⟨_, List.getElem?_eq_getElem (by rw [rows_len]; exact ht)⟩
    obtain ⟨u, hu⟩ := hu
    obtain ⟨x, h1, h2⟩ := rows_inv R xs t u hu
    have hs : t < xs.toArray.size * R.sz := by simpa using ht
    have hF : t < (flatK R.cells R.sz xs.toArray).size := by rw [size_flatK]; exact hs
    rw [hu, Array.getElem?_toList, Array.getElem?_eq_getElem hF, ← getElem!_pos _ t hF, get_flatK _ _ _ t hs]
    have e1 : xs.toArray[t / R.sz]! = x := by
      rw [Array.getElem!_eq_getD, Array.getD_eq_getD_getElem?, List.getElem?_toArray, h1]; rfl
    rw [e1, List.getElem!_eq_getElem?_getD, h2]
    rfl
  · rw [List.getElem?_eq_none (by simp; omega), List.getElem?_eq_none (by rw [rows_len]; omega)]
theorem holdsK_row {w : World} {g : Nat} {cur : Array Value} {e : TypeId} {xs : List α} (hb : w.heap[g]? = some (.cells cur e (0, 0))) (ht : cur.toList.take (xs.length * R.sz) = xs.flatMap R.cells) : HoldsK R.cells R.sz w g 0 xs.toArray := by
  intro j hj
  have hj' : j < xs.length * R.sz := by simpa using hj
  refine ⟨?_, by simp [World.frozen?, hb]⟩
  have h1 : (cur.toList.take (xs.length * R.sz))[j]? = (flatK R.cells R.sz xs.toArray).toList[j]? := by rw [ht, flatK_rows]
  rw [List.getElem?_take_of_lt hj', Array.getElem?_toList, Array.getElem?_toList, Array.getElem?_eq_getElem hj] at h1
  simp only [World.cell?, hb, Nat.zero_add]
  simp only [Option.isSome_none, Bool.false_eq_true, if_false]
  rw [h1, getElem!_pos _ j hj]
  rfl
theorem heap_sortedK {w : World} {g n : Nat} {os : Array Obj} {cur : Array Value} {e : TypeId} {fr : Nat × Nat} (F : Array Value) (hb : w.heap[g]? = some (.cells cur e fr)) :
    (grow (putRow id (Sort.ahead w n) g 0 F) os).heap[g]? = some (.cells (putCells id 0 F cur) e fr) := by
  have hg : g < w.heap.size := (Array.getElem?_eq_some_iff.1 hb).1
  rw [heap_grow_old _ _ (by simpa using hg)]
  simp [putRow, mapBlock, Sort.ahead, Array.getElem?_modify, hb, onCells]
theorem take_putCellsK (cur F : Array Value) (h : F.size ≤ cur.size) : (putCells id 0 F cur).toList.take F.size = F.toList := by
  apply List.ext_getElem?
  intro j
  by_cases hj : j < F.size
  · rw [List.getElem?_take_of_lt hj, Array.getElem?_toList]
    simp [putCells, hj, show j < cur.size by omega]
  · rw [List.getElem?_take_eq_none (by omega), List.getElem?_eq_none (by simp; omega)]
theorem ownsRow_sortedK {w : World} {base g cap n m : Nat} {e : TypeId} {os : Array Obj} {cur : Array Value} {d : Array α} (hl : d.size = n) (hbase : base ≤ g) (hb : w.heap[g]? = some (.cells cur e (0, 0)))
    (h1 : n ≤ cap) (h2 : cap ≤ maxLen) (h3 : cur.size = cap * R.sz) :
    (sortWorldK R.cells R.sz w g 0 m d os).ownsRow base e R.sz (.slice (some ⟨g, 0, none⟩) n cap) n (d.toList.flatMap R.cells) := by
  have hF : (flatK R.cells R.sz d).size = n * R.sz := by rw [size_flatK, hl]
  have hle : n * R.sz ≤ cur.size := by rw [h3]; exact Nat.mul_le_mul_right _ h1
  refine ⟨by rw [rows_len]; simp [hl], .inr ⟨g, cap, _, rfl, hbase, heap_sortedK _ hb, h1, h2, by simp [putCells, h3], ?_⟩⟩
  rw [← hF, take_putCellsK _ _ (by rw [hF]; exact hle)]
  have := flatK_rows R d.toList
  simpa using this
theorem laid_sortK {w : World} {B g m : Nat} {os : Array Obj} {d : Array α} (hB : B ≤ g) (hg : g < w.heap.size) : Below B w (sortWorldK R.cells R.sz w g 0 m d os) ∧ w.drawn ≤ (sortWorldK R.cells R.sz w g 0 m d os).drawn := by
  refine ⟨⟨rfl, rfl, rfl, ?_, fun k hk => ?_⟩, ?_⟩
  · simp [sortWorldK, putRowK]
  · unfold sortWorldK putRowK
    have h : k < w.heap.size := by omega
    rw [heap_grow_old _ _ (by simpa using h)]
    have : g ≠ k := by omega
    simp [putRow, mapBlock, Sort.ahead, Array.getElem?_modify, this]
  · show w.drawn ≤ w.drawn + m
    omega
end

end Go.Proofs.Ytjihkoleipkgmaa
