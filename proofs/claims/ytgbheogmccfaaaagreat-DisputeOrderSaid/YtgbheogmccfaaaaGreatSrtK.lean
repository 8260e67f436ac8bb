/- A row of structs of the call's own, sorted by the library. -/
import Derived.Test.YtgbheogmccfaaaaGreatClE
import Derived.Test.YtgbheogmccfaaaaGreatShelg
import Derived.Shelf.SlSortCmp.NoneTotal
import Derived.Sort.OwnSorted
namespace Go.Proofs.YtgbheogmccfaaaaGreat
set_option linter.unusedVariables false
set_option linter.unusedSimpArgs false
open Go.RowKit Go.Sort Go.Shelf Go.Lib

section
variable {α : Type} [Inhabited α] (R : Rowing α)
theorem flatK_rows (xs : List α) : (flatK R.cells R.sz xs.toArray).toList = xs.flatMap R.cells := by
  apply List.ext_getElem?
  intro t
  rcases Nat.lt_or_ge t (xs.length * R.sz) with ht | ht
  · have hu : ∃ u, (xs.flatMap R.cells)[t]? = some u := ⟨_, List.getElem?_eq_getElem (by rw [rows_len]; exact ht)⟩
    obtain ⟨u, hu⟩ := hu
    obtain ⟨x, h1, h2⟩ := rows_inv R xs t u hu
    have hs : t < xs.toArray.size * R.sz := by simpa using ht
    have hF : t < (flatK R.cells R.sz xs.toArray).size := by rw [size_flatK]; exact hs
    rw [hu, Array.getElem?_toList, Array.getElem?_eq_getElem hF, ← getElem!_pos _ t hF, get_flatK _ _ _ t hs]
    have e1 : xs.toArray[t / R.sz]! = x := by
      rw [Array.getElem!_eq_getD, Array.getD_eq_getD_getElem?, List.getElem?_toArray, h1]; rfl
    rw [e1, List.getElem!_eq_getElem?_getD, h2]
    rfl
  · rw [List.getElem?_eq_none (by simp; omega), List.getElem?_eq_none (by rw [rows_len]; omega)]
theorem holdsK_row {w : World} {g : Nat} {cur : Array Value} {e : TypeId} {xs : List α} (hb : w.heap[g]? = some (.cells cur e (0, 0))) (ht : cur.toList.take (xs.length * R.sz) = xs.flatMap R.cells) : HoldsK R.cells R.sz w g 0 xs.toArray := by
  intro j hj
  have hj' : j < xs.length * R.sz := by simpa using hj
  refine ⟨?_, by simp [World.frozen?, hb]⟩
  have h1 : (cur.toList.take (xs.length * R.sz))[j]? = (flatK R.cells R.sz xs.toArray).toList[j]? := by rw [ht, flatK_rows]
  rw [List.getElem?_take_of_lt hj', Array.getElem?_toList, Array.getElem?_toList, Array.getElem?_eq_getElem hj] at h1
  simp only [World.cell?, hb, Nat.zero_add]
  simp only [Option.isSome_none, Bool.false_eq_true, if_false]
  rw [h1, getElem!_pos _ j hj]
  rfl
theorem heap_sortedK {w : World} {g n : Nat} {os : Array Obj} {cur : Array Value} {e : TypeId} {fr : Nat × Nat} (F : Array Value) (hb : w.heap[g]? = some (.cells cur e fr)) :
    (grow (putRow id (Sort.ahead w n) g 0 F) os).heap[g]? = some (.cells (putCells id 0 F cur) e fr) := by
  have hg : g < w.heap.size := (Array.getElem?_eq_some_iff.1 hb).1
  rw [heap_grow_old _ _ (by simpa using hg)]
  simp [putRow, mapBlock, Sort.ahead, Array.getElem?_modify, hb, onCells]
theorem take_putCellsK (cur F : Array Value) (h : F.size ≤ cur.size) : (putCells id 0 F cur).toList.take F.size = F.toList := by
  apply List.ext_getElem?
  intro j
  by_cases hj : j < F.size
  · rw [List.getElem?_take_of_lt hj, Array.getElem?_toList]
    simp [putCells, hj, show j < cur.size by omega]
  · rw [List.getElem?_take_eq_none (by omega), List.getElem?_eq_none (by simp; omega)]
theorem ownsRow_sortedK {w : World} {base g cap n m : Nat} {e : TypeId} {os : Array Obj} {cur : Array Value} {d : Array α} (hl : d.size = n) (hbase : base ≤ g) (hb : w.heap[g]? = some (.cells cur e (0, 0)))
    (h1 : n ≤ cap) (h2 : cap ≤ maxLen) (h3 : cur.size = cap * R.sz) :
    (sortWorldK R.cells R.sz w g 0 m d os).ownsRow base e R.sz (.slice (some ⟨g, 0, none⟩) n cap) n (d.toList.flatMap R.cells) := by
  have hF : (flatK R.cells R.sz d).size = n * R.sz := by rw [size_flatK, hl]
  have hle : n * R.sz ≤ cur.size := by rw [h3]; exact Nat.mul_le_mul_right _ h1
  refine ⟨by rw [rows_len]; simp [hl], .inr ⟨g, cap, _, rfl, hbase, heap_sortedK _ hb, h1, h2, by simp [putCells, h3], ?_⟩⟩
  rw [← hF, take_putCellsK _ _ (by rw [hF]; exact hle)]
  have := flatK_rows R d.toList
  simpa using this
theorem laid_sortK {w : World} {B g m : Nat} {os : Array Obj} {d : Array α} (hB : B ≤ g) (hg : g < w.heap.size) : Below B w (sortWorldK R.cells R.sz w g 0 m d os) ∧ w.drawn ≤ (sortWorldK R.cells R.sz w g 0 m d os).drawn := by
  refine ⟨⟨rfl, rfl, rfl, ?_, fun k hk => ?_⟩, ?_⟩
  · simp [sortWorldK, putRowK]
  · unfold sortWorldK putRowK
    have h : k < w.heap.size := by omega
    rw [heap_grow_old _ _ (by simpa using h)]
    have : g ≠ k := by omega
    simp [putRow, mapBlock, Sort.ahead, Array.getElem?_modify, this]
  · show w.drawn ≤ w.drawn + m
    omega
end

theorem swo_cl : SWO (ltOf clCmp) := ⟨fun x => by
    have := clCmp_zero.2 (rfl : x = x)
    simp [ltOf, this], fun x y z h1 h2 => by
    simp only [ltOf, decide_eq_true_eq] at *
    have := clCmp_trans (a := x) (b := y) (c := z) (by omega) (by omega)
    have h3 := this.1
    have h4 := this.2
    by_cases h : clCmp x z = 0
    · have := h4 h; omega
    · omega, fun x y z h1 h2 => by
    simp only [ltOf, decide_eq_false_iff_not] at *
    have e1 := clCmp_swap x y
    have e2 := clCmp_swap y z
    have e3 := clCmp_swap x z
    have := (clCmp_trans (a := z) (b := y) (c := x) (by omega) (by omega)).1
    omega⟩
theorem sorted_rank [Inhabited Cl] {xs : List Cl} {d : Array Cl} (hp : PermIn 0 xs.toArray.size xs.toArray d) (hs : SortedIn (ltOf clCmp) 0 xs.toArray.size d) : d.toList = rankL xs := by
  obtain ⟨h1, h2, h3⟩ := hp
  refine rank_unique ?_ ?_
  · have e1 : (d.extract 0 xs.toArray.size) = d := by rw [← h1]; simp
    have e2 : (xs.toArray.extract 0 xs.toArray.size) = xs.toArray := by simp
    rw [e1, e2] at h3
    simpa using h3
  · rw [List.pairwise_iff_getElem]
    intro i j hi hj hij
    have h4 := hs i j (Nat.zero_le _) hij (by rw [← h1]; simpa using hj)
    have ei : d[i]! = d.toList[i] := by rw [getElem!_pos d i (by simpa using hi)]; simp
    have ej : d[j]! = d.toList[j] := by rw [getElem!_pos d j (by simpa using hj)]; simp
    rw [ei, ej] at h4
    simp only [ltOf, decide_eq_false_iff_not] at h4
    simp only [leC, decide_eq_true_eq]
    have := clCmp_swap d.toList[i] d.toList[j]
    omega

theorem sortCl_none (p : Option Addr) (cap : Nat) (fv : Value) (w : World) : Calls Tryz.prog 27 #[.slice p 0 cap, fv] w fun e w' => e = .returned (.tuple #[]) ∧ w' = w :=
  AnyF.slices_SortFunc_none Tryz.sortCl p cap fv w
theorem sortCl_any {xs : List Cl} {B n : Nat} {v : Value} {w : World} (hn : n = xs.length) (hlen : n ≤ 100000) (own : w.ownsRow B 23 clR.sz v n (xs.flatMap clR.cells)) :
    Calls Tryz.prog 27 #[v, .func (.func 28) #[] #[]] w fun e w' => e = .returned (.tuple #[]) ∧ w'.ownsRow B 23 clR.sz v n ((rankL xs).flatMap clR.cells) ∧ Below B w w' ∧ w.drawn ≤ w'.drawn := by
  rcases own.2 with ⟨rfl, h0⟩ | ⟨g, cap, cur, rfl, hB, hg, hc, hm, hs, ht⟩
  · have hx : xs = [] := List.eq_nil_of_length_eq_zero (by omega)
    subst hx
    subst h0
    refine (sortCl_none none 0 _ w).mono ?_
    rintro e w' ⟨rfl, rfl⟩
    refine ⟨rfl, ?_, Below.refl _ _, Nat.le_refl _⟩
    have e : rankL [] = [] := by unfold rankL; exact List.mergeSort_nil
    rw [e]
    exact own
  · haveI : Inhabited Cl := ⟨⟨ByteArray.empty, ByteArray.empty, 0, 0, 0⟩⟩
    have hgs : g < w.heap.size := (Array.getElem?_eq_some_iff.1 hg).1
    have eg : ∀ args W, (callFunc 28 args).run Tryz.prog W = .ok (.enter 28 args) W := enters_of Tryz.func28 (by kernel_rfl) rfl
    have hcmp : CmpLays Tryz.prog 28 #[] clR.cells clR.sz clCmp g 0 xs.toArray.size w := fun m os dk _ x y =>
      (Rank1_any x y _).mono fun e w' ⟨h1, h2⟩ => ⟨h1, h2.out⟩
    have hH : HoldsK clR.cells clR.sz w g 0 xs.toArray := holdsK_row clR hg (by rw [← hn]; exact ht)
    have key := AnyQ.slices_SortFunc Tryz.sortCl clR.sz Tryz.isAgg23 Tryz.sizeOf23 clR.cells clR.len clR.one clCmp swo_cl 28 #[] g 0 cap xs.toArray w eg hcmp hH hgs (by simp; omega)
    change Calls Tryz.prog 27 _ _ _ at key
    have e0 : xs.toArray.size = n := by simp [hn]
    rw [e0] at key
    refine key.mono ?_
    rintro e w' ⟨rfl, d, m, os, hp, hso, rfl⟩
    have hd := sorted_rank (xs := xs) (d := d) (by rw [e0]; exact hp) (by rw [e0]; exact hso)
    have hb := laid_sortK clR (w := w) (m := m) (os := os) (d := d) hB hgs
    refine ⟨rfl, ?_, hb.1, hb.2⟩
    rw [← hd]
    exact ownsRow_sortedK clR (by rw [hp.1, e0]) hB hg hc hm hs
end Go.Proofs.YtgbheogmccfaaaaGreat
