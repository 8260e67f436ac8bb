/- Rows of structs in memory, whatever the struct: own words. -/
import Derived.Test.YtjihkoleipkgmaaAppA
namespace Go.Proofs.Ytjihkoleipkgmaa
set_option linter.unusedVariables false
set_option linter.unusedSimpArgs false
open Go.RowKit

/-- how values of a type of Lean's lie in cells -/
structure Rowing (α : Type) where
  sz : Nat
  cells : α → List Value
  pos : 0 < sz
  len : ∀ x, (cells x).length = sz
  one : ∀ x, ∀ u ∈ cells x, u.oneCell' = true

/-- a slice that begins at A holds these, in blocks below B -/
def ListIn {α : Type} (R : Rowing α) (w : World) (B : Nat) (A : Option Addr) (xs : List α) : Prop :=
  xs ≠ [] → ∃ b off, A = some ⟨b, off, none⟩ ∧ b < B ∧ ∀ i x, xs[i]? = some x → CellsAt w b (off + i * R.sz) (R.cells x)

section
variable {α : Type} {R : Rowing α} {w w' : World} {B B' : Nat} {A : Option Addr} {xs : List α}
theorem ListIn.nil : ListIn R w B A [] := fun h => absurd rfl h
theorem ListIn.keep (h : ListIn R w B A xs) (hk : ∀ b o, b < B → w'.cell? ⟨b, o, none⟩ = w.cell? ⟨b, o, none⟩) : ListIn R w' B A xs := fun hne => by
  obtain ⟨b, off, e, hb, hc⟩ := h hne
  exact ⟨b, off, e, hb, fun i x hx => (hc i x hx).keep fun o => hk b o hb⟩
theorem ListIn.below (h : ListIn R w B A xs) (hb : Below B w w') : ListIn R w' B A xs := h.keep (old_cells hb)
theorem ListIn.more (h : ListIn R w B A xs) (hB : B ≤ B') : ListIn R w B' A xs := fun hne => by
  obtain ⟨b, off, e, hb, hc⟩ := h hne
  exact ⟨b, off, e, by omega, hc⟩
theorem ListIn.after (h : ListIn R w w.heap.size A xs) (hb : Below w.heap.size w w') : ListIn R w' w'.heap.size A xs := (h.below hb).more hb.size
theorem ListIn.drew (h : ListIn R w B A xs) : ListIn R w.drew B A xs := h
theorem ListIn.alloc (h : ListIn R w w.heap.size A xs) (o : Obj) : ListIn R (w.alloc o) (w.alloc o).heap.size A xs := h.after ((Below.refl _ _).alloc (Nat.le_refl _) _)
theorem ListIn.take (h : ListIn R w B A xs) (k : Nat) : ListIn R w B A (xs.take k) := fun hne => by
  obtain ⟨b, off, e, hb, hc⟩ := h (by intro e; subst e; simp at hne)
  exact ⟨b, off, e, hb, fun i x hx => hc i x (by rw [List.getElem?_take] at hx; split at hx; exact hx; cases hx)⟩
theorem ListIn.cut {k cap : Nat} (h : ListIn R w B A xs) (hc : xs.length ≤ cap) : ListIn R w B (if cap = k then A else Option.map (fun x => x.add (k * R.sz)) A) (xs.drop k) := fun hne => by
  have hk : k < xs.length := by
    rcases Nat.lt_or_ge k xs.length with h1 | h1
    · exact h1
    · exact absurd (List.drop_eq_nil_of_le h1) hne
  obtain ⟨b, off, rfl, hb, hcell⟩ := h (by intro e; subst e; simp at hk)
  rw [if_neg (by omega)]
  refine ⟨b, off + k * R.sz, ?_, hb, fun i x hx => ?_⟩
  · simp only [Option.map_some, Addr.add]
    split
    · rename_i h0; rw [h0]; rfl
    · rfl
  · have e : off + k * R.sz + i * R.sz = off + (k + i) * R.sz := by rw [Nat.add_mul]; omega
    rw [e]
    exact hcell (k + i) x (by rw [← hx, List.getElem?_drop])
/-- the cells of one -/
theorem ListIn.at (h : ListIn R w B A xs) {i : Nat} {x : α} (hx : xs[i]? = some x) : ∃ b off, A = some ⟨b, off, none⟩ ∧ b < B ∧ CellsAt w b (off + i * R.sz) (R.cells x) := by
  obtain ⟨b, off, e, hb, hc⟩ := h (by intro e; subst e; simp at hx)
  exact ⟨b, off, e, hb, hc i x hx⟩

theorem rows_len (R : Rowing α) (xs : List α) : (xs.flatMap R.cells).length = xs.length * R.sz := by
  induction xs with
  | nil => simp
  | cons x r ih => rw [List.flatMap_cons, List.length_append, ih, R.len, List.length_cons, Nat.succ_mul]; omega
theorem rows_at (R : Rowing α) (xs : List α) (i j : Nat) (x : α) (v : Value) (hx : xs[i]? = some x) (hv : (R.cells x)[j]? = some v) : (xs.flatMap R.cells)[i * R.sz + j]? = some v := by
  have hj : j < R.sz := by rw [← R.len x]; exact (List.getElem?_eq_some_iff.1 hv).1
  induction xs generalizing i with
  | nil => simp at hx
  | cons y r ih =>
    rw [List.flatMap_cons]
    cases i with
    | zero =>
      simp at hx; subst hx
      rw [List.getElem?_append_left (by rw [R.len]; omega)]
      simpa using hv
    | succ i =>
      rw [List.getElem?_append_right (by rw [R.len, Nat.succ_mul]; omega)]
      have e : (i + 1) * R.sz + j - (R.cells y).length = i * R.sz + j := by rw [R.len, Nat.succ_mul]; omega
      rw [e]
      exact ih i (by simpa using hx)
theorem rows_inv (R : Rowing α) (xs : List α) (i : Nat) (u : Value) (h : (xs.flatMap R.cells)[i]? = some u) : ∃ x, xs[i / R.sz]? = some x ∧ (R.cells x)[i % R.sz]? = some u := by
  have hi : i < xs.length * R.sz := by rw [← rows_len]; exact (List.getElem?_eq_some_iff.1 h).1
  have hk : i / R.sz < xs.length := Nat.div_lt_of_lt_mul (by rw [Nat.mul_comm]; exact hi)
  refine ⟨xs[i / R.sz], List.getElem?_eq_getElem hk, ?_⟩
  have hj : i % R.sz < R.sz := Nat.mod_lt _ R.pos
  obtain ⟨v, hv⟩ : ∃ v, (R.cells (xs[i / R.sz]))[i % R.sz]? = some v := ⟨(R.cells (xs[i / R.sz]))[i % R.sz]'(by rw [R.len (xs[i / R.sz])]; exact hj), List.getElem?_eq_getElem _⟩
  have := rows_at R xs (i / R.sz) (i % R.sz) _ v (List.getElem?_eq_getElem hk) hv
  rw [Nat.div_add_mod' i R.sz, h] at this
  rw [hv, this]
theorem rows_one (R : Rowing α) (xs : List α) : ∀ u ∈ xs.flatMap R.cells, u.oneCell' = true := by
  intro u hu
  obtain ⟨x, _, hx⟩ := List.mem_flatMap.1 hu
  exact R.one x u hx
theorem ListIn.src (h : ListIn R w B A xs) : Src w R.sz A xs.length (xs.flatMap R.cells) :=
  ⟨rows_len R xs, fun hm => by
    obtain ⟨b, off, e, hb, hc⟩ := h (by intro e; subst e; simp at hm)
    refine ⟨_, e, fun j u hj => ?_⟩
    obtain ⟨x, hx, hu⟩ := rows_inv R xs j u hj
    have := hc _ x hx _ _ hu
    have e2 : off + j / R.sz * R.sz + j % R.sz = off + j := by rw [Nat.add_assoc, Nat.div_add_mod']
    rw [e2] at this
    simp only [Addr.add]
    split
    · rename_i h0; subst h0; exact this
    · exact this⟩
theorem ListIn.src_n {n : Nat} (hn : n = xs.length) (h : ListIn R w B A xs) : Src w R.sz A n (xs.flatMap R.cells) := by rw [hn]; exact h.src
theorem src_new (R : Rowing α) (w : World) (x : α) (t : TypeId) (n : Nat) (hn : n = w.heap.size) : Src (w.alloc (.cells (R.cells x).toArray t)) R.sz (some ⟨n, 0, none⟩) 1 (R.cells x) :=
  ⟨by rw [R.len]; omega, fun _ => ⟨_, rfl, fun j u hj => by
    have h := (Whole.made_at w t (R.cells x).toArray n hn).cells j
    have e : (⟨n, 0, none⟩ : Addr).add j = ⟨n, j, none⟩ := by
      unfold Addr.add; split
      · rename_i h0; subst h0; rfl
      · simp
    rw [e, h]; simpa using hj⟩⟩
theorem rows_snoc (R : Rowing α) (xs : List α) (x : α) : xs.flatMap R.cells ++ R.cells x = (xs ++ [x]).flatMap R.cells := by simp
theorem rows_app (R : Rowing α) (xs ys : List α) : xs.flatMap R.cells ++ ys.flatMap R.cells = (xs ++ ys).flatMap R.cells := by simp
theorem rows_set (R : Rowing α) (xs : List α) (k : Nat) (x : α) (hx : xs[k]? = some x) (x' : α) (j : Nat) (hj : j < R.sz) (u : Value) (h : R.cells x' = (R.cells x).set j u) : (xs.flatMap R.cells).set (k * R.sz + j) u = (xs.set k x').flatMap R.cells := by
  induction xs generalizing k with
  | nil => simp at hx
  | cons y r ih =>
    have hl := R.len y
    cases k with
    | zero =>
      simp at hx; subst hx
      rw [List.flatMap_cons, List.set_append_left _ _ (by rw [hl]; omega)]
      simp [h]
    | succ k =>
      rw [List.flatMap_cons, List.set_append_right _ _ (by rw [hl, Nat.succ_mul]; omega)]
      have e : (k + 1) * R.sz + j - (R.cells y).length = k * R.sz + j := by rw [hl, Nat.succ_mul]; omega
      rw [e, ih k (by simpa using hx)]
      simp
theorem list_of_cells {g : Nat} (hb : g < B) (hc : ∀ j u, (xs.flatMap R.cells)[j]? = some u → w.cell? ⟨g, j, none⟩ = some u) : ListIn R w B (some ⟨g, 0, none⟩) xs := fun _ =>
  ⟨g, 0, rfl, hb, fun i x hx j v hv => by
    rw [Nat.zero_add]
    exact hc _ _ (rows_at R xs i j x v hx hv)⟩
/-- a block that was made of these -/
theorem list_made (R : Rowing α) (w : World) (n : Nat) (hn : n = w.heap.size) (t : TypeId) (xs : List α) : ListIn R (w.alloc (.cells (xs.flatMap R.cells).toArray t)) (w.alloc (.cells (xs.flatMap R.cells).toArray t)).heap.size (some ⟨n, 0, none⟩) xs := by
  subst hn
  exact list_of_cells (by simp) fun j u hj => by rw [(Whole.made w t _).cells]; simpa using hj
/-- a row of the call's own, read as a list -/
theorem list_of_own {base n : Nat} {e : TypeId} {v : Value} (h : w.ownsRow base e R.sz v n (xs.flatMap R.cells)) : ∃ A c, v = .slice A n c ∧ n ≤ c ∧ c ≤ maxLen ∧ n = xs.length ∧ ListIn R w w.heap.size A xs := by
  have hl : xs.length = n := by have := h.1; rw [rows_len] at this; exact Nat.eq_of_mul_eq_mul_right R.pos this
  rcases h.2 with ⟨rfl, hn0⟩ | ⟨g, cap, cur, rfl, _, hg, hnc, hcm, _, _⟩
  · have : xs = [] := List.eq_nil_of_length_eq_zero (by omega)
    subst this
    simp at hl; subst hl
    exact ⟨none, 0, rfl, Nat.le_refl _, Nat.zero_le _, rfl, ListIn.nil⟩
  · refine ⟨_, cap, rfl, hnc, hcm, hl.symm, ?_⟩
    have hlt : g < w.heap.size := (h.lt g rfl).2
    refine list_of_cells hlt fun j u hj => ?_
    have hj' : j < n * R.sz := by rw [← hl, ← rows_len]; exact (List.getElem?_eq_some_iff.1 hj).1
    rw [h.cellAt j hj', hj]
end

theorem own_cap {w : World} {base e size g n cap : Nat} {xs : List Value} (h : w.ownsRow base e size (.slice (some ⟨g, 0, none⟩) n cap) n xs) : n ≤ cap := by
  rcases h.2 with ⟨h', _⟩ | ⟨g', cap', cur, h', _, _, hnc, _⟩
  · cases h'
  · cases h'; exact hnc
/-- what an append to a row of the call's own has turned: nothing that lies ahead -/
theorem below_grown {base : Nat} {e : TypeId} {size n : Nat} {a w w' : World} {v : Value} {xs : List Value} (k : Below a.heap.size a w) (hown : w.ownsRow base e size v n xs) (hB : a.heap.size ≤ base) (hg : w.grownBy w' v.ownBlock) : Below a.heap.size a w' :=
  k.grown hg k.size (fun j hj => by have := (hown.lt j hj).1; omega)
end Go.Proofs.Ytjihkoleipkgmaa
