/- Plain: loads that fit a ship, and their moments. -/
import Derived.Test.YtcdjljcmhbipiaaLoadsA
namespace Go.Proofs.Ytcdjljcmhbipiaa

/-- one load stands on the ship, and is no heavier than it may be -/
def onOk (s : Shp) (x : Ld) : Bool := inB x.bay 0 (s.bays - 1) && inB x.row 0 (s.rows - 1) && inB x.tier 0 (s.tiers - 1) && inB x.wt 1 1048576
def sameSlot (x y : Ld) : Bool := decide (x.bay = y.bay) && decide (x.row = y.row) && decide (x.tier = y.tier)
/-- none of them stands in x's slot -/
def free (ys : List Ld) (x : Ld) : Bool := ys.all fun y => !sameSlot y x
/-- the loads that are left, run behind those that were seen -/
def fitGo (s : Shp) : List Ld → List Ld → Bool
  | _, [] => true
  | seen, x :: r => onOk s x && free seen x && fitGo s (seen ++ [x]) r
def fitB (s : Shp) (xs : List Ld) : Bool := shipOk s && decide (xs.length ≤ 4096) && fitGo s [] xs

theorem drop_at {α : Type} (xs : List α) (k : Nat) (x : α) (h : xs[k]? = some x) : xs.drop k = x :: xs.drop (k + 1) := by
  obtain ⟨hk, he⟩ := List.getElem?_eq_some_iff.1 h
  rw [List.drop_eq_getElem_cons hk, he]
theorem take_at {α : Type} (xs : List α) (k : Nat) (x : α) (h : xs[k]? = some x) : xs.take (k + 1) = xs.take k ++ [x] := by
  obtain ⟨hk, he⟩ := List.getElem?_eq_some_iff.1 h
  rw [List.take_succ_eq_append_getElem hk, he]

theorem fitGo_at (s : Shp) (xs : List Ld) (k : Nat) (x : Ld) (h : xs[k]? = some x) :
    fitGo s (xs.take k) (xs.drop k) = (onOk s x && free (xs.take k) x && fitGo s (xs.take (k + 1)) (xs.drop (k + 1))) := by
  rw [drop_at xs k x h, fitGo, take_at xs k x h]
theorem free_not (xs : List Ld) (k j : Nat) (x y : Ld) (hj : j < k) (hy : xs[j]? = some y) (h : sameSlot y x = true) : free (xs.take k) x = false := by
  unfold free
  rw [List.all_eq_false]
  exact ⟨y, List.mem_of_getElem? (i := j) (by rw [List.getElem?_take]; simp [hj, hy]), by simp [h]⟩
theorem free_succ (xs : List Ld) (j : Nat) (x y : Ld) (hy : xs[j]? = some y) : free (xs.take (j + 1)) x = (free (xs.take j) x && !sameSlot y x) := by
  rw [take_at xs j y hy]; unfold free; simp [List.all_append]

/-- what fits, in other words -/
theorem fitGo_iff (s : Shp) (xs : List Ld) : ∀ seen, fitGo s seen xs = true ↔ (∀ x ∈ xs, onOk s x = true) ∧ (∀ x ∈ xs, free seen x = true) ∧ xs.Pairwise (fun a b => sameSlot a b = false) := by
  induction xs with
  | nil => intro seen; simp [fitGo]
  | cons x r ih =>
    intro seen
    simp only [fitGo, Bool.and_eq_true, ih, List.mem_cons, forall_eq_or_imp, List.pairwise_cons]
    have e : ∀ y, free (seen ++ [x]) y = (free seen y && !sameSlot x y) := fun y => by unfold free; simp [List.all_append]
    simp only [e, Bool.and_eq_true, Bool.not_eq_true']
    constructor
    · rintro ⟨⟨h1, h2⟩, h3, h4, h5⟩
      exact ⟨⟨h1, h3⟩, ⟨h2, fun y hy => (h4 y hy).1⟩, fun y hy => (h4 y hy).2, h5⟩
    · rintro ⟨⟨h1, h3⟩, ⟨h2, h4⟩, h6, h5⟩
      exact ⟨⟨h1, h2⟩, h3, fun y hy => ⟨h4 y hy, h6 y hy⟩, h5⟩
theorem fitB_iff (s : Shp) (xs : List Ld) : fitB s xs = true ↔ shipOk s = true ∧ xs.length ≤ 4096 ∧ (∀ x ∈ xs, onOk s x = true) ∧ xs.Pairwise (fun a b => sameSlot a b = false) := by
  unfold fitB
  rw [Bool.and_eq_true, Bool.and_eq_true, decide_eq_true_eq, fitGo_iff]
  have : ∀ x ∈ xs, free [] x = true := fun x _ => rfl
  constructor
  · rintro ⟨⟨h1, h2⟩, h3, _, h4⟩; exact ⟨h1, h2, h3, h4⟩
  · rintro ⟨h1, h2, h3, h4⟩; exact ⟨⟨h1, h2⟩, h3, this, h4⟩

theorem shipOk_bounds {s : Shp} (h : shipOk s = true) : 1 ≤ s.bays ∧ s.bays ≤ 32 ∧ 1 ≤ s.rows ∧ s.rows ≤ 32 ∧ 1 ≤ s.tiers ∧ s.tiers ≤ 32 ∧ 0 ≤ s.stack ∧ s.stack ≤ 1048576 ∧ 0 ≤ s.trim ∧ s.trim ≤ 1048576 ∧ 0 ≤ s.list ∧ s.list ≤ 1048576 ∧ 0 ≤ s.up ∧ s.up ≤ 1048576 ∧ 0 ≤ s.most ∧ s.most ≤ 1048576 := by
  simp only [shipOk, inB, Bool.and_eq_true, List.all_cons, List.all_nil, decide_eq_true_eq] at h
  omega
theorem onOk_bounds {s : Shp} {x : Ld} (h : onOk s x = true) : 0 ≤ x.bay ∧ x.bay < s.bays ∧ 0 ≤ x.row ∧ x.row < s.rows ∧ 0 ≤ x.tier ∧ x.tier < s.tiers ∧ 1 ≤ x.wt ∧ x.wt ≤ 1048576 := by
  simp only [onOk, inB, Bool.and_eq_true, decide_eq_true_eq] at h
  omega

/-! the moments -/
def longOf (s : Shp) (xs : List Ld) : Int := (xs.map fun x => x.wt * (2 * x.bay - s.bays + 1)).sum
def crossOf (s : Shp) (xs : List Ld) : Int := (xs.map fun x => x.wt * (2 * x.row - s.rows + 1)).sum
def upOf (xs : List Ld) : Int := (xs.map fun x => x.wt * x.tier).sum
def weightOf (xs : List Ld) : Int := (xs.map fun x => x.wt).sum

theorem prod_bd (a b : Int) (ha : 0 ≤ a) (ha' : a ≤ 1048576) (hb : -64 ≤ b) (hb' : b ≤ 64) : -67108864 ≤ a * b ∧ a * b ≤ 67108864 := by
  have h1 : a * b ≤ a * 64 := Int.mul_le_mul_of_nonneg_left hb' ha
  have h2 : a * (-64) ≤ a * b := Int.mul_le_mul_of_nonneg_left hb ha
  omega
theorem sum_bd (xs : List Ld) (f : Ld → Int) (h : ∀ x ∈ xs, -67108864 ≤ f x ∧ f x ≤ 67108864) : -(67108864 * (xs.length : Int)) ≤ (xs.map f).sum ∧ (xs.map f).sum ≤ 67108864 * (xs.length : Int) := by
  induction xs with
  | nil => simp
  | cons x r ih =>
    have h1 := h x (by simp)
    have h2 := ih fun y hy => h y (by simp [hy])
    simp only [List.map_cons, List.sum_cons, List.length_cons]
    omega

structure Small (xs : List Ld) (s : Shp) : Prop where
  long : -(67108864 * (xs.length : Int)) ≤ longOf s xs ∧ longOf s xs ≤ 67108864 * (xs.length : Int)
  cross : -(67108864 * (xs.length : Int)) ≤ crossOf s xs ∧ crossOf s xs ≤ 67108864 * (xs.length : Int)
  up : -(67108864 * (xs.length : Int)) ≤ upOf xs ∧ upOf xs ≤ 67108864 * (xs.length : Int)
  weight : -(67108864 * (xs.length : Int)) ≤ weightOf xs ∧ weightOf xs ≤ 67108864 * (xs.length : Int)
theorem small_of (s : Shp) (xs : List Ld) (hs : shipOk s = true) (h : ∀ x ∈ xs, onOk s x = true) : Small xs s := by
  have hb := shipOk_bounds hs
  refine ⟨sum_bd _ _ fun x hx => ?_, sum_bd _ _ fun x hx => ?_, sum_bd _ _ fun x hx => ?_, sum_bd _ _ fun x hx => ?_⟩
  all_goals have hx := onOk_bounds (h x hx)
  · exact prod_bd _ _ (by omega) (by omega) (by omega) (by omega)
  · exact prod_bd _ _ (by omega) (by omega) (by omega) (by omega)
  · exact prod_bd _ _ (by omega) (by omega) (by omega) (by omega)
  · omega

theorem longOf_at (s : Shp) (xs : List Ld) (k : Nat) (x : Ld) (h : xs[k]? = some x) : longOf s (xs.take (k + 1)) = longOf s (xs.take k) + x.wt * (2 * x.bay - s.bays + 1) := by
  rw [take_at xs k x h]; simp [longOf]
theorem crossOf_at (s : Shp) (xs : List Ld) (k : Nat) (x : Ld) (h : xs[k]? = some x) : crossOf s (xs.take (k + 1)) = crossOf s (xs.take k) + x.wt * (2 * x.row - s.rows + 1) := by
  rw [take_at xs k x h]; simp [crossOf]
theorem upOf_at (xs : List Ld) (k : Nat) (x : Ld) (h : xs[k]? = some x) : upOf (xs.take (k + 1)) = upOf (xs.take k) + x.wt * x.tier := by
  rw [take_at xs k x h]; simp [upOf]
theorem weightOf_at (xs : List Ld) (k : Nat) (x : Ld) (h : xs[k]? = some x) : weightOf (xs.take (k + 1)) = weightOf (xs.take k) + x.wt := by
  rw [take_at xs k x h]; simp [weightOf]

end Go.Proofs.Ytcdjljcmhbipiaa
