/- What the shares' rows hold, plainly. -/
import Derived.Test.YtgbheogmccfaaaaGreatSpS
import Derived.Test.YtgbheogmccfaaaaGreatSelP
import Derived.Laws.MakeOwn
namespace Go.Proofs.YtgbheogmccfaaaaGreat
set_option linter.unusedVariables false
set_option linter.unusedSimpArgs false
open Go.RowKit

theorem made_num (k : IntKind) (n : Nat) : madeCells #[.int k 0] (n * 1) = numA k (List.replicate n 0) := by
  apply Array.ext
  · simp [madeCells, numA]
  · intro i h1 h2
    simp [madeCells, numA, Nat.mod_one]
theorem make_num {P : Program} (t e : TypeId) (i : TypeInfo) (k : IntKind) (ht : P.underlying t = some (.slice e)) (hi : P.info? e = some i) (hz : i.zero = some (.int k 0)) (hs : i.size = 1) (hb : i.bytes = 8) (n : Nat) (hn : n ≤ 100000) (w : World) :
    (Instr.makeSlice t (.int .i64 n) (.int .i64 n)).run P w = .ok (.slice (some ⟨w.heap.size, 0, none⟩) n n) (w.alloc (.cells (numA k (List.replicate n 0)) e)) := by
  have h := run_make (P := P) w t e i _ ht hi hz .i64 .i64 n n (by omega) (Int.le_refl _) (by rw [hb]; omega) (by omega)
  rw [Int.toNat_natCast, hs] at h
  rw [h]
  have e1 : (Value.int k 0).cells = #[.int k 0] := rfl
  rw [e1, made_num]

/-- filled up to a place -/
def fillL (f : Nat → Nat) (n m : Nat) : List Nat := (List.range n).map fun i => if i < m then f i else 0
theorem fill_zero (f : Nat → Nat) (n : Nat) : fillL f n 0 = List.replicate n 0 := by
  apply List.ext_getElem <;> simp [fillL]
theorem fill_len (f : Nat → Nat) (n m : Nat) : (fillL f n m).length = n := by simp [fillL]
theorem fill_all (l : List Nat) : fillL (fun i => l.getD i 0) l.length l.length = l := by
  apply List.ext_getElem
  · simp [fillL]
  · intro i h1 h2; simp [fillL, h2]
theorem fill_get (f : Nat → Nat) (n m i : Nat) (hi : i < n) : (fillL f n m)[i]? = some (if i < m then f i else 0) := by
  simp [fillL, hi]
theorem numA_set (k : IntKind) (l : List Nat) (i v : Nat) : (numA k l).setIfInBounds i (.int k v) = numA k (l.set i v) := by
  simp [numA, List.map_set]
theorem fill_put (k : IntKind) (f : Nat → Nat) (n m : Nat) (v : Nat) (hv : v = f m) : (numA k (fillL f n m)).setIfInBounds m (.int k v) = numA k (fillL f n (m + 1)) := by
  rw [numA_set]
  congr 1
  apply List.ext_getElem
  · simp [fillL]
  · intro i h1 h2
    simp only [fillL, List.getElem_set, List.getElem_map, List.getElem_range]
    by_cases e : m = i
    · subst e; simp [hv]
    · rw [if_neg e]
      have : (i < m + 1) ↔ (i < m) := by omega
      simp [this]
/-- with one more at the first places -/
def addL (q r : List Nat) (m : Nat) : List Nat := (List.range r.length).map fun i => q.getD i 0 + if rk r i < m then 1 else 0
theorem add_len (q r : List Nat) (m : Nat) : (addL q r m).length = r.length := by simp [addL]
theorem add_zero (q r : List Nat) (h : q.length = r.length) : addL q r 0 = q := by
  apply List.ext_getElem
  · simp [addL, h]
  · intro i h1 h2; simp [addL, h2]
theorem add_get (q r : List Nat) (m i : Nat) (hi : i < r.length) : (addL q r m)[i]? = some (q.getD i 0 + if rk r i < m then 1 else 0) := by simp [addL, hi]
theorem add_put (k : IntKind) (q r : List Nat) (m b : Nat) (hb : b < r.length) (h : rk r b = m) : (numA k (addL q r m)).setIfInBounds b (.int k ((q.getD b 0 + 1 : Nat) : Int)) = numA k (addL q r (m + 1)) := by
  rw [numA_set]
  congr 1
  apply List.ext_getElem
  · simp [addL]
  · intro i h1 h2
    have hi : i < r.length := by simpa [addL] using h2
    simp only [addL, List.getElem_set, List.getElem_map, List.getElem_range]
    have hp := plus_succ hb hi h
    by_cases e : b = i
    · subst e; rw [if_pos rfl, h]; simp
    · have e' : ¬ i = b := fun x => e x.symm
      rw [if_neg e, hp, if_neg e']; rfl
theorem quos_len (t : Nat) (ws : List Nat) : (quosL t ws).length = ws.length := by simp [quosL]
theorem rests_len (t : Nat) (ws : List Nat) : (restsL t ws).length = ws.length := by simp [restsL]
theorem split_add (t : Nat) (ws : List Nat) : addL (quosL t ws) (restsL t ws) (leftN t ws) = splitN t ws := by
  unfold addL splitN plusL
  rw [rests_len]
theorem split_none (ws : List Nat) : splitN 0 ws = List.replicate ws.length 0 := by
  have hq : quosL 0 ws = List.replicate ws.length 0 := by
    unfold quosL
    apply List.ext_getElem <;> simp
  have hl : leftN 0 ws = 0 := by unfold leftN; omega
  unfold splitN plusL
  rw [hl, hq]
  apply List.ext_getElem
  · simp
  · intro i h1 h2
    have hi : i < ws.length := by simpa using h2
    simp [List.getD, hi]
theorem sum_take_succ (l : List Nat) (k x : Nat) (hx : l[k]? = some x) : (l.take (k + 1)).sum = (l.take k).sum + x := by
  have hk : k < l.length := (List.getElem?_eq_some_iff.1 hx).1
  rw [List.take_succ_eq_append_getElem hk, (List.getElem?_eq_some_iff.1 hx).2]; simp
theorem sum_take_le (l : List Nat) (k : Nat) : (l.take k).sum ≤ l.sum := by
  have h : l.sum = (l.take k).sum + (l.drop k).sum := by rw [← List.sum_append, List.take_append_drop]
  omega
theorem sum_bound : ∀ (l : List Nat) (b : Nat), (∀ x ∈ l, x ≤ b) → l.sum ≤ l.length * b
  | [], _, _ => by simp
  | x :: r, b, h => by
    have h1 := h x (List.mem_cons_self ..)
    have h2 := sum_bound r b fun y hy => h y (List.mem_cons_of_mem _ hy)
    rw [List.sum_cons, List.length_cons, Nat.succ_mul]
    omega
end Go.Proofs.YtgbheogmccfaaaaGreat
