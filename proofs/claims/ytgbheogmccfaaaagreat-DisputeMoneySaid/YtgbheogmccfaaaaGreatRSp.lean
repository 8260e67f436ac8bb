/- Walk: the reference's split. -/
import Derived.Test.YtgbheogmccfaaaaGreatSpW
import Derived.Test.YtgbheogmccfaaaaGreatTms
namespace Go.Proofs.YtgbheogmccfaaaaGreat
set_option linter.unusedVariables false
set_option linter.unusedSimpArgs false
open Go.RowKit

def intA (l : List Int) : Array Value := (l.map fun (x : Int) => Value.int .i64 x).toArray
theorem intA_get (l : List Int) (i : Nat) : (intA l)[i]? = (l[i]?).map fun (x : Int) => Value.int .i64 x := by simp [intA]
/-- the rests that are left -/
def restA (r : List Nat) (m : Nat) : List Int := (List.range r.length).map (restI r m)
theorem restA_get (r : List Nat) (m i : Nat) (hi : i < r.length) : (restA r m)[i]? = some (restI r m i) := by simp [restA, hi]
theorem restA_zero (r : List Nat) : intA (restA r 0) = numA .i64 r := by
  unfold intA numA restA
  congr 1
  apply List.ext_getElem
  · simp
  · intro i h1 h2
    have hi : i < r.length := by simpa using h2
    simp [restI, List.getD, hi]
theorem restA_put (r : List Nat) (m b : Nat) (hb : b < r.length) (h : rk r b = m) : (intA (restA r m)).setIfInBounds b (.int .i64 (-1)) = intA (restA r (m + 1)) := by
  unfold intA
  rw [List.setIfInBounds_toArray, ← List.map_set]
  congr 2
  apply List.ext_getElem
  · simp [restA]
  · intro i h1 h2
    have hi : i < r.length := by simpa [restA] using h2
    simp only [restA, List.getElem_set, List.getElem_map, List.getElem_range]
    have hp := restI_succ hb hi h
    by_cases e : b = i
    · subst e; rw [if_pos rfl, hp, if_pos rfl]
    · have e' : ¬ i = b := fun x => e x.symm
      rw [if_neg e, hp, if_neg e']
theorem restI_bd (r : List Nat) (B : Nat) (h : ∀ x ∈ r, x ≤ B) (m i : Nat) (hi : i < r.length) : -1 ≤ restI r m i ∧ restI r m i ≤ B := by
  unfold restI
  have hx := h _ (List.getElem_mem hi)
  have e : r.getD i 0 = r[i] := by simp [List.getD, hi]
  rw [e]
  split <;> omega
end Go.Proofs.YtgbheogmccfaaaaGreat
