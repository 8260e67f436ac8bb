/- Claimants in their rank, plainly. -/
import Derived.Test.YtgbheogmccfaaaaGreatDisP
namespace Go.Proofs.YtgbheogmccfaaaaGreat
set_option linter.unusedVariables false
set_option linter.unusedSimpArgs false
open Go.RowKit

/-- the place of one among those that rank -/
def insAt (x : Cl) : List Cl → Nat
  | [] => 0
  | y :: t => if leC y x = true then insAt x t + 1 else 0
def insL (out : List Cl) (x : Cl) : List Cl := out.take (insAt x out) ++ x :: out.drop (insAt x out)
def rankR (l : List Cl) : List Cl := l.foldl insL []
theorem insL_cons (y x : Cl) (t : List Cl) : insL (y :: t) x = if leC y x = true then y :: insL t x else x :: y :: t := by
  unfold insL
  rw [insAt]
  split <;> simp
theorem insL_perm (x : Cl) : ∀ out : List Cl, (insL out x).Perm (x :: out)
  | [] => List.Perm.refl _
  | y :: t => by
    rw [insL_cons]
    split
    · exact ((insL_perm x t).cons y).trans (List.Perm.swap x y t)
    · exact List.Perm.refl _
theorem insL_sorted (x : Cl) : ∀ out : List Cl, out.Pairwise (fun a b => leC a b = true) → (insL out x).Pairwise (fun a b => leC a b = true)
  | [], _ => by simp [insL, insAt]
  | y :: t, h => by
    obtain ⟨h1, h2⟩ := List.pairwise_cons.1 h
    rw [insL_cons]
    split
    · rename_i hy
      refine List.pairwise_cons.2 ⟨fun z hz => ?_, insL_sorted x t h2⟩
      rcases List.mem_cons.1 ((insL_perm x t).mem_iff.1 hz) with rfl | hz
      · exact hy
      · exact h1 z hz
    · rename_i hy
      have hxy : leC x y = true := by
        have := leC_total y x
        simp only [Bool.or_eq_true] at this
        rcases this with h | h
        · exact absurd h hy
        · exact h
      refine List.pairwise_cons.2 ⟨fun z hz => ?_, h⟩
      rcases List.mem_cons.1 hz with rfl | hz
      · exact hxy
      · exact leC_trans x y z hxy (h1 z hz)
theorem rankR_go : ∀ (l acc : List Cl), acc.Pairwise (fun a b => leC a b = true) → (l.foldl insL acc).Perm (acc ++ l) ∧ (l.foldl insL acc).Pairwise (fun a b => leC a b = true)
  | [], acc, h => by simp; exact h
  | x :: t, acc, h => by
    obtain ⟨h1, h2⟩ := rankR_go t (insL acc x) (insL_sorted x acc h)
    refine ⟨h1.trans ?_, h2⟩
    have := (insL_perm x acc).append_right t
    refine this.trans ?_
    rw [List.cons_append]
    exact List.perm_middle.symm
theorem rankR_eq (l : List Cl) : rankR l = rankL l := by
  obtain ⟨h1, h2⟩ := rankR_go l [] List.Pairwise.nil
  rw [List.nil_append] at h1
  exact rank_unique h1 h2
theorem rankR_take (l : List Cl) (k : Nat) (x : Cl) (hx : l[k]? = some x) : rankR (l.take (k + 1)) = insL (rankR (l.take k)) x := by
  have hk : k < l.length := (List.getElem?_eq_some_iff.1 hx).1
  unfold rankR
  rw [List.take_succ_eq_append_getElem hk, (List.getElem?_eq_some_iff.1 hx).2, List.foldl_append]
  rfl
theorem insAt_le (x : Cl) : ∀ out : List Cl, insAt x out ≤ out.length
  | [] => Nat.le_refl _
  | y :: t => by rw [insAt]; have := insAt_le x t; split <;> simp <;> omega
/-- below its place all are no worse; there stands a worse one -/
theorem insAt_lt (x : Cl) : ∀ (out : List Cl) (k : Nat) (y : Cl), out[k]? = some y → (k < insAt x out → leC y x = true) ∧ (k = insAt x out → leC y x = false)
  | [], k, y, h => by simp at h
  | z :: t, k, y, h => by
    rw [insAt]
    cases k with
    | zero =>
      simp at h; subst h
      split
      · rename_i hz; exact ⟨fun _ => hz, fun h => by omega⟩
      · rename_i hz; exact ⟨fun h => by omega, fun _ => by simpa using hz⟩
    | succ k =>
      have ih := insAt_lt x t k y (by simpa using h)
      split
      · exact ⟨fun h => ih.1 (by omega), fun h => ih.2 (by omega)⟩
      · exact ⟨fun h => by omega, fun h => by omega⟩
theorem rankL_length (l : List Cl) : (rankL l).length = l.length := by unfold rankL; rw [List.length_mergeSort]
theorem rankL_mem (l : List Cl) (c : Cl) : c ∈ rankL l ↔ c ∈ l := (List.mergeSort_perm l leC).mem_iff
theorem rankL_sorted (l : List Cl) : (rankL l).Pairwise (fun a b => leC a b = true) := List.pairwise_mergeSort leC_trans leC_total l
theorem rankL_perm {l l' : List Cl} (h : l.Perm l') : rankL l = rankL l' := (rank_unique (l := l) (l' := rankL l') ((List.mergeSort_perm l' leC).trans h.symm) (rankL_sorted l')).symm
end Go.Proofs.YtgbheogmccfaaaaGreat
