/- What is shared out by weights, plainly. -/
import Derived.Test.YtgbheogmccfaaaaGreatRowsG
namespace Go.Proofs.YtgbheogmccfaaaaGreat
set_option linter.unusedVariables false
set_option linter.unusedSimpArgs false
open Go.RowKit

/-- is i ahead of j: a greater rest, or the same and a lower place -/
def bef (r : List Nat) (i j : Nat) : Bool := decide (r.getD j 0 < r.getD i 0) || (decide (r.getD i 0 = r.getD j 0) && decide (i < j))
theorem bef_irr (r : List Nat) (i : Nat) : bef r i i = false := by simp [bef]
theorem bef_asym {r : List Nat} {i j : Nat} (h : bef r i j = true) : bef r j i = false := by
  simp only [bef, Bool.or_eq_true, Bool.and_eq_true, decide_eq_true_eq] at h
  simp only [bef, Bool.or_eq_false_iff, Bool.and_eq_false_iff, decide_eq_false_iff_not]
  omega
theorem bef_tot {r : List Nat} {i j : Nat} (hne : i ≠ j) : bef r i j = true ∨ bef r j i = true := by
  simp only [bef, Bool.or_eq_true, Bool.and_eq_true, decide_eq_true_eq]
  omega
theorem bef_trans {r : List Nat} {i j k : Nat} (h1 : bef r i j = true) (h2 : bef r j k = true) : bef r i k = true := by
  simp only [bef, Bool.or_eq_true, Bool.and_eq_true, decide_eq_true_eq] at *
  omega
/-- how many are ahead of one -/
def rk (r : List Nat) (i : Nat) : Nat := (List.range r.length).countP fun j => bef r j i

/-- a row in that order -/
structure InOrder (r : List Nat) (P : List Nat) : Prop where
  perm : P.Perm (List.range r.length)
  sorted : P.Pairwise (fun a b => bef r a b = true)
theorem countP_sorted {r : List Nat} : ∀ (P : List Nat), P.Pairwise (fun a b => bef r a b = true) → ∀ (k : Nat) (x : Nat), P[k]? = some x → P.countP (fun j => bef r j x) = k
  | [], _, k, x, h => by simp at h
  | y :: Q, hs, k, x, h => by
    obtain ⟨h1, h2⟩ := List.pairwise_cons.1 hs
    cases k with
    | zero =>
      simp at h; subst h
      rw [List.countP_cons, bef_irr]
      have : Q.countP (fun j => bef r j y) = 0 := by
        rw [List.countP_eq_zero]
        intro z hz
        have := bef_asym (h1 z hz)
        simp [this]
      simp [this]
    | succ k =>
      have hq : Q[k]? = some x := by simpa using h
      rw [List.countP_cons, countP_sorted Q h2 k x hq, h1 x (List.mem_of_getElem? hq)]
      simp
theorem InOrder.rk {r P : List Nat} (h : InOrder r P) {k x : Nat} (hx : P[k]? = some x) : rk r x = k := by
  unfold Go.Proofs.YtgbheogmccfaaaaGreat.rk
  rw [← h.perm.countP_eq]
  exact countP_sorted P h.sorted k x hx
theorem InOrder.length {r P : List Nat} (h : InOrder r P) : P.length = r.length := by rw [h.perm.length_eq, List.length_range]
theorem InOrder.lt {r P : List Nat} (h : InOrder r P) {x : Nat} (hx : x ∈ P) : x < r.length := List.mem_range.1 (h.perm.mem_iff.1 hx)
/-- those ahead of place m are the first m -/
theorem InOrder.take {r P : List Nat} (h : InOrder r P) (m : Nat) {i : Nat} (hi : i < r.length) : i ∈ P.take m ↔ Go.Proofs.YtgbheogmccfaaaaGreat.rk r i < m := by
  have hm : i ∈ P := h.perm.mem_iff.2 (List.mem_range.2 hi)
  obtain ⟨k, hk⟩ := List.getElem?_of_mem hm
  have hr := h.rk hk
  have hkl : k < P.length := (List.getElem?_eq_some_iff.1 hk).1
  constructor
  · intro ht
    obtain ⟨j, hj⟩ := List.getElem?_of_mem ht
    rw [List.getElem?_take] at hj
    split at hj
    · rename_i hjm
      have := h.rk hj
      omega
    · cases hj
  · intro hlt
    refine List.mem_of_getElem? (i := k) ?_
    rw [List.getElem?_take, if_pos (by omega)]
    exact hk
theorem InOrder.exists (r : List Nat) : ∃ P, InOrder r P := by
  let le : Nat → Nat → Bool := fun a b => bef r a b || decide (a = b)
  have tr : ∀ a b c : Nat, le a b = true → le b c = true → le a c = true := by
    intro a b c h1 h2
    simp only [le, Bool.or_eq_true, decide_eq_true_eq] at *
    rcases h1 with h1 | rfl
    · rcases h2 with h2 | rfl
      · exact .inl (bef_trans h1 h2)
      · exact .inl h1
    · exact h2
  have to : ∀ a b : Nat, (le a b || le b a) = true := by
    intro a b
    simp only [le, Bool.or_eq_true, decide_eq_true_eq]
    by_cases e : a = b
    · exact .inl (.inr e)
    · rcases bef_tot (r := r) e with h | h
      · exact .inl (.inl h)
      · exact .inr (.inl h)
  have hp := List.mergeSort_perm (List.range r.length) le
  have hnd : ((List.range r.length).mergeSort le).Nodup := hp.nodup_iff.2 List.nodup_range
  refine ⟨(List.range r.length).mergeSort le, hp, ?_⟩
  have hs := List.pairwise_mergeSort tr to (List.range r.length)
  refine (List.Pairwise.and hs hnd).imp ?_
  rintro a b ⟨h1, h2⟩
  simp only [le, Bool.or_eq_true, decide_eq_true_eq] at h1
  rcases h1 with h1 | h1
  · exact h1
  · exact absurd h1 h2
/-- just m are ahead of place m -/
theorem rk_count (r : List Nat) (m : Nat) (hm : m ≤ r.length) : ((List.range r.length).map fun i => if rk r i < m then 1 else 0).sum = m := by
  obtain ⟨P, hP⟩ := InOrder.exists r
  have h1 : ((List.range r.length).map fun i => if rk r i < m then 1 else 0).Perm (P.map fun i => if rk r i < m then 1 else 0) := (hP.perm.map _).symm
  rw [h1.sum_nat]
  have h2 : (P.map fun i => if rk r i < m then 1 else 0) = (List.range P.length).map fun k => if k < m then 1 else 0 := by
    apply List.ext_getElem?
    intro k
    rw [List.getElem?_map, List.getElem?_map]
    by_cases hk : k < P.length
    · have hx : P[k]? = some P[k] := List.getElem?_eq_getElem hk
      rw [hx, List.getElem?_range hk]
      simp [hP.rk hx]
    · rw [List.getElem?_eq_none (by omega), List.getElem?_eq_none (by simp; omega)]; rfl
  rw [h2, hP.length]
  have h3 : ∀ n m : Nat, m ≤ n → ((List.range n).map fun k => if k < m then 1 else 0).sum = m := by
    intro n
    induction n with
    | zero => intro m hm; have : m = 0 := by omega
              subst this; rfl
    | succ n ih =>
      intro m hm
      rw [List.range_succ, List.map_append, List.sum_append]
      by_cases h : m = n + 1
      · subst h
        have : ((List.range n).map fun k => if k < n + 1 then 1 else 0) = (List.range n).map fun k => if k < n then 1 else 0 := by
          refine List.map_congr_left fun k hk => ?_
          have := List.mem_range.1 hk
          simp [this]; omega
        rw [this, ih n (Nat.le_refl _)]; simp
      · rw [ih m (by omega)]; simp; omega
  exact h3 _ _ hm

/-- what is shared out by weights -/
def restsL (t : Nat) (ws : List Nat) : List Nat := ws.map fun w => t * w % ws.sum
def quosL (t : Nat) (ws : List Nat) : List Nat := ws.map fun w => t * w / ws.sum
def leftN (t : Nat) (ws : List Nat) : Nat := t - (quosL t ws).sum
def plusL (t : Nat) (ws : List Nat) (i : Nat) : Nat := if rk (restsL t ws) i < leftN t ws then 1 else 0
def splitN (t : Nat) (ws : List Nat) : List Nat := (List.range ws.length).map fun i => (quosL t ws).getD i 0 + plusL t ws i
theorem splitN_length (t : Nat) (ws : List Nat) : (splitN t ws).length = ws.length := by simp [splitN]
theorem split_sums (t S : Nat) (hS : 0 < S) : ∀ ws : List Nat, (ws.map fun w => t * w / S).sum * S + (ws.map fun w => t * w % S).sum = t * ws.sum
  | [] => by simp
  | w :: r => by
    have ih := split_sums t S hS r
    simp only [List.map_cons, List.sum_cons]
    have h := Nat.div_add_mod' (t * w) S
    rw [Nat.add_mul, Nat.mul_add]
    omega
theorem left_mul (t : Nat) (ws : List Nat) (hS : 0 < ws.sum) : leftN t ws * ws.sum = (restsL t ws).sum ∧ (quosL t ws).sum ≤ t := by
  have h := split_sums t ws.sum hS ws
  unfold leftN restsL quosL
  have hle : (ws.map fun w => t * w / ws.sum).sum ≤ t := by
    refine Nat.le_of_mul_le_mul_right (c := ws.sum) ?_ hS
    omega
  refine ⟨?_, hle⟩
  rw [Nat.sub_mul]
  omega
theorem sum_lt_mul (S : Nat) : ∀ l : List Nat, (∀ x ∈ l, x < S) → l.sum ≤ (l.countP fun x => decide (0 < x)) * (S - 1)
  | [], _ => by simp
  | x :: r, h => by
    have ih := sum_lt_mul S r (fun y hy => h y (List.mem_cons_of_mem _ hy))
    have hx := h x (List.mem_cons_self)
    rw [List.sum_cons, List.countP_cons]
    split
    · rw [Nat.add_mul]; omega
    · rename_i h0; simp at h0; rw [Nat.add_zero]; omega
theorem left_le (t : Nat) (ws : List Nat) (hS : 0 < ws.sum) : leftN t ws ≤ (restsL t ws).countP fun x => decide (0 < x) := by
  have h1 := (left_mul t ws hS).1
  have h2 := sum_lt_mul ws.sum (restsL t ws) (fun x hx => by
    unfold restsL at hx
    obtain ⟨w, _, rfl⟩ := List.mem_map.1 hx
    exact Nat.mod_lt _ hS)
  rw [← h1] at h2
  refine Nat.le_of_mul_le_mul_right (c := ws.sum) (Nat.le_trans h2 ?_) hS
  exact Nat.mul_le_mul_left _ (by omega)
theorem left_le_length (t : Nat) (ws : List Nat) (hS : 0 < ws.sum) : leftN t ws ≤ ws.length := by
  have := left_le t ws hS
  have h2 := List.countP_le_length (p := fun x => decide (0 < x)) (l := restsL t ws)
  have h3 : (restsL t ws).length = ws.length := by simp [restsL]
  omega
theorem sum_map_add (f g : Nat → Nat) : ∀ l : List Nat, (l.map fun i => f i + g i).sum = (l.map f).sum + (l.map g).sum
  | [] => rfl
  | x :: r => by simp only [List.map_cons, List.sum_cons]; rw [sum_map_add f g r]; omega
theorem map_getD_range (l : List Nat) : (List.range l.length).map (fun i => l.getD i 0) = l := by
  apply List.ext_getElem?
  intro i
  rw [List.getElem?_map]
  by_cases h : i < l.length
  · rw [List.getElem?_range h, List.getElem?_eq_getElem h]; simp [List.getD, h]
  · rw [List.getElem?_eq_none (by simp; omega), List.getElem?_eq_none (by omega)]; rfl
/-- nothing is lost -/
theorem splitN_sum (t : Nat) (ws : List Nat) (hS : 0 < ws.sum) : (splitN t ws).sum = t := by
  unfold splitN
  rw [sum_map_add]
  have hl : (quosL t ws).length = ws.length := by simp [quosL]
  have hr : (restsL t ws).length = ws.length := by simp [restsL]
  have h1 := map_getD_range (quosL t ws)
  rw [hl] at h1
  have h2 := rk_count (restsL t ws) (leftN t ws) (by rw [hr]; exact left_le_length t ws hS)
  rw [hr] at h2
  have h3 : ((List.range ws.length).map (plusL t ws)) = (List.range ws.length).map fun i => if rk (restsL t ws) i < leftN t ws then 1 else 0 := rfl
  rw [h1, h3, h2]
  have := (left_mul t ws hS).2
  unfold leftN
  omega
/-- one of the rest 0 gets nothing more -/
theorem plus_zero (t : Nat) (ws : List Nat) (hS : 0 < ws.sum) (i : Nat) (h0 : (restsL t ws).getD i 0 = 0) : plusL t ws i = 0 := by
  unfold plusL
  rw [if_neg]
  have h1 := left_le t ws hS
  have h2 : ((restsL t ws).countP fun x => decide (0 < x)) ≤ rk (restsL t ws) i := by
    have h3 : (restsL t ws).countP (fun x => decide (0 < x)) = (List.range (restsL t ws).length).countP (fun j => decide (0 < (restsL t ws).getD j 0)) := by
      conv => lhs; rw [← map_getD_range (restsL t ws)]
      rw [List.countP_map]; rfl
    rw [h3]
    unfold rk
    refine List.countP_mono_left fun j _ hj => ?_
    simp only [bef, Bool.or_eq_true, decide_eq_true_eq] at hj ⊢
    exact .inl (by rw [h0]; exact hj)
  omega
theorem rests_at (t : Nat) (ws : List Nat) (i w : Nat) (hw : ws[i]? = some w) : (restsL t ws).getD i 0 = t * w % ws.sum ∧ (quosL t ws).getD i 0 = t * w / ws.sum := by
  unfold restsL quosL
  simp [List.getD, List.getElem?_map, hw]
theorem splitN_at (t : Nat) (ws : List Nat) (i w : Nat) (hw : ws[i]? = some w) : (splitN t ws)[i]? = some (t * w / ws.sum + plusL t ws i) := by
  unfold splitN
  have hi : i < ws.length := (List.getElem?_eq_some_iff.1 hw).1
  rw [List.getElem?_map, List.getElem?_range hi]
  have := (rests_at t ws i w hw).2
  simp only [Option.map_some]
  rw [this]
/-- nobody gets more than their weight, if there is no more than all weigh -/
theorem splitN_le (t : Nat) (ws : List Nat) (hS : 0 < ws.sum) (ht : t ≤ ws.sum) (i w p : Nat) (hw : ws[i]? = some w) (hp : (splitN t ws)[i]? = some p) : p ≤ w := by
  rw [splitN_at t ws i w hw] at hp
  cases hp
  have h1 : t * w ≤ ws.sum * w := Nat.mul_le_mul_right _ ht
  have hdm := Nat.div_add_mod (t * w) ws.sum
  by_cases h0 : t * w % ws.sum = 0
  · rw [plus_zero t ws hS i (by rw [(rests_at t ws i w hw).1]; exact h0)]
    rw [Nat.add_zero]
    have h2 : ws.sum * (t * w / ws.sum) ≤ ws.sum * w := by omega
    exact Nat.le_of_mul_le_mul_left h2 hS
  · have h2 : plusL t ws i ≤ 1 := by unfold plusL; split <;> omega
    have h3 : t * w / ws.sum < w := by
      refine Nat.lt_of_mul_lt_mul_left (a := ws.sum) ?_
      omega
    omega
/-- who weighs the same gets the same, or one unit more -/
theorem splitN_near (t : Nat) (ws : List Nat) (i j w p q : Nat) (hi : ws[i]? = some w) (hj : ws[j]? = some w) (hp : (splitN t ws)[i]? = some p) (hq : (splitN t ws)[j]? = some q) : p ≤ q + 1 := by
  rw [splitN_at t ws i w hi] at hp
  rw [splitN_at t ws j w hj] at hq
  cases hp; cases hq
  have : plusL t ws i ≤ 1 := by unfold plusL; split <;> omega
  omega
end Go.Proofs.YtgbheogmccfaaaaGreat
