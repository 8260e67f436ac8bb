/- The reference parts a pot as the program does, plainly. -/
import Derived.Test.YtgbheogmccfaaaaGreatMonP
namespace Go.Proofs.YtgbheogmccfaaaaGreat
set_option linter.unusedVariables false
set_option linter.unusedSimpArgs false
open Go.RowKit

/-- weights of all: nothing of another right -/
def wFull (r : Int) (l : List Cl) : List Nat := l.map fun c => if c.right = r then c.amount.toNat else 0
theorem wFull_sum (r : Int) : ∀ l : List Cl, (wFull r l).sum = (amountsOf r l).sum
  | [] => rfl
  | c :: t => by
    have ih := wFull_sum r t
    unfold wFull amountsOf at ih ⊢
    rw [List.map_cons, List.sum_cons, ih, List.filter_cons]
    by_cases h : c.right = r <;> simp [h]
theorem sum_full (f : Nat → Nat) (h0 : f 0 = 0) (r : Int) : ∀ l : List Cl, ((wFull r l).map f).sum = ((amountsOf r l).map f).sum
  | [] => rfl
  | c :: t => by
    have ih := sum_full f h0 r t
    unfold wFull amountsOf at ih ⊢
    rw [List.map_cons, List.map_cons, List.sum_cons, ih, List.filter_cons]
    by_cases h : c.right = r <;> simp [h, h0]
theorem left_full (t : Nat) (r : Int) (l : List Cl) : leftN t (wFull r l) = leftN t (amountsOf r l) := by
  unfold leftN quosL
  rw [wFull_sum, sum_full (fun w => t * w / (amountsOf r l).sum) (by simp) r l]
/-- counted among those of a right alone -/
theorem count_places (r : Int) (p : Nat → Bool) : ∀ (l : List Cl) (k : Nat), (∀ i c, l[i]? = some c → c.right ≠ r → p (k + i) = false) → (List.range' k l.length).countP p = (placesFrom r k l).countP p
  | [], k, _ => rfl
  | c :: t, k, h => by
    have ih := count_places r p t (k + 1) (fun i d hd hr => by
      have := h (i + 1) d (by simpa using hd) hr
      have e : k + 1 + i = k + (i + 1) := by omega
      rw [e]; exact this)
    rw [List.length_cons, List.range'_succ, List.countP_cons, ih, placesFrom]
    by_cases hr : c.right = r
    · simp [hr, List.countP_cons]
    · have := h 0 c (by simp) hr
      simp [hr]
      simpa using this
theorem places_inc (r : Int) : ∀ (l : List Cl) (k : Nat), (placesFrom r k l).Pairwise (· < ·)
  | [], k => by simp [placesFrom]
  | x :: t, k => by
    rw [placesFrom]
    split
    · refine List.pairwise_cons.2 ⟨fun j hj => ?_, places_inc r t (k + 1)⟩
      have := (places_ge r t (k + 1) j hj).1
      omega
    · exact places_inc r t (k + 1)
theorem inc_iff {P : List Nat} (h : P.Pairwise (· < ·)) {a b x y : Nat} (hx : P[a]? = some x) (hy : P[b]? = some y) : a < b ↔ x < y := by
  obtain ⟨ha, rfl⟩ := List.getElem?_eq_some_iff.1 hx
  obtain ⟨hb, rfl⟩ := List.getElem?_eq_some_iff.1 hy
  have hp := List.pairwise_iff_getElem.1 h
  constructor
  · intro hab; exact hp a b ha hb hab
  · intro hxy
    rcases Nat.lt_trichotomy a b with h1 | h1 | h1
    · exact h1
    · subst h1; omega
    · have := hp b a hb ha h1; omega
theorem rest_full (t : Nat) (r : Int) (l : List Cl) (i : Nat) (c : Cl) (hc : l[i]? = some c) : (restsL t (wFull r l)).getD i 0 = if c.right = r then t * c.amount.toNat % (amountsOf r l).sum else 0 := by
  have hw : (wFull r l)[i]? = some (if c.right = r then c.amount.toNat else 0) := by unfold wFull; rw [List.getElem?_map, hc]; rfl
  rw [(rests_at t _ i _ hw).1, wFull_sum]
  split <;> simp
/-- those of other rights among them turn nothing -/
theorem rk_full (t : Nat) (r : Int) (l : List Cl) (i : Nat) (c : Cl) (hc : l[i]? = some c) (hr : c.right = r) (h0 : 0 < t * c.amount.toNat % (amountsOf r l).sum) :
    rk (restsL t (wFull r l)) i = rk (restsL t (amountsOf r l)) (amountsOf r (l.take i)).length := by
  obtain ⟨p1, p2⟩ := places_at r l 0 i c hc hr
  rw [Nat.zero_add] at p1
  have hri := rest_full t r l i c hc
  rw [if_pos hr] at hri
  have hlen : (restsL t (wFull r l)).length = l.length := by simp [restsL, wFull]
  have hlen2 : (restsL t (amountsOf r l)).length = (placesFrom r 0 l).length := by rw [places_length]; simp [restsL]
  unfold rk
  rw [hlen, hlen2, List.range_eq_range']
  rw [count_places r (fun j => bef (restsL t (wFull r l)) j i) l 0 (fun j d hd hne => ?_)]
  · have hcomp : ∀ (k : Nat), k < (placesFrom r 0 l).length → bef (restsL t (amountsOf r l)) k (amountsOf r (l.take i)).length = bef (restsL t (wFull r l)) ((placesFrom r 0 l).getD k 0) i := by
      intro k hk
      obtain ⟨x, hx⟩ : ∃ x, (placesFrom r 0 l)[k]? = some x := ⟨_, List.getElem?_eq_getElem hk⟩
      obtain ⟨d, hd, hdr⟩ := places_inv r l 0 x (by omega) (List.mem_of_getElem? hx)
      rw [Nat.sub_zero] at hd
      obtain ⟨q1, q2⟩ := places_at r l 0 x d hd hdr
      rw [Nat.zero_add] at q1
      have hk2 : (amountsOf r (l.take x)).length = k := by
        rcases Nat.lt_trichotomy (amountsOf r (l.take x)).length k with h | h | h
        · have := (inc_iff (places_inc r l 0) q1 hx).1 h; omega
        · exact h
        · have := (inc_iff (places_inc r l 0) hx q1).1 h; omega
      rw [hk2] at q2
      have e1 := (rests_at t (amountsOf r l) k _ q2).1
      have e2 := (rests_at t (amountsOf r l) _ _ p2).1
      have e3 := rest_full t r l x d hd
      rw [if_pos hdr] at e3
      have e4 := inc_iff (places_inc r l 0) hx p1
      have e5 : (placesFrom r 0 l).getD k 0 = x := by simp [List.getD, hx]
      unfold bef
      rw [e5, e1, e2, e3, hri]
      congr 2
      exact decide_eq_decide.2 e4
    have hmap : placesFrom r 0 l = (List.range (placesFrom r 0 l).length).map fun k => (placesFrom r 0 l).getD k 0 := (map_getD_range _).symm
    conv => lhs; rw [hmap]
    rw [List.countP_map]
    apply Eq.symm
    refine List.countP_congr fun k hk => ?_
    have := hcomp k (List.mem_range.1 hk)
    simp only [Function.comp]
    rw [this]
  · have e := rest_full t r l j d hd
    rw [if_neg hne] at e
    rw [Nat.zero_add]
    simp only [bef, Bool.or_eq_false_iff, Bool.and_eq_false_iff, decide_eq_false_iff_not]
    rw [e, hri]
    omega
theorem plus_full (t : Nat) (r : Int) (l : List Cl) (i : Nat) (c : Cl) (hc : l[i]? = some c) (hr : c.right = r) (hS : 0 < (amountsOf r l).sum) : plusL t (wFull r l) i = plusL t (amountsOf r l) (amountsOf r (l.take i)).length := by
  obtain ⟨p1, p2⟩ := places_at r l 0 i c hc hr
  have hri := rest_full t r l i c hc
  rw [if_pos hr] at hri
  by_cases h0 : t * c.amount.toNat % (amountsOf r l).sum = 0
  · rw [plus_zero t (wFull r l) (by rw [wFull_sum]; exact hS) i (by rw [hri, h0]), plus_zero t (amountsOf r l) hS _ (by rw [(rests_at t _ _ _ p2).1]; exact h0)]
  · unfold plusL
    rw [rk_full t r l i c hc hr (by omega), left_full]
/-- the reference's part of one is the program's -/
theorem split_full (t : Nat) (r : Int) (l : List Cl) (hS : 0 < (amountsOf r l).sum) (i : Nat) (c : Cl) (hc : l[i]? = some c) :
    (splitN t (wFull r l))[i]? = some (if c.right = r then (splitN t (amountsOf r l)).getD (amountsOf r (l.take i)).length 0 else 0) := by
  have hw : (wFull r l)[i]? = some (if c.right = r then c.amount.toNat else 0) := by unfold wFull; rw [List.getElem?_map, hc]; rfl
  rw [splitN_at t _ i _ hw, wFull_sum]
  by_cases hr : c.right = r
  · rw [if_pos hr, if_pos hr, plus_full t r l i c hc hr hS]
    obtain ⟨p1, p2⟩ := places_at r l 0 i c hc hr
    have := splitN_at t _ _ _ p2
    simp [List.getD, this]
  · rw [if_neg hr, if_neg hr, plus_zero t (wFull r l) (by rw [wFull_sum]; exact hS) i (by rw [rest_full t r l i c hc, if_neg hr])]
    simp
/-- the reference's rounds -/
def partsF (pot : Nat) (w : List Nat) : List Nat := if w.sum ≤ pot then w else splitN pot w
def stepF (l : List Cl) (s : List Nat × Nat) (r : Nat) : List Nat × Nat := (List.zipWith (· + ·) s.1 (partsF s.2 (wFull r l)), s.2 - min (wFull r l).sum s.2)
def roundsF (pot : Nat) (l : List Cl) : Nat → List Nat × Nat
  | 0 => (List.replicate l.length 0, pot)
  | r + 1 => stepF l (roundsF pot l r) r
theorem partsF_at (pot : Nat) (r : Int) (l : List Cl) (i : Nat) (c : Cl) (hc : l[i]? = some c) :
    (partsF pot (wFull r l))[i]? = some (if c.right = r then (partsR pot (amountsOf r l)).getD (amountsOf r (l.take i)).length 0 else 0) := by
  unfold partsF partsR
  rw [wFull_sum]
  by_cases h : (amountsOf r l).sum ≤ pot
  · have h2 : ¬ pot < (amountsOf r l).sum := by omega
    simp only [if_pos h, if_neg h2]
    unfold wFull
    rw [List.getElem?_map, hc]
    by_cases hr : c.right = r
    · obtain ⟨p1, p2⟩ := places_at r l 0 i c hc hr
      simp only [hr, if_true, Option.map_some, List.getD, p2, Option.getD_some]
    · simp [hr]
  · have h2 : pot < (amountsOf r l).sum := by omega
    simp only [if_neg h, if_pos h2]
    exact split_full pot r l (by omega) i c hc
theorem partsF_length (pot : Nat) (w : List Nat) : (partsF pot w).length = w.length := by unfold partsF; split <;> simp [splitN_length]
theorem roundsF_eq (pot : Nat) (l : List Cl) (h0 : ∀ c ∈ l, 0 ≤ c.right) : ∀ r, roundsF pot l r = roundsM pot l r
  | 0 => rfl
  | r + 1 => by
    have ih := roundsF_eq pot l h0 r
    rw [roundsF, roundsM, ih, stepF, stepM, wFull_sum]
    congr 1
    apply List.ext_getElem?
    intro i
    rw [List.getElem?_zipWith]
    by_cases hi : i < l.length
    · obtain ⟨c, hc⟩ : ∃ c, l[i]? = some c := ⟨_, List.getElem?_eq_getElem hi⟩
      obtain ⟨q, hq⟩ : ∃ q : Nat, c.right = q := ⟨c.right.toNat, by have := h0 c (List.mem_of_getElem? hc); omega⟩
      have h1 := rounds_at pot l i c hc q hq r
      have h2 := rounds_at pot l i c hc q hq (r + 1)
      rw [roundsM, stepM] at h2
      simp only at h2
      rw [h1, partsF_at _ r l i c hc, h2]
      by_cases e : q = r
      · subst e
        simp [hq, gets, potM]
      · have e2 : ¬ c.right = (r : Int) := by omega
        by_cases h3 : q < r
        · simp [e2, h3, show q < r + 1 by omega]
        · simp [e2, h3, show ¬ q < r + 1 by omega]
    · rw [List.getElem?_eq_none (by rw [rounds_length]; omega), List.getElem?_eq_none (l := setAll _ _ _) (by rw [setAll_length, rounds_length]; omega)]
end Go.Proofs.YtgbheogmccfaaaaGreat
