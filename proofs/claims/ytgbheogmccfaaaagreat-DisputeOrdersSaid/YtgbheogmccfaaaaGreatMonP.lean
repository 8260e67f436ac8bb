/- What claimants get of a pot, plainly. -/
import Derived.Test.YtgbheogmccfaaaaGreatDisP
import Derived.Test.YtgbheogmccfaaaaGreatSplP
namespace Go.Proofs.YtgbheogmccfaaaaGreat
set_option linter.unusedVariables false
set_option linter.unusedSimpArgs false
open Go.RowKit

/-- the places of those of a right -/
def placesFrom (r : Int) : Nat → List Cl → List Nat
  | _, [] => []
  | k, c :: t => if c.right = r then k :: placesFrom r (k + 1) t else placesFrom r (k + 1) t
def amountsOf (r : Int) (l : List Cl) : List Nat := (l.filter fun c => decide (c.right = r)).map fun c => c.amount.toNat
theorem placesFrom_snoc (r : Int) (c : Cl) : ∀ (l : List Cl) (k : Nat), placesFrom r k (l ++ [c]) = placesFrom r k l ++ if c.right = r then [k + l.length] else []
  | [], k => by simp [placesFrom]
  | x :: t, k => by
    rw [List.cons_append, placesFrom, placesFrom, placesFrom_snoc r c t (k + 1)]
    have : k + 1 + t.length = k + (t.length + 1) := by omega
    split <;> simp [this]
theorem amountsOf_snoc (r : Int) (c : Cl) (l : List Cl) : amountsOf r (l ++ [c]) = amountsOf r l ++ if c.right = r then [c.amount.toNat] else [] := by
  unfold amountsOf
  rw [List.filter_append, List.map_append, List.filter_cons]
  by_cases h : c.right = r <;> simp [h]
theorem places_length (r : Int) : ∀ (l : List Cl) (k : Nat), (placesFrom r k l).length = (amountsOf r l).length
  | [], k => rfl
  | x :: t, k => by
    have := places_length r t (k + 1)
    unfold amountsOf at this ⊢
    rw [placesFrom, List.filter_cons]
    by_cases h : x.right = r <;> simp [h] <;> simpa using this
theorem places_ge (r : Int) : ∀ (l : List Cl) (k : Nat) (i : Nat), i ∈ placesFrom r k l → k ≤ i ∧ i < k + l.length
  | [], k, i, h => by simp [placesFrom] at h
  | x :: t, k, i, h => by
    rw [placesFrom] at h
    have ih := places_ge r t (k + 1) i
    split at h
    · rcases List.mem_cons.1 h with rfl | h
      · simp
      · have := ih h; simp; omega
    · have := ih h; simp; omega
theorem places_nodup (r : Int) : ∀ (l : List Cl) (k : Nat), (placesFrom r k l).Nodup
  | [], k => by simp [placesFrom]
  | x :: t, k => by
    rw [placesFrom]
    split
    · refine List.nodup_cons.2 ⟨fun h => ?_, places_nodup r t (k + 1)⟩
      have := (places_ge r t (k + 1) k h).1
      omega
    · exact places_nodup r t (k + 1)
/-- one of that right stands in its place -/
theorem places_at (r : Int) : ∀ (l : List Cl) (k i : Nat) (c : Cl), l[i]? = some c → c.right = r → (placesFrom r k l)[(amountsOf r (l.take i)).length]? = some (k + i) ∧ (amountsOf r l)[(amountsOf r (l.take i)).length]? = some c.amount.toNat
  | [], k, i, c, h, _ => by simp at h
  | x :: t, k, i, c, h, hr => by
    cases i with
    | zero =>
      simp at h; subst h
      rw [placesFrom, if_pos hr]
      unfold amountsOf
      simp [hr]
    | succ i =>
      have ih := places_at r t (k + 1) i c (by simpa using h) hr
      have e : k + 1 + i = k + (i + 1) := by omega
      rw [e] at ih
      rw [placesFrom, List.take_succ_cons]
      unfold amountsOf at ih ⊢
      rw [List.filter_cons, List.filter_cons]
      by_cases hx : x.right = r
      · simp only [hx, if_true, decide_true, List.map_cons, List.length_cons, List.getElem?_cons_succ]
        exact ih
      · simp only [hx, if_false, decide_false, Bool.false_eq_true]
        exact ih
/-- and what stands there is of that right -/
theorem places_inv (r : Int) : ∀ (l : List Cl) (k i : Nat), k ≤ i → i ∈ placesFrom r k l → ∃ c, l[i - k]? = some c ∧ c.right = r
  | [], k, i, _, h => by simp [placesFrom] at h
  | x :: t, k, i, hk, h => by
    rw [placesFrom] at h
    have step : i ∈ placesFrom r (k + 1) t → ∃ c, (x :: t)[i - k]? = some c ∧ c.right = r := by
      intro h
      have hge := (places_ge r t (k + 1) i h).1
      obtain ⟨c, hc, hr⟩ := places_inv r t (k + 1) i hge h
      refine ⟨c, ?_, hr⟩
      have : i - k = (i - (k + 1)) + 1 := by omega
      rw [this]; simpa using hc
    split at h
    · rename_i hx
      rcases List.mem_cons.1 h with rfl | h
      · exact ⟨x, by simp, hx⟩
      · exact step h
    · exact step h

def setAll : List Nat → List Nat → List Nat → List Nat
  | out, i :: is, p :: ps => setAll (out.set i p) is ps
  | out, _, _ => out
theorem setAll_length : ∀ (is ps out : List Nat), (setAll out is ps).length = out.length
  | [], ps, out => by cases ps <;> rfl
  | i :: is, [], out => rfl
  | i :: is, p :: ps, out => by rw [setAll, setAll_length is ps]; simp
theorem setAll_far : ∀ (is ps out : List Nat) (j : Nat), j ∉ is → (setAll out is ps)[j]? = out[j]?
  | [], ps, out, j, _ => by cases ps <;> rfl
  | i :: is, [], out, j, _ => rfl
  | i :: is, p :: ps, out, j, h => by
    rw [setAll, setAll_far is ps _ j (fun hj => h (List.mem_cons_of_mem _ hj)), List.getElem?_set]
    have : i ≠ j := fun e => h (e ▸ List.mem_cons_self)
    simp [this]
theorem setAll_at : ∀ (is ps out : List Nat), is.Nodup → ∀ (k i p : Nat), is[k]? = some i → ps[k]? = some p → i < out.length → (setAll out is ps)[i]? = some p
  | [], ps, out, _, k, i, p, h, _, _ => by simp at h
  | i0 :: is, [], out, _, k, i, p, _, h, _ => by simp at h
  | i0 :: is, p0 :: ps, out, hn, k, i, p, h1, h2, hl => by
    obtain ⟨n1, n2⟩ := List.nodup_cons.1 hn
    rw [setAll]
    cases k with
    | zero =>
      simp at h1 h2; subst h1 h2
      rw [setAll_far is ps _ i0 n1, List.getElem?_set]
      simp [hl]
    | succ k => exact setAll_at is ps _ n2 k i p (by simpa using h1) (by simpa using h2) (by simpa using hl)
theorem set_sum : ∀ (l : List Nat) (i p : Nat), l[i]? = some 0 → (l.set i p).sum = l.sum + p
  | [], i, p, h => by simp at h
  | x :: t, i, p, h => by
    cases i with
    | zero => simp at h; subst h; simp; omega
    | succ i => simp only [List.set_cons_succ, List.sum_cons]; rw [set_sum t i p (by simpa using h)]; omega
theorem setAll_sum : ∀ (is ps out : List Nat), is.Nodup → is.length = ps.length → (∀ i ∈ is, out[i]? = some 0) → (setAll out is ps).sum = out.sum + ps.sum
  | [], ps, out, _, hl, _ => by have : ps = [] := List.eq_nil_of_length_eq_zero hl.symm
                                subst this; simp [setAll]
  | i :: is, [], out, _, hl, _ => by simp at hl
  | i :: is, p :: ps, out, hn, hl, h0 => by
    obtain ⟨n1, n2⟩ := List.nodup_cons.1 hn
    rw [setAll, setAll_sum is ps _ n2 (by simpa using hl), set_sum out i p (h0 i List.mem_cons_self)]
    · simp; omega
    · intro j hj
      rw [List.getElem?_set]
      have : i ≠ j := fun e => n1 (e ▸ hj)
      simp [this]
      exact h0 j (List.mem_cons_of_mem _ hj)

/-- what those of one right get -/
def partsR (pot : Nat) (am : List Nat) : List Nat := if pot < am.sum then splitN pot am else am
def stepM (l : List Cl) (s : List Nat × Nat) (r : Nat) : List Nat × Nat := (setAll s.1 (placesFrom r 0 l) (partsR s.2 (amountsOf r l)), s.2 - min (amountsOf r l).sum s.2)
/-- behind r rights -/
def roundsM (pot : Nat) (l : List Cl) : Nat → List Nat × Nat
  | 0 => (List.replicate l.length 0, pot)
  | r + 1 => stepM l (roundsM pot l r) r
theorem partsR_length (pot : Nat) (am : List Nat) : (partsR pot am).length = am.length := by unfold partsR; split <;> simp [splitN_length]
theorem partsR_sum (pot : Nat) (am : List Nat) : (partsR pot am).sum = min am.sum pot := by
  unfold partsR
  split
  · rename_i h; rw [splitN_sum pot am (by omega)]; omega
  · omega
theorem partsR_le {pot : Nat} {am : List Nat} {k a p : Nat} (ha : am[k]? = some a) (hp : (partsR pot am)[k]? = some p) : p ≤ a := by
  unfold partsR at hp
  split at hp
  · rename_i h; exact splitN_le pot am (by omega) (by omega) k a p ha hp
  · rw [ha] at hp; cases hp; exact Nat.le_refl _
theorem partsR_all {pot : Nat} {am : List Nat} (h : am.sum < pot) : partsR pot am = am := by unfold partsR; rw [if_neg (by omega)]
theorem mem_le_sum : ∀ (l : List Nat) (x : Nat), x ∈ l → x ≤ l.sum
  | [], x, h => by simp at h
  | y :: t, x, h => by
    rw [List.sum_cons]
    rcases List.mem_cons.1 h with rfl | h
    · omega
    · have := mem_le_sum t x h; omega
theorem partsR_zero {am : List Nat} {k p : Nat} (hp : (partsR 0 am)[k]? = some p) : p = 0 := by
  have h1 := partsR_sum 0 am
  have h2 := mem_le_sum _ p (List.mem_of_getElem? hp)
  omega
theorem partsR_near {pot : Nat} {am : List Nat} {i j a p q : Nat} (hi : am[i]? = some a) (hj : am[j]? = some a) (hp : (partsR pot am)[i]? = some p) (hq : (partsR pot am)[j]? = some q) : p ≤ q + 1 := by
  unfold partsR at hp hq
  split at hp
  · rename_i h
    rw [if_pos h] at hq
    exact splitN_near pot am i j a p q hi hj hp hq
  · rename_i h
    rw [if_neg h] at hq
    rw [hi] at hp; rw [hj] at hq; cases hp; cases hq; omega

/-- the pot ahead of a right -/
abbrev potM (pot : Nat) (l : List Cl) (r : Nat) : Nat := (roundsM pot l r).2
/-- what one gets -/
def gets (pot : Nat) (l : List Cl) (i : Nat) (r : Nat) : Nat := (partsR (potM pot l r) (amountsOf r l)).getD (amountsOf r (l.take i)).length 0
theorem rounds_length (pot : Nat) (l : List Cl) : ∀ r, (roundsM pot l r).1.length = l.length
  | 0 => by simp [roundsM]
  | r + 1 => by rw [roundsM, stepM, setAll_length, rounds_length pot l r]
theorem rounds_at (pot : Nat) (l : List Cl) (i : Nat) (c : Cl) (hc : l[i]? = some c) (q : Nat) (hq : c.right = q) : ∀ r, (roundsM pot l r).1[i]? = some (if q < r then gets pot l i q else 0)
  | 0 => by
    have hi : i < l.length := (List.getElem?_eq_some_iff.1 hc).1
    rw [roundsM]; simp [hi]
  | r + 1 => by
    have ih := rounds_at pot l i c hc q hq r
    have hi : i < l.length := (List.getElem?_eq_some_iff.1 hc).1
    rw [roundsM, stepM]
    by_cases h : q = r
    · subst h
      obtain ⟨h1, h2⟩ := places_at q l 0 i c hc hq
      have h3 : ∃ p, (partsR (roundsM pot l q).2 (amountsOf q l))[(amountsOf q (l.take i)).length]? = some p :=
        ⟨_, List.getElem?_eq_getElem (by rw [partsR_length]; exact (List.getElem?_eq_some_iff.1 h2).1)⟩
      obtain ⟨p, hp⟩ := h3
      rw [setAll_at _ _ _ (places_nodup q l 0) _ i p (by simpa using h1) hp (by rw [rounds_length]; exact hi), if_pos (by omega)]
      unfold gets potM
      simp [List.getD, hp]
    · rw [setAll_far _ _ _ i (fun hm => ?_), ih]
      · by_cases h2 : q < r
        · rw [if_pos h2, if_pos (by omega)]
        · rw [if_neg h2, if_neg (by omega)]
      · obtain ⟨c', hc', hr'⟩ := places_inv r l 0 i (by omega) hm
        simp at hc'
        rw [hc] at hc'; cases hc'
        omega
theorem rounds_sum (pot : Nat) (l : List Cl) (h0 : ∀ c ∈ l, 0 ≤ c.right) : ∀ r, (roundsM pot l r).1.sum + (roundsM pot l r).2 = pot
  | 0 => by simp [roundsM]
  | r + 1 => by
    have ih := rounds_sum pot l h0 r
    rw [roundsM, stepM]
    rw [setAll_sum _ _ _ (places_nodup r l 0) (by rw [places_length, partsR_length]) (fun i hi => ?_), partsR_sum]
    · simp only
      omega
    · obtain ⟨c, hc, hr⟩ := places_inv r l 0 i (by omega) hi
      simp at hc
      rw [rounds_at pot l i c hc r hr r, if_neg (by omega)]
theorem pot_down (pot : Nat) (l : List Cl) (r : Nat) : potM pot l (r + 1) ≤ potM pot l r := by
  unfold potM; rw [roundsM, stepM]; simp only; omega
theorem pot_mono (pot : Nat) (l : List Cl) (r : Nat) : ∀ s, r ≤ s → potM pot l s ≤ potM pot l r
  | 0, h => by have : r = 0 := by omega
               subst this; exact Nat.le_refl _
  | s + 1, h => by
    by_cases e : r = s + 1
    · subst e; exact Nat.le_refl _
    · exact Nat.le_trans (pot_down pot l s) (pot_mono pot l r s (by omega))
/-- what one gets is no more than they claim; all of it, if something is left behind -/
theorem gets_le (pot : Nat) (l : List Cl) (i : Nat) (c : Cl) (hc : l[i]? = some c) (q : Nat) (hq : c.right = q) : gets pot l i q ≤ c.amount.toNat ∧ (0 < potM pot l (q + 1) → gets pot l i q = c.amount.toNat) := by
  obtain ⟨h1, h2⟩ := places_at q l 0 i c hc hq
  obtain ⟨p, hp⟩ : ∃ p, (partsR (potM pot l q) (amountsOf q l))[(amountsOf q (l.take i)).length]? = some p :=
    ⟨_, List.getElem?_eq_getElem (by rw [partsR_length]; exact (List.getElem?_eq_some_iff.1 h2).1)⟩
  have hg : gets pot l i q = p := by unfold gets; simp [List.getD, hp]
  rw [hg]
  refine ⟨partsR_le h2 hp, fun h => ?_⟩
  have h3 : (amountsOf q l).sum < potM pot l q := by
    unfold potM at h ⊢
    rw [roundsM, stepM] at h
    simp only at h
    omega
  rw [partsR_all h3, h2] at hp
  cases hp; rfl
theorem gets_pos (pot : Nat) (l : List Cl) (i : Nat) (c : Cl) (hc : l[i]? = some c) (q : Nat) (hq : c.right = q) (h : 0 < gets pot l i q) : 0 < potM pot l q := by
  rcases Nat.eq_zero_or_pos (potM pot l q) with h0 | h0
  · exfalso
    unfold gets at h
    rw [h0] at h
    cases hp : (partsR 0 (amountsOf q l))[(amountsOf q (l.take i)).length]? with
    | none => simp [List.getD, hp] at h
    | some p => have := partsR_zero hp; subst this; simp [List.getD, hp] at h
  · exact h0
/-- who is of a lesser right gets nothing, before all of a better one have all -/
theorem gets_first (pot : Nat) (l : List Cl) (i k : Nat) (c d : Cl) (hc : l[i]? = some c) (hd : l[k]? = some d) (q s : Nat) (hq : c.right = q) (hs : d.right = s) (hlt : q < s) (h : 0 < gets pot l k s) : gets pot l i q = c.amount.toNat :=
  (gets_le pot l i c hc q hq).2 (Nat.lt_of_lt_of_le (gets_pos pot l k d hd s hs h) (pot_mono pot l (q + 1) s (by omega)))
theorem gets_near (pot : Nat) (l : List Cl) (i k : Nat) (c d : Cl) (hc : l[i]? = some c) (hd : l[k]? = some d) (q : Nat) (hq : c.right = q) (hs : d.right = q) (he : c.amount = d.amount) : gets pot l i q ≤ gets pot l k q + 1 := by
  obtain ⟨_, h2⟩ := places_at q l 0 i c hc hq
  obtain ⟨_, h3⟩ := places_at q l 0 k d hd hs
  obtain ⟨p, hp⟩ : ∃ p, (partsR (potM pot l q) (amountsOf q l))[(amountsOf q (l.take i)).length]? = some p :=
    ⟨_, List.getElem?_eq_getElem (by rw [partsR_length]; exact (List.getElem?_eq_some_iff.1 h2).1)⟩
  obtain ⟨p', hp'⟩ : ∃ p, (partsR (potM pot l q) (amountsOf q l))[(amountsOf q (l.take k)).length]? = some p :=
    ⟨_, List.getElem?_eq_getElem (by rw [partsR_length]; exact (List.getElem?_eq_some_iff.1 h3).1)⟩
  have e1 : gets pot l i q = p := by unfold gets; simp [List.getD, hp]
  have e2 : gets pot l k q = p' := by unfold gets; simp [List.getD, hp']
  rw [e1, e2]
  rw [← he] at h3
  exact partsR_near h2 h3 hp hp'
/-- the best rights' claims by themselves -/
theorem amounts_filter (b : Int) (l : List Cl) (r : Int) : amountsOf r (l.filter fun c => decide (c.right ≤ b)) = if r ≤ b then amountsOf r l else [] := by
  unfold amountsOf
  rw [List.filter_filter]
  split
  · rename_i h
    congr 1
    exact List.filter_congr fun c _ => by by_cases e : c.right = r <;> simp [e, h]
  · rename_i h
    have : l.filter (fun c => decide (c.right = r) && decide (c.right ≤ b)) = [] := List.filter_eq_nil_iff.2 fun c _ => by simp; omega
    rw [this]; rfl
theorem pot_filter (pot : Nat) (b : Int) (l : List Cl) : ∀ r : Nat, (r : Int) ≤ b + 1 → potM pot (l.filter fun c => decide (c.right ≤ b)) r = potM pot l r
  | 0, _ => rfl
  | r + 1, h => by
    have ih := pot_filter pot b l r (by omega)
    unfold potM at ih ⊢
    rw [roundsM, roundsM, stepM, stepM]
    simp only
    rw [ih, amounts_filter, if_pos (by omega)]
theorem pot_filter_le (pot : Nat) (b : Int) (l : List Cl) : ∀ r : Nat, potM pot l r ≤ potM pot (l.filter fun c => decide (c.right ≤ b)) r
  | 0 => Nat.le_refl _
  | r + 1 => by
    by_cases h : ((r + 1 : Nat) : Int) ≤ b + 1
    · exact Nat.le_of_eq (pot_filter pot b l (r + 1) h).symm
    · have ih := pot_filter_le pot b l r
      unfold potM at ih ⊢
      rw [roundsM, roundsM, stepM, stepM]
      simp only
      rw [amounts_filter, if_neg (by omega)]
      simp
      omega
theorem gets_filter (pot : Nat) (b : Int) (l : List Cl) (i : Nat) (q : Nat) (hq : (q : Int) ≤ b) : gets pot (l.filter fun c => decide (c.right ≤ b)) ((l.take i).filter fun c => decide (c.right ≤ b)).length q = gets pot l i q := by
  unfold gets
  rw [pot_filter pot b l q (by omega), amounts_filter, if_pos hq]
  have e : (l.filter fun c => decide (c.right ≤ b)).take ((l.take i).filter fun c => decide (c.right ≤ b)).length = (l.take i).filter fun c => decide (c.right ≤ b) := by
    have : l.filter (fun c => decide (c.right ≤ b)) = (l.take i).filter (fun c => decide (c.right ≤ b)) ++ (l.drop i).filter (fun c => decide (c.right ≤ b)) := by
      rw [← List.filter_append, List.take_append_drop]
    rw [this, List.take_left]
  rw [e, amounts_filter, if_pos hq]
end Go.Proofs.YtgbheogmccfaaaaGreat
