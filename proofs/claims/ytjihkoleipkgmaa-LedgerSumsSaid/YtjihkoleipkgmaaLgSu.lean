/- Nothing comes from nowhere, plainly. -/
import Derived.Test.YtjihkoleipkgmaaLgRf
namespace Go.Proofs.Ytjihkoleipkgmaa
set_option linter.unusedVariables false
set_option linter.unusedSimpArgs false
open Go.RowKit Go.Maps

def allChg (P : List Po) (n c : ByteArray) : Int := (P.map fun p => chg p.ents n c).sum
/-- balances are what posts make -/
structure BalOk (s : Lg) : Prop where
  bal : ∀ a ∈ s.A, a.bal = allChg s.P a.name a.cur
  zero : ∀ po ∈ s.P, ∀ c, csum po.ents c = 0
  there : ∀ po ∈ s.P, ∀ e ∈ po.ents, (findA s.A e.acct e.cur).isSome = true
theorem chg_cons (e : En) (x : List En) (n c : ByteArray) : chg (e :: x) n c = (if isE n c e = true then e.amt else 0) + chg x n c := by
  unfold chg
  rw [List.filter_cons]
  split
  · rw [List.map_cons, List.sum_cons]
  · rw [Int.zero_add]
theorem chg_snoc (x : List En) (e : En) (n c : ByteArray) : chg (x ++ [e]) n c = chg x n c + if isE n c e = true then e.amt else 0 := by
  unfold chg
  rw [List.filter_append, List.map_append, List.sum_append, List.filter_cons]
  split <;> simp
theorem csum_cons (e : En) (x : List En) (c : ByteArray) : csum (e :: x) c = (if e.cur = c then e.amt else 0) + csum x c := by
  unfold csum
  rw [List.filter_cons]
  by_cases h : e.cur = c <;> simp [h]
theorem allChg_snoc (P : List Po) (p : Po) (n c : ByteArray) : allChg (P ++ [p]) n c = allChg P n c + chg p.ents n c := by
  unfold allChg
  rw [List.map_append, List.sum_append]
  simp
theorem allChg_none {P : List Po} {n c : ByteArray} (h : ∀ po ∈ P, ∀ e ∈ po.ents, ¬ (e.acct = n ∧ e.cur = c)) : allChg P n c = 0 := by
  unfold allChg
  induction P with
  | nil => rfl
  | cons p t ih =>
    rw [List.map_cons, List.sum_cons, chg_none (h p List.mem_cons_self), ih fun po hpo => h po (List.mem_cons_of_mem _ hpo)]; rfl
theorem findA_add_some {x : List En} {A : List Ac} {n c : ByteArray} (h : (findA A n c).isSome = true) : (findA (addA x A) n c).isSome = true := by
  rw [findA_add]
  cases hf : findA A n c with
  | none => rw [hf] at h; cases h
  | some a => rfl
theorem BalOk.book {s : Lg} (h : BalOk s) (t : ByteArray) (x : List En) (hz : ∀ c, csum x c = 0) (ht : ∀ e ∈ x, (findA s.A e.acct e.cur).isSome = true) : BalOk (bookS s t x) := by
  refine ⟨fun b hb => ?_, fun po hpo c => ?_, fun po hpo e he => ?_⟩
  · obtain ⟨a, ha, rfl⟩ := List.mem_map.1 (show b ∈ s.A.map _ from hb)
    show a.bal + chg x a.name a.cur = allChg (s.P ++ [⟨t, x⟩]) a.name a.cur
    rw [allChg_snoc, ← h.bal a ha]
  · rcases List.mem_append.1 (show po ∈ s.P ++ [_] from hpo) with h1 | h1
    · exact h.zero po h1 c
    · simp at h1; subst h1; exact hz c
  · refine findA_add_some ?_
    rcases List.mem_append.1 (show po ∈ s.P ++ [_] from hpo) with h1 | h1
    · exact h.there po h1 e he
    · simp at h1; subst h1; exact ht e he
theorem csum_all {x : List En} (h : ∀ e ∈ x, csum x e.cur = 0) (c : ByteArray) : csum x c = 0 := by
  by_cases hc : ∃ e ∈ x, e.cur = c
  · obtain ⟨e, he, rfl⟩ := hc
    exact h e he
  · unfold csum
    have : x.filter (fun e => decide (e.cur = c)) = [] := List.filter_eq_nil_iff.2 fun e he => by simpa using fun h1 => hc ⟨e, he, h1⟩
    rw [this]; rfl
theorem post_facts {s : Lg} {t : ByteArray} {x : List En} (h : postE s t x = 0) : (∀ c, csum x c = 0) ∧ ∀ e ∈ x, (findA s.A e.acct e.cur).isSome = true := by
  have hw : wrongE s t x = 0 := by
    unfold postE at h
    split at h
    · exact h
    · rename_i h1; omega
  unfold wrongE at hw
  split at hw
  · cases hw
  · split at hw
    · cases hw
    · rename_i h2
      split at hw
      · cases hw
      · split at hw
        · cases hw
        · rename_i h4
          refine ⟨csum_all fun e he => ?_, fun e he => ?_⟩
          · have h5 := List.any_eq_false.1 (by simpa using h4 : x.any (fun e => !decide (csum x e.cur = 0)) = false) e he
            simpa using h5
          · have h5 := List.any_eq_false.1 (by simpa using h2 : x.any (fun e => (findA s.A e.acct e.cur).isNone) = false) e he
            cases hf : findA s.A e.acct e.cur with
            | none => rw [hf] at h5; simp at h5
            | some a => rfl
theorem BalOk.less {s : Lg} (h : BalOk s) (g : Ho) (sum : Int) : BalOk (lessS s g sum) := ⟨h.bal, h.zero, h.there⟩
theorem BalOk.act {s : Lg} (hs : LgOk s) (h : BalOk s) (x : Aa) : BalOk (actS s x) := by
  unfold actS
  split
  · split
    · rename_i he
      have hnone : findA s.A x.a x.c = none := by
        unfold openE at he
        split at he
        · cases he
        · split at he
          · cases he
          · split at he
            · cases he
            · rename_i h3
              cases hf : findA s.A x.a x.c with
              | none => rfl
              | some a => rw [hf] at h3; simp at h3
      refine ⟨fun a ha => ?_, h.zero, fun po hpo e he => ?_⟩
      · rcases List.mem_append.1 (show a ∈ s.A ++ [_] from ha) with h1 | h1
        · exact h.bal a h1
        · simp at h1; subst h1
          symm
          refine allChg_none fun po hpo e he hh => ?_
          have h2 := h.there po hpo e he
          rw [hh.1, hh.2] at h2
          simp only at h2
          rw [hnone] at h2
          cases h2
      · show (findA (s.A ++ [_]) e.acct e.cur).isSome = true
        rw [findA_snoc]
        have h2 := h.there po hpo e he
        cases hf : findA s.A e.acct e.cur with
        | none => rw [hf] at h2; cases h2
        | some a => rfl
    · exact h
  · split
    · split
      · rename_i he
        exact h.book _ _ (post_facts he).1 (post_facts he).2
      · exact h
    · split
      · split
        · exact ⟨h.bal, h.zero, h.there⟩
        · exact h
      · split
        · split
          · rename_i he
            obtain ⟨g, a, h1, h2, h3, h4, h5, h6⟩ := takeE_zero he
            have e : hoOf s x.a = g := by unfold hoOf; rw [h1]; rfl
            rw [e]
            obtain ⟨hgm, -⟩ := findH_some h1
            obtain ⟨-, -, -, b, hb⟩ := hs.hold g hgm
            refine (h.less g x.n).book _ _ (fun c => ?_) (fun y hy => ?_)
            · unfold takeX
              rw [csum_cons, csum_cons]
              by_cases hc : g.cur = c
              · simp only [hc, if_true]; unfold csum; simp; omega
              · simp only [hc, if_false]; unfold csum; simp
            · show (findA s.A y.acct y.cur).isSome = true
              unfold takeX at hy
              simp only [List.mem_cons, List.not_mem_nil, or_false] at hy
              rcases hy with rfl | rfl
              · simp only; rw [hb]; rfl
              · simp only; rw [h2]; rfl
          · exact h
        · split
          · exact h.less _ _
          · exact h
/-- what holds of a ledger behind acts -/
theorem ok_act {s : Lg} (hs : LgOk s) (x : Aa) : LgOk (actS s x) := by
  unfold actS
  split
  · split
    · rename_i he; exact hs.opened he
    · exact hs
  · split
    · split
      · rename_i he; exact hs.post he
      · exact hs
    · split
      · split
        · rename_i he; exact (hs.held he).1
        · exact hs
      · split
        · split
          · rename_i he
            obtain ⟨g, a, h1, h2, h3, h4, h5, h6⟩ := takeE_zero he
            have e : hoOf s x.a = g := by unfold hoOf; rw [h1]; rfl
            rw [e]
            exact hs.take (findH_some h1).1 h2 h3 h4 h5 h6
          · exact hs
        · split
          · rename_i g hg
            exact hs.letgo (findH_some hg).1
          · exact hs
theorem run_ok (xs : List Aa) : LgOk (runS xs) ∧ BalOk (runS xs) := by
  unfold runS
  have : ∀ (s : Lg), LgOk s → BalOk s → LgOk (xs.foldl actS s) ∧ BalOk (xs.foldl actS s) := by
    induction xs with
    | nil => exact fun s h1 h2 => ⟨h1, h2⟩
    | cons x t ih => exact fun s h1 h2 => ih _ (ok_act h1 x) (h2.act h1 x)
  exact this _ empty_ok ⟨fun a h => by simp at h, fun po h => by simp at h, fun po h => by simp at h⟩

/-- a sum over all accounts of a currency of what one entry is for each -/
theorem sum_one {α : Type} (p q : α → Bool) (m : Int) (r : α → α → Prop) (a : α) (hpa : p a = true) : ∀ (l : List α), l.Pairwise r → a ∈ l → (∀ b ∈ l, b ≠ a → p b = false) → (∀ x, r x a → x ≠ a) → (∀ x, r a x → x ≠ a) →
    ((l.filter q).map fun b => if p b = true then m else 0).sum = if q a = true then m else 0
  | [], _, h, _, _, _ => by simp at h
  | x :: t, hp, h, hq, hr1, hr2 => by
    obtain ⟨h1, h2⟩ := List.pairwise_cons.1 hp
    rcases List.mem_cons.1 h with rfl | h
    · have e : ∀ b ∈ t, p b = false := fun b hb => hq b (List.mem_cons_of_mem _ hb) (hr2 b (h1 b hb))
      have e2 : ((t.filter q).map fun b => if p b = true then m else 0).sum = 0 := by
        have : (t.filter q).map (fun b => if p b = true then m else 0) = (t.filter q).map (fun _ => (0 : Int)) := List.map_congr_left fun b hb => by rw [e b (List.mem_filter.1 hb).1]; rfl
        rw [this]
        have hz : ∀ l : List α, (l.map fun _ => (0 : Int)).sum = 0 := fun l => by induction l with
          | nil => rfl
          | cons y u ih => rw [List.map_cons, List.sum_cons, ih]; rfl
        exact hz _
      rw [List.filter_cons]
      split
      · rw [List.map_cons, List.sum_cons, e2, hpa]; simp
      · exact e2
    · have hx : p x = false := hq x List.mem_cons_self (hr1 x (h1 a h))
      have ih := sum_one p q m r a hpa t h2 h (fun b hb => hq b (List.mem_cons_of_mem _ hb)) hr1 hr2
      rw [List.filter_cons]
      split
      · rw [List.map_cons, List.sum_cons, ih, hx]; simp
      · exact ih
theorem sum_add {α : Type} (f g : α → Int) (l : List α) : (l.map fun a => f a + g a).sum = (l.map f).sum + (l.map g).sum := by
  induction l with
  | nil => rfl
  | cons x t ih => rw [List.map_cons, List.map_cons, List.map_cons, List.sum_cons, List.sum_cons, List.sum_cons, ih]; omega
theorem chg_total {s : Lg} (h : LgOk s) (c : ByteArray) (x : List En) (ht : ∀ e ∈ x, (findA s.A e.acct e.cur).isSome = true) : ((s.A.filter fun a => decide (a.cur = c)).map fun a => chg x a.name a.cur).sum = csum x c := by
  induction x with
  | nil =>
    have hz : ∀ l : List Ac, (l.map fun a => chg [] a.name a.cur).sum = 0 := fun l => by induction l with
      | nil => rfl
      | cons y u ih => rw [List.map_cons, List.sum_cons, ih]; rfl
    exact hz _
  | cons e t ih =>
    have h1 := ih fun y hy => ht y (List.mem_cons_of_mem _ hy)
    obtain ⟨a, ha⟩ := Option.isSome_iff_exists.1 (ht e List.mem_cons_self)
    obtain ⟨ha1, ha2, ha3⟩ := findA_some ha
    have hne : ∀ x : Ac, ¬ (x.name = a.name ∧ x.cur = a.cur) → x ≠ a := fun x hx e => hx (by rw [e]; exact ⟨rfl, rfl⟩)
    have e1 : ((s.A.filter fun a => decide (a.cur = c)).map fun a => chg (e :: t) a.name a.cur) = ((s.A.filter fun a => decide (a.cur = c)).map fun a => (if isE a.name a.cur e = true then e.amt else 0) + chg t a.name a.cur) := List.map_congr_left fun b _ => chg_cons e t _ _
    rw [e1, sum_add, h1, csum_cons]
    have e2 := sum_one (fun b : Ac => isE b.name b.cur e) (fun b => decide (b.cur = c)) e.amt _ a (by simp [isE, ha2, ha3]) s.A h.apartA ha1 (fun b hb hba => by
      cases hi : isE b.name b.cur e
      · rfl
      · exfalso
        simp [isE] at hi
        have h4 := findA_mem h hb
        rw [← hi.1, ← hi.2, ha] at h4
        exact hba (Option.some.inj h4).symm) hne (fun x hx => hne x fun e => hx ⟨e.1.symm, e.2.symm⟩)
    rw [e2, ha3]
    simp
theorem tot_zero {s : Lg} (hs : LgOk s) (h : BalOk s) (c : ByteArray) : totOf s c = 0 := by
  unfold totOf
  have e1 : ((s.A.filter fun a => decide (a.cur = c)).map Ac.bal) = ((s.A.filter fun a => decide (a.cur = c)).map fun a => allChg s.P a.name a.cur) := List.map_congr_left fun a ha => h.bal a (List.mem_filter.1 ha).1
  rw [e1]
  have : ∀ (P : List Po), (∀ po ∈ P, ∀ c, csum po.ents c = 0) → (∀ po ∈ P, ∀ e ∈ po.ents, (findA s.A e.acct e.cur).isSome = true) → ((s.A.filter fun a => decide (a.cur = c)).map fun a => allChg P a.name a.cur).sum = 0 := by
    intro P
    induction P with
    | nil =>
      intro _ _
      have hz : ∀ l : List Ac, (l.map fun a => allChg [] a.name a.cur).sum = 0 := fun l => by induction l with
        | nil => rfl
        | cons y u ih => rw [List.map_cons, List.sum_cons, ih]; rfl
      exact hz _
    | cons p t ih =>
      intro hz ht
      have e2 : ((s.A.filter fun a => decide (a.cur = c)).map fun a => allChg (p :: t) a.name a.cur) = ((s.A.filter fun a => decide (a.cur = c)).map fun a => chg p.ents a.name a.cur + allChg t a.name a.cur) := List.map_congr_left fun b _ => by unfold allChg; rw [List.map_cons, List.sum_cons]
      rw [e2, sum_add, ih (fun po hpo => hz po (List.mem_cons_of_mem _ hpo)) (fun po hpo => ht po (List.mem_cons_of_mem _ hpo)), chg_total hs c p.ents (ht p List.mem_cons_self), hz p List.mem_cons_self]
      rfl
  exact this s.P h.zero h.there
end Go.Proofs.Ytjihkoleipkgmaa
