/- What holds of a ledger stays, plainly. -/
import Derived.Test.YtjihkoleipkgmaaLgP
namespace Go.Proofs.Ytjihkoleipkgmaa
set_option linter.unusedVariables false
set_option linter.unusedSimpArgs false
open Go.RowKit

theorem held_none {s : Lg} (h : LgOk s) {n c : ByteArray} (hn : findA s.A n c = none) : heldOf s.H n c = 0 := by
  unfold heldOf
  have : s.H.filter (isH n c) = [] := List.filter_eq_nil_iff.2 fun g hg => by
    intro hi
    simp [isH] at hi
    obtain ⟨a, ha⟩ := (h.hold g hg).2.2.2
    rw [hi.1, hi.2, hn] at ha
    cases ha
  rw [this]; rfl
theorem LgOk.opened {s : Lg} (h : LgOk s) {n c : ByteArray} {fl : Int} (he : openE s n c fl = 0) : LgOk (openS s n c fl) := by
  unfold openE at he
  split at he
  · cases he
  · rename_i h1
    split at he
    · cases he
    · rename_i h2
      split at he
      · cases he
      · rename_i h3
        have hnone : findA s.A n c = none := by
          cases hf : findA s.A n c with
          | none => rfl
          | some a => rw [hf] at h3; simp at h3
        have h1' : okName n = true ∧ okCur c = true := by
          cases e1 : okName n <;> cases e2 : okCur c <;> simp [e1, e2] at h1 ⊢
        refine ⟨?_, h.apartH, fun a ha => ?_, fun a ha => ?_, fun g hg => ?_⟩
        · unfold openS
          rw [List.pairwise_append]
          refine ⟨h.apartA, List.pairwise_singleton _ _, fun a ha b hb => ?_⟩
          simp at hb; subst hb
          rintro ⟨e1, e2⟩
          have := findA_mem h ha
          simp only at e1 e2
          rw [e1, e2, hnone] at this
          cases this
        · unfold openS at ha
          rcases List.mem_append.1 ha with ha | ha
          · exact h.name a ha
          · simp at ha; subst ha; exact h1'
        · unfold openS at ha
          rcases List.mem_append.1 ha with ha | ha
          · exact h.floor a ha
          · simp at ha; subst ha
            have h0 := held_none h hnone
            refine ⟨by simp only; omega, by simp only; omega, by simp only; unfold mostI; omega, ?_⟩
            unfold Lg.free Lg.held openS
            simp only
            rw [h0]
            omega
        · obtain ⟨q1, q2, q3, a, ha⟩ := h.hold g hg
          refine ⟨q1, q2, q3, a, ?_⟩
          unfold openS
          rw [findA_snoc, ha]; rfl
theorem LgOk.book {s : Lg} (h : LgOk s) {t : ByteArray} {x : List En} (hc : ∀ a ∈ s.A, a.bal + chg x a.name a.cur ≤ mostI ∧ 0 ≤ s.free a + chg x a.name a.cur) : LgOk (bookS s t x) := by
  refine ⟨?_, h.apartH, fun b hb => ?_, fun b hb => ?_, fun g hg => ?_⟩
  · unfold bookS addA
    rw [List.pairwise_map]
    exact h.apartA
  · obtain ⟨a, ha, rfl⟩ := List.mem_map.1 hb
    exact h.name a ha
  · obtain ⟨a, ha, rfl⟩ := List.mem_map.1 hb
    have h1 := h.floor a ha
    have h2 := hc a ha
    refine ⟨h1.1, h1.2.1, h2.1, ?_⟩
    have h3 : (bookS s t x).free { a with bal := a.bal + chg x a.name a.cur } = s.free a + chg x a.name a.cur := by
      unfold Lg.free Lg.held bookS
      simp only
      omega
    rw [h3]; exact h2.2
  · obtain ⟨q1, q2, q3, a, ha⟩ := h.hold g hg
    refine ⟨q1, q2, q3, ?_⟩
    unfold bookS
    rw [findA_add, ha]
    exact ⟨_, rfl⟩
theorem chg_none {x : List En} {n c : ByteArray} (h : ∀ e ∈ x, ¬ (e.acct = n ∧ e.cur = c)) : chg x n c = 0 := by
  unfold chg
  have : x.filter (isE n c) = [] := List.filter_eq_nil_iff.2 fun e he => by
    intro hi
    simp [isE] at hi
    exact h e he hi
  rw [this]; rfl
/-- what a post that may be asks of each account -/
theorem post_all {s : Lg} (h : LgOk s) {t : ByteArray} {x : List En} (he : postE s t x = 0) : ∀ a ∈ s.A, a.bal + chg x a.name a.cur ≤ mostI ∧ 0 ≤ s.free a + chg x a.name a.cur := by
  intro a ha
  by_cases hx : ∃ e ∈ x, e.acct = a.name ∧ e.cur = a.cur
  · obtain ⟨e, hex, e1, e2⟩ := hx
    have hf := findA_mem h ha
    unfold postE at he
    split at he
    · rename_i h1; exact absurd he h1
    · split at he
      · cases he
      · rename_i h1
        split at he
        · cases he
        · rename_i h2
          have q1 : overE s x e = false := by
            cases hq : overE s x e
            · rfl
            · exact absurd (List.any_eq_true.2 ⟨e, hex, hq⟩) h1
          have q2 : lackE s x e = false := by
            cases hq : lackE s x e
            · rfl
            · exact absurd (List.any_eq_true.2 ⟨e, hex, hq⟩) h2
          unfold overE at q1
          unfold lackE at q2
          rw [e1, e2, hf] at q1 q2
          simp at q1 q2
          have h0 := h.floor a ha
          refine ⟨by omega, ?_⟩
          by_cases hn : chg x a.name a.cur < 0
          · have := q2 hn; omega
          · omega
  · have h0 := chg_none (x := x) (n := a.name) (c := a.cur) (fun e he hh => hx ⟨e, he, hh⟩)
    have h1 := h.floor a ha
    rw [h0]
    omega
theorem LgOk.post {s : Lg} (h : LgOk s) {t : ByteArray} {x : List En} (he : postE s t x = 0) : LgOk (bookS s t x) := h.book (post_all h he)
theorem LgOk.held {s : Lg} (h : LgOk s) {i n c : ByteArray} {sum : Int} (he : holdE s i n c sum = 0) : LgOk (holdS s i n c sum) ∧ ∃ a, findA s.A n c = some a ∧ sum ≤ s.free a := by
  unfold holdE at he
  split at he
  · cases he
  · rename_i h1
    split at he
    · cases he
    · rename_i h2
      split at he
      · cases he
      · rename_i a ha
        split at he
        · cases he
        · rename_i h3
          split at he
          · cases he
          · rename_i h4
            have hnone : findH s.H i = none := by
              cases hf : findH s.H i with
              | none => rfl
              | some a => rw [hf] at h2; simp at h2
            have hok : okName i = true := by cases e1 : okName i <;> simp [e1] at h1 ⊢
            refine ⟨⟨h.apartA, ?_, h.name, fun b hb => ?_, fun g hg => ?_⟩, a, ha, by omega⟩
            · unfold holdS
              rw [List.pairwise_append]
              refine ⟨h.apartH, List.pairwise_singleton _ _, fun g hg b hb => ?_⟩
              simp at hb; subst hb
              intro e
              have := findH_mem h hg
              simp only at e
              rw [e, hnone] at this
              cases this
            · have q := h.floor b hb
              refine ⟨q.1, q.2.1, q.2.2.1, ?_⟩
              have e : (holdS s i n c sum).free b = s.free b - if isH b.name b.cur ⟨i, n, c, sum⟩ = true then sum else 0 := by
                unfold Lg.free Lg.held holdS
                simp only
                rw [heldOf_snoc]
                simp only
                omega
              rw [e]
              split
              · rename_i hi
                simp [isH] at hi
                have hb2 := findA_mem h hb
                rw [← hi.1, ← hi.2, ha] at hb2
                cases hb2
                omega
              · omega
            · unfold holdS at hg
              rcases List.mem_append.1 hg with hg | hg
              · exact h.hold g hg
              · simp at hg; subst hg
                exact ⟨hok, by simp only; omega, by simp only; omega, a, ha⟩
theorem heldOf_less {s : Lg} (h : LgOk s) {g : Ho} (hg : g ∈ s.H) (sum : Int) (n c : ByteArray) : heldOf (lessS s g sum).H n c = heldOf s.H n c - if isH n c g = true then sum else 0 := by
  unfold lessS
  simp only
  split
  · rename_i h0
    rw [List.append_nil, heldOf_drop h.apartH hg]
    split <;> omega
  · rw [heldOf_snoc, heldOf_drop h.apartH hg]
    have e : isH n c { g with amt := g.amt - sum } = isH n c g := rfl
    rw [e]
    split <;> (try simp only) <;> omega
theorem free_less {s : Lg} (h : LgOk s) {g : Ho} (hg : g ∈ s.H) (sum : Int) (a : Ac) : (lessS s g sum).free a = s.free a + if isH a.name a.cur g = true then sum else 0 := by
  have := heldOf_less h hg sum a.name a.cur
  unfold Lg.free Lg.held
  rw [this]
  split <;> omega
theorem LgOk.less {s : Lg} (h : LgOk s) {g : Ho} (hg : g ∈ s.H) {sum : Int} (h1 : 1 ≤ sum) (h2 : sum ≤ g.amt) : LgOk (lessS s g sum) := by
  refine ⟨h.apartA, ?_, h.name, fun a ha => ?_, fun k hk => ?_⟩
  · unfold lessS
    simp only
    have hd : (dropH s.H g.id).Pairwise fun g h => g.id ≠ h.id := h.apartH.filter _
    split
    · rw [List.append_nil]; exact hd
    · rw [List.pairwise_append]
      refine ⟨hd, List.pairwise_singleton _ _, fun x hx b hb => ?_⟩
      simp at hb; subst hb
      have := (List.mem_filter.1 hx).2
      simpa [hasId] using this
  · have q := h.floor a ha
    refine ⟨q.1, q.2.1, q.2.2.1, ?_⟩
    rw [free_less h hg]
    split <;> omega
  · unfold lessS at hk
    simp only at hk
    rcases List.mem_append.1 hk with hk | hk
    · exact h.hold k (List.mem_filter.1 hk).1
    · split at hk
      · simp at hk
      · rename_i hne
        simp at hk; subst hk
        obtain ⟨q1, q2, q3, q4⟩ := h.hold g hg
        exact ⟨q1, by simp only; omega, by simp only; omega, q4⟩
theorem chg_take {h : Ho} {to : ByteArray} {sum : Int} (hne : to ≠ h.acct) (n c : ByteArray) : chg (takeX h to sum) n c = (if isH n c h = true then -sum else 0) + if to = n ∧ h.cur = c then sum else 0 := by
  unfold chg takeX
  rw [List.filter_cons, List.filter_cons]
  by_cases e1 : h.acct = n
  · subst e1
    by_cases e2 : h.cur = c
    · simp [isE, isH, e2, hne]
    · simp [isE, isH, e2]
  · by_cases e3 : to = n
    · by_cases e2 : h.cur = c
      · simp [isE, isH, e1, e2, e3]
      · simp [isE, isH, e1, e2, e3]
    · simp [isE, isH, e1, e3]
/-- taken -/
def takeS (s : Lg) (h : Ho) (to : ByteArray) (sum : Int) (text : ByteArray) : Lg := bookS (lessS s h sum) text (takeX h to sum)
theorem takeE_zero {s : Lg} {i to : ByteArray} {sum : Int} (he : takeE s i to sum = 0) : ∃ h a, findH s.H i = some h ∧ findA s.A to h.cur = some a ∧ to ≠ h.acct ∧ 1 ≤ sum ∧ sum ≤ h.amt ∧ a.bal + sum ≤ mostI := by
  unfold takeE at he
  split at he
  · cases he
  · rename_i h hh
    split at he
    · cases he
    · rename_i a ha
      split at he
      · cases he
      · rename_i h1
        split at he
        · cases he
        · rename_i h2
          split at he
          · cases he
          · rename_i h3
            exact ⟨h, a, hh, ha, h1, by omega, by omega, by omega⟩
theorem LgOk.take {s : Lg} (hs : LgOk s) {h : Ho} {a : Ac} {to text : ByteArray} {sum : Int} (hh : h ∈ s.H) (ha : findA s.A to h.cur = some a) (hne : to ≠ h.acct) (h1 : 1 ≤ sum) (h2 : sum ≤ h.amt) (h3 : a.bal + sum ≤ mostI) : LgOk (takeS s h to sum text) := by
  refine (hs.less hh h1 h2).book fun b hb => ?_
  have q := hs.floor b hb
  rw [free_less hs hh, chg_take hne]
  by_cases e1 : isH b.name b.cur h = true
  · rw [if_pos e1, if_pos e1]
    have e2 : ¬ (to = b.name ∧ h.cur = b.cur) := by
      simp [isH] at e1
      rintro ⟨e2, _⟩
      exact hne (e2.trans e1.1.symm)
    rw [if_neg e2]
    omega
  · rw [if_neg e1, if_neg e1]
    by_cases e2 : to = b.name ∧ h.cur = b.cur
    · rw [if_pos e2]
      have hb2 := findA_mem hs hb
      rw [← e2.1, ← e2.2, ha] at hb2
      cases hb2
      omega
    · rw [if_neg e2]
      omega
def letS (s : Lg) (h : Ho) : Lg := lessS s h h.amt
theorem letS_H (s : Lg) (h : Ho) : (letS s h).H = dropH s.H h.id := by unfold letS lessS; simp
theorem LgOk.letgo {s : Lg} (hs : LgOk s) {h : Ho} (hh : h ∈ s.H) : LgOk (letS s h) := hs.less hh (hs.hold h hh).2.1 (Int.le_refl _)
end Go.Proofs.Ytjihkoleipkgmaa
