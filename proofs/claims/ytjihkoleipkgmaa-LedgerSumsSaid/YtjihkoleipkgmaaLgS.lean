/- A taking, plainly. -/
import Derived.Test.YtjihkoleipkgmaaLgJ
namespace Go.Proofs.Ytjihkoleipkgmaa
set_option linter.unusedVariables false
set_option linter.unusedSimpArgs false
open Go.RowKit Go.Maps

theorem take_all {s : Lg} (hs : LgOk s) {h : Ho} {a : Ac} {to : ByteArray} {sum : Int} (hh : h ∈ s.H) (ha : findA s.A to h.cur = some a) (hne : to ≠ h.acct) (h1 : 1 ≤ sum) (h2 : sum ≤ h.amt) (h3 : a.bal + sum ≤ mostI) :
    ∀ b ∈ (lessS s h sum).A, b.bal + chg (takeX h to sum) b.name b.cur ≤ mostI ∧ 0 ≤ (lessS s h sum).free b + chg (takeX h to sum) b.name b.cur := fun b hb => by
  have q := hs.floor b hb
  rw [free_less hs hh, chg_take hne]
  by_cases e1 : isH b.name b.cur h = true
  · rw [if_pos e1, if_pos e1]
    have e2 : ¬ (to = b.name ∧ h.cur = b.cur) := by
      simp [isH] at e1
      rintro ⟨e2, _⟩
      exact hne (e2.trans e1.1.symm)
    simp [e2]
    omega
  · rw [if_neg e1, if_neg e1]
    by_cases e2 : to = b.name ∧ h.cur = b.cur
    · rw [if_pos e2]
      have hb2 := findA_mem hs hb
      rw [← e2.1, ← e2.2, ha] at hb2
      cases hb2
      omega
    · rw [if_neg e2]
      omega
theorem chF_take {h : Ho} {to : ByteArray} {sum : Int} (hne : to ≠ h.acct) (y : ByteArray × ByteArray) :
    (if y = (to, h.cur) then some (.int .i64 sum) else if y = (h.acct, h.cur) then some (.int .i64 (-sum)) else none) = chF (takeX h to sum) y := by
  obtain ⟨y1, y2⟩ := y
  unfold chF
  simp only
  rw [chg_take hne]
  unfold inX takeX isH
  by_cases e1 : (y1, y2) = (to, h.cur)
  · obtain ⟨rfl, rfl⟩ := Prod.mk.inj e1
    have hne' : ¬ h.acct = y1 := fun e => hne e.symm
    simp [isE, hne']
  · rw [if_neg e1]
    by_cases e2 : (y1, y2) = (h.acct, h.cur)
    · obtain ⟨rfl, rfl⟩ := Prod.mk.inj e2
      simp [isE, hne]
    · rw [if_neg e2]
      have n1 : ¬ (h.acct = y1 ∧ h.cur = y2) := fun e => e2 (Prod.ext e.1.symm e.2.symm)
      have n2 : ¬ (to = y1 ∧ h.cur = y2) := fun e => e1 (Prod.ext e.1.symm e.2.symm)
      simp [isE, n1, n2]
theorem chF_take2 {h : Ho} {to : ByteArray} {sum : Int} (hne : to ≠ h.acct) (y : ByteArray × ByteArray) :
    (if y = (h.acct, h.cur) then some (.int .i64 (-sum)) else if y = (to, h.cur) then some (.int .i64 sum) else none) = (if y = (to, h.cur) then some (.int .i64 sum) else if y = (h.acct, h.cur) then some (Value.int .i64 (-sum)) else none) := by
  by_cases e1 : y = (to, h.cur)
  · subst e1
    have e2 : ¬ ((to, h.cur) = (h.acct, h.cur)) := fun e => hne (Prod.mk.inj e).1
    simp [e2]
  · rw [if_neg e1, if_neg e1]
theorem take_in {s : Lg} {h : Ho} {to : ByteArray} {sum : Int} (h1 : (findA s.A h.acct h.cur).isSome = true) (h2 : (findA s.A to h.cur).isSome = true) (a c : ByteArray) (hy : inX (takeX h to sum) a c = true) : (findA (lessS s h sum).A a c).isSome = true := by
  have e : (lessS s h sum).A = s.A := rfl
  rw [e]
  obtain ⟨x, hx, e1, e2⟩ := inX_mem hy
  unfold takeX at hx
  simp only [List.mem_cons, List.not_mem_nil, or_false] at hx
  rcases hx with rfl | rfl
  · rw [← e1, ← e2]; exact h1
  · rw [← e1, ← e2]; exact h2
end Go.Proofs.Ytjihkoleipkgmaa
