/- Boxes that are due, plainly. -/
import Derived.Test.YtgalpdjmmpjddaaPlayP
import Derived.Test.YtgalpdjmmpjddaaStrsA
namespace Go.Proofs.Ytgalpdjmmpjddaa
set_option linter.unusedVariables false
set_option linter.unusedSimpArgs false
open Go.RowKit Go.Maps

def dueB (day : Int) (x : Bx) : Bool := decide (x.state = 0) && decide (x.day ≤ day)
abbrev Bx.nm (x : Bx) : List UInt8 := x.name.data.toList
def dueL (bs : List Bx) (day : Int) : List (List UInt8) := (bs.filter (dueB day)).map Bx.nm
/-- those that have come -/
def doneL (bs : List Bx) (day : Int) (todo : ByteArray → Bool) : List (List UInt8) := (bs.filter (fun x => !todo x.name && dueB day x)).map Bx.nm
theorem doneL_start (bs : List Bx) (day : Int) (todo : ByteArray → Bool) (h : ∀ x ∈ bs, todo x.name = true) : doneL bs day todo = [] := by
  unfold doneL
  have : bs.filter (fun x => !todo x.name && dueB day x) = [] := List.filter_eq_nil_iff.2 fun x hx => by simp [h x hx]
  rw [this]; rfl
theorem doneL_end (bs : List Bx) (day : Int) (todo : ByteArray → Bool) (h : ∀ x ∈ bs, todo x.name = false) : doneL bs day todo = dueL bs day := by
  unfold doneL dueL
  congr 1
  exact List.filter_congr fun x hx => by simp [h x hx]
theorem doneL_far (bs : List Bx) (day : Int) (todo : ByteArray → Bool) (s : ByteArray) (h : ∀ x ∈ bs, x.name ≠ s) : doneL bs day (fun y => todo y && !decide (y = s)) = doneL bs day todo := by
  unfold doneL
  congr 1
  exact List.filter_congr fun x hx => by simp [h x hx]
theorem doneL_step (bs : List Bx) (day : Int) (todo : ByteArray → Bool) (x : Bx) (hx : x ∈ bs) (ha : Apart bs) (ht : todo x.name = true) :
    (doneL bs day (fun y => todo y && !decide (y = x.name))).Perm (doneL bs day todo ++ if dueB day x = true then [x.nm] else []) := by
  induction bs with
  | nil => simp at hx
  | cons z r ih =>
    obtain ⟨h1, h2⟩ := List.pairwise_cons.1 ha
    rcases List.mem_cons.1 hx with rfl | hr
    · have hs := doneL_far r day todo x.name (fun y hy => Ne.symm (h1 y hy))
      unfold doneL at hs ⊢
      rw [List.filter_cons, List.filter_cons]
      cases hd : dueB day x
      · simp only [ht, hd, Bool.and_false, Bool.false_eq_true, if_false, List.append_nil]
        rw [hs]
      · simp only [ht, hd, decide_true, Bool.not_true, Bool.and_false, Bool.not_false, Bool.true_and, if_true, Bool.false_and, Bool.false_eq_true, if_false, List.map_cons, Bool.and_true]
        rw [hs]
        exact (List.perm_append_comm (l₁ := [x.nm]))
    · have hs := ih hr h2
      have hne : z.name ≠ x.name := h1 x hr
      unfold doneL at hs ⊢
      rw [List.filter_cons, List.filter_cons]
      have e : (!(todo z.name && !decide (z.name = x.name)) && dueB day z) = (!todo z.name && dueB day z) := by simp [hne]
      rw [e]
      cases hc : (!todo z.name && dueB day z)
      · simpa using hs
      · simp only [if_true, List.map_cons, List.cons_append]
        exact List.Perm.cons _ hs
theorem perm_step {ss : List (List UInt8)} {bs : List Bx} {day : Int} {todo : ByteArray → Bool} {x : Bx} (h : ss.Perm (doneL bs day todo)) (hx : x ∈ bs) (ha : Apart bs) (ht : todo x.name = true) :
    (dueB day x = true → (ss ++ [x.nm]).Perm (doneL bs day (fun y => todo y && !decide (y = x.name)))) ∧ (dueB day x = false → ss.Perm (doneL bs day (fun y => todo y && !decide (y = x.name)))) := by
  have hs := doneL_step bs day todo x hx ha ht
  constructor
  · intro hd; rw [hd] at hs; exact (h.append_right _).trans hs.symm
  · intro hd; rw [hd] at hs; simp at hs; exact h.trans hs.symm
end Go.Proofs.Ytgalpdjmmpjddaa
