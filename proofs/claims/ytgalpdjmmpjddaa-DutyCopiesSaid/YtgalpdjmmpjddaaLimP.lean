/- What is left to be paid, plainly. -/
import Derived.Test.YtgalpdjmmpjddaaDueA
import Derived.Test.YtgalpdjmmpjddaaLawPaid
namespace Go.Proofs.Ytgalpdjmmpjddaa
set_option linter.unusedVariables false
set_option linter.unusedSimpArgs false
open Go.RowKit Go.Maps

abbrev asB (s : List UInt8) : ByteArray := ⟨s.toArray⟩
theorem asB_nm (x : Bx) : asB x.nm = x.name := by
  unfold asB Bx.nm; simp
theorem nm_asB {x : Bx} {s : List UInt8} (h : x.name = asB s) : x.nm = s := by
  unfold Bx.nm; rw [h]
theorem find_mem {bs : List Bx} (ha : Apart bs) {x : Bx} (hx : x ∈ bs) : bs.find? (named x.name) = some x := by
  induction bs with
  | nil => simp at hx
  | cons z r ih =>
    obtain ⟨h1, h2⟩ := List.pairwise_cons.1 ha
    rcases List.mem_cons.1 hx with rfl | hr
    · rw [List.find?_cons]; simp [named]
    · have hne : z.name ≠ x.name := h1 x hr
      rw [List.find?_cons]
      simp only [named, hne, decide_false]
      exact ih h2 hr
theorem exp_facts {bs : List Bx} {s : ByteArray} {x : Bx} (ha : Apart bs) (hf : bs.find? (named s) = some x) (h0 : x.state = 0) :
    opE bs s = 0 ∧ left bs s 2 0 = setS bs s 2 ∧ used (setS bs s 2) = used bs - x.duty ∧ opE (setS bs s 2) s = 9 ∧ left (setS bs s 2) s 2 9 = setS bs s 2 := by
  have hf' := find_setS bs s 2 s
  rw [hf] at hf'
  simp only [Option.map_some, if_true] at hf'
  refine ⟨?_, rfl, used_setS_eq bs s 2 (by omega) x ha hf h0, ?_, rfl⟩
  · unfold opE; simp only [hf]; exact if_pos h0
  · unfold opE; simp only [hf']; rfl

/-- what is entered, and still to be handed out -/
structure Rest (bs : List Bx) (L : List (List UInt8)) : Prop where
  ok : BsOk bs
  here : ∀ s ∈ L, ∃ x, bs.find? (named (asB s)) = some x ∧ x.state = 0
  all : ∀ x ∈ bs, x.state = 0 → x.nm ∈ L
  nd : L.Nodup
theorem Rest.step {bs : List Bx} {s : List UInt8} {r : List (List UInt8)} (h : Rest bs (s :: r)) : Rest (setS bs (asB s) 2) r := by
  obtain ⟨hn1, hn2⟩ := List.nodup_cons.1 h.nd
  refine ⟨h.ok.setS _ _, fun t ht => ?_, fun x hx h0 => ?_, hn2⟩
  · obtain ⟨x, hx, h0⟩ := h.here t (List.mem_cons_of_mem _ ht)
    have hne : asB t ≠ asB s := by
      intro e
      have : t = s := by
        have := congrArg (fun b : ByteArray => b.data.toList) e
        simpa [asB] using this
      exact hn1 (this ▸ ht)
    refine ⟨x, ?_, h0⟩
    rw [find_setS, hx]
    simp [hne]
  · obtain ⟨y, hy, hxy⟩ := List.mem_map.1 hx
    cases hys : named (asB s) y
    · rw [hys] at hxy
      simp only [Bool.false_eq_true, if_false] at hxy
      subst hxy
      rcases List.mem_cons.1 (h.all y hy h0) with e | e
      · exfalso
        have h1 : y.name = asB s := by rw [← e, asB_nm]
        have h2 : named (asB s) y = true := by simp [named, h1]
        rw [h2] at hys; cases hys
      · exact e
    · rw [hys] at hxy
      simp only [if_true] at hxy
      rw [← hxy] at h0
      cases h0
theorem due_nodup {bs : List Bx} (ha : Apart bs) (day : Int) : (dueL bs day).Nodup := by
  unfold dueL
  refine List.pairwise_map.2 ((List.Pairwise.filter _ ha).imp fun {a b} hab e => hab ?_)
  rw [← asB_nm a, ← asB_nm b, e]
theorem Rest.start {lim : Int} {bs : List Bx} (h : Inv lim bs) : Rest bs ((dueL bs 1048576).mergeSort leB) := by
  have hp := List.mergeSort_perm (dueL bs 1048576) leB
  refine ⟨h.ok, fun s hs => ?_, fun x hx h0 => ?_, hp.nodup_iff.2 (due_nodup h.ok.apart _)⟩
  · have := hp.mem_iff.1 hs
    unfold dueL at this
    obtain ⟨x, hx, rfl⟩ := List.mem_map.1 this
    obtain ⟨hx1, hx2⟩ := List.mem_filter.1 hx
    refine ⟨x, ?_, ?_⟩
    · rw [asB_nm]; exact find_mem h.ok.apart hx1
    · unfold dueB at hx2; simp at hx2; exact hx2.1
  · refine hp.mem_iff.2 (List.mem_map.2 ⟨x, List.mem_filter.2 ⟨hx, ?_⟩, rfl⟩)
    unfold dueB; simp [h0]; exact (h.day x hx).2
theorem Rest.done {bs : List Bx} (h : Rest bs []) : used bs = 0 ∧ ∀ d, dueL bs d = [] := by
  have h0 : ∀ x ∈ bs, x.state ≠ 0 := fun x hx e => by simpa using h.all x hx e
  constructor
  · unfold used
    have : ∀ l : List Bx, (∀ x ∈ l, x.state ≠ 0) → (l.map Bx.use).sum = 0 := by
      intro l
      induction l with
      | nil => intro _; rfl
      | cons x r ih => intro hl; simp only [List.map_cons, List.sum_cons]; rw [ih (fun y hy => hl y (List.mem_cons_of_mem _ hy))]; simp [Bx.use, hl x (List.mem_cons_self)]
    exact this bs h0
  · intro d
    unfold dueL
    have : bs.filter (dueB d) = [] := List.filter_eq_nil_iff.2 fun x hx => by simp [dueB, h0 x hx]
    rw [this]; rfl
end Go.Proofs.Ytgalpdjmmpjddaa
