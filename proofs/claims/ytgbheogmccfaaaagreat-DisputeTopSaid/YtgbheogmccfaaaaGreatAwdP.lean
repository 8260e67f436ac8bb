/- Who gets which thing, plainly. -/
import Derived.Test.YtgbheogmccfaaaaGreatRnkP
namespace Go.Proofs.YtgbheogmccfaaaaGreat
set_option linter.unusedVariables false
set_option linter.unusedSimpArgs false
open Go.RowKit

/-- who gets a thing -/
def Wins (l : List Cl) (t : ByteArray) (c : Cl) : Prop := c ∈ l ∧ c.thing = t ∧ ∀ d ∈ l, d.thing = t → leC c d = true
theorem Wins.same {l : List Cl} {t : ByteArray} {c d : Cl} (h : Wins l t c) (h' : Wins l t d) : c = d := leC_antisymm (h.2.2 d h'.1 h'.2.1) (h'.2.2 c h.1 h.2.1)
theorem Wins.of_mem {l m : List Cl} (hm : ∀ c, c ∈ l ↔ c ∈ m) {t : ByteArray} {c : Cl} : Wins l t c ↔ Wins m t c := by
  unfold Wins
  constructor
  · rintro ⟨h1, h2, h3⟩; exact ⟨(hm c).1 h1, h2, fun d hd => h3 d ((hm d).2 hd)⟩
  · rintro ⟨h1, h2, h3⟩; exact ⟨(hm c).2 h1, h2, fun d hd => h3 d ((hm d).1 hd)⟩
def ofThing (t : ByteArray) (c : Cl) : Bool := decide (c.thing = t)
theorem sorted_find (t : ByteArray) : ∀ (r : List Cl), r.Pairwise (fun a b => leC a b = true) → ∀ c, r.find? (ofThing t) = some c → Wins r t c
  | [], _, c, h => by simp at h
  | x :: s, hs, c, h => by
    obtain ⟨h1, h2⟩ := List.pairwise_cons.1 hs
    rw [List.find?_cons] at h
    cases hx : ofThing t x
    · rw [hx] at h
      obtain ⟨w1, w2, w3⟩ := sorted_find t s h2 c h
      refine ⟨List.mem_cons_of_mem _ w1, w2, fun d hd hdt => ?_⟩
      rcases List.mem_cons.1 hd with rfl | hd
      · simp [ofThing, hdt] at hx
      · exact w3 d hd hdt
    · rw [hx] at h; cases h
      refine ⟨List.mem_cons_self, by simpa [ofThing] using hx, fun d hd _ => ?_⟩
      rcases List.mem_cons.1 hd with rfl | hd
      · have := leC_total d d; simpa using this
      · exact h1 d hd
theorem wins_find (l : List Cl) (t : ByteArray) (c : Cl) : (rankL l).find? (ofThing t) = some c ↔ Wins l t c := by
  have hm : ∀ d, d ∈ rankL l ↔ d ∈ l := rankL_mem l
  constructor
  · intro h; exact (Wins.of_mem hm).1 (sorted_find t _ (rankL_sorted l) c h)
  · intro h
    have h' := (Wins.of_mem hm).2 h
    cases hf : (rankL l).find? (ofThing t) with
    | none => exact absurd h'.2.1 (by have := List.find?_eq_none.1 hf c h'.1; simpa [ofThing] using this)
    | some d => rw [(sorted_find t _ (rankL_sorted l) d hf).same h']
theorem wins_exists (l : List Cl) (c : Cl) (h : c ∈ l) : ∃ d, Wins l c.thing d := by
  cases hf : (rankL l).find? (ofThing c.thing) with
  | none => have := List.find?_eq_none.1 hf c ((rankL_mem l c).2 h); simp [ofThing] at this
  | some d => exact ⟨d, (wins_find l _ d).1 hf⟩
/-- an award: things rising, each with who gets it -/
structure AwardsOf (l : List Cl) (a : List (ByteArray × ByteArray)) : Prop where
  sorted : a.Pairwise (fun x y => tx x.1 < tx y.1)
  mem : ∀ t n, (t, n) ∈ a ↔ ∃ c, Wins l t c ∧ c.name = n
theorem sorted_unique : ∀ (a b : List (ByteArray × ByteArray)), a.Pairwise (fun x y => tx x.1 < tx y.1) → b.Pairwise (fun x y => tx x.1 < tx y.1) → (∀ x, x ∈ a ↔ x ∈ b) → a = b
  | [], [], _, _, _ => rfl
  | [], y :: t, _, _, h => by have := (h y).2 List.mem_cons_self; simp at this
  | x :: s, [], _, _, h => by have := (h x).1 List.mem_cons_self; simp at this
  | x :: s, y :: t, ha, hb, h => by
    obtain ⟨a1, a2⟩ := List.pairwise_cons.1 ha
    obtain ⟨b1, b2⟩ := List.pairwise_cons.1 hb
    have hxy : x = y := by
      rcases List.mem_cons.1 ((h x).1 List.mem_cons_self) with e | hx
      · exact e
      · rcases List.mem_cons.1 ((h y).2 List.mem_cons_self) with e | hy
        · exact e.symm
        · exact absurd (List.lt_trans (b1 x hx) (a1 y hy)) (List.lt_irrefl _)
    subst hxy
    congr 1
    refine sorted_unique s t a2 b2 fun z => ⟨fun hz => ?_, fun hz => ?_⟩
    · rcases List.mem_cons.1 ((h z).1 (List.mem_cons_of_mem _ hz)) with rfl | h1
      · exact absurd (a1 z hz) (List.lt_irrefl _)
      · exact h1
    · rcases List.mem_cons.1 ((h z).2 (List.mem_cons_of_mem _ hz)) with rfl | h1
      · exact absurd (b1 z hz) (List.lt_irrefl _)
      · exact h1
theorem AwardsOf.same {l m : List Cl} (hm : ∀ c, c ∈ l ↔ c ∈ m) {a b : List (ByteArray × ByteArray)} (ha : AwardsOf l a) (hb : AwardsOf m b) : a = b := by
  refine sorted_unique a b ha.sorted hb.sorted fun ⟨t, n⟩ => ?_
  rw [ha.mem, hb.mem]
  constructor
  · rintro ⟨c, h1, h2⟩; exact ⟨c, (Wins.of_mem hm).1 h1, h2⟩
  · rintro ⟨c, h1, h2⟩; exact ⟨c, (Wins.of_mem hm).2 h1, h2⟩
theorem AwardsOf.once {l : List Cl} {a : List (ByteArray × ByteArray)} (h : AwardsOf l a) {t n n' : ByteArray} (h1 : (t, n) ∈ a) (h2 : (t, n') ∈ a) : n = n' := by
  obtain ⟨c, w1, e1⟩ := (h.mem t n).1 h1
  obtain ⟨d, w2, e2⟩ := (h.mem t n').1 h2
  rw [← e1, ← e2, w1.same w2]
/-- those of one thing alone -/
theorem wins_only (l : List Cl) (t : ByteArray) (c : Cl) : Wins (l.filter (ofThing t)) t c ↔ Wins l t c := by
  unfold Wins
  constructor
  · rintro ⟨h1, h2, h3⟩
    exact ⟨(List.mem_filter.1 h1).1, h2, fun d hd hdt => h3 d (List.mem_filter.2 ⟨hd, by simp [ofThing, hdt]⟩) hdt⟩
  · rintro ⟨h1, h2, h3⟩
    exact ⟨List.mem_filter.2 ⟨h1, by simp [ofThing, h2]⟩, h2, fun d hd hdt => h3 d (List.mem_filter.1 hd).1 hdt⟩
theorem only_short {l : List Cl} {t : ByteArray} {a : List (ByteArray × ByteArray)} (h : AwardsOf (l.filter (ofThing t)) a) : a.length ≤ 1 ∧ ∀ x ∈ a, x.1 = t := by
  have h1 : ∀ x ∈ a, x.1 = t := by
    rintro ⟨s, n⟩ hx
    obtain ⟨c, w, _⟩ := (h.mem s n).1 hx
    have := (List.mem_filter.1 w.1).2
    simp [ofThing] at this
    rw [← w.2.1, this]
  refine ⟨?_, h1⟩
  match a, h, h1 with
  | [], _, _ => simp
  | [x], _, _ => simp
  | x :: y :: s, h, h1 =>
    obtain ⟨a1, _⟩ := List.pairwise_cons.1 h.sorted
    have e1 := h1 x List.mem_cons_self
    have e2 := h1 y (List.mem_cons_of_mem _ List.mem_cons_self)
    have := a1 y List.mem_cons_self
    rw [e1, e2] at this
    exact absurd this (List.lt_irrefl _)
theorem only_same {l : List Cl} {t n : ByteArray} {a b : List (ByteArray × ByteArray)} (ha : AwardsOf l a) (hb : AwardsOf (l.filter (ofThing t)) b) (hx : (t, n) ∈ a) : b = [(t, n)] := by
  obtain ⟨c, w, e⟩ := (ha.mem t n).1 hx
  have hin : (t, n) ∈ b := (hb.mem t n).2 ⟨c, (wins_only l t c).2 w, e⟩
  have hs := (only_short hb).1
  match b, hs, hin with
  | [x], _, hin => simp at hin; rw [hin]
end Go.Proofs.YtgbheogmccfaaaaGreat
