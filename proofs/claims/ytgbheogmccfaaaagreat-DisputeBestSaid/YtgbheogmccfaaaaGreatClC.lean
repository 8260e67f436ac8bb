/- Walks: the reference's Better, Few. -/
import Derived.Test.YtgbheogmccfaaaaGreatClB
import Derived.Sort.Walk0
namespace Go.Proofs.YtgbheogmccfaaaaGreat
set_option linter.unusedVariables false
set_option linter.unusedSimpArgs false
open Go.RowKit

theorem sign_any (b : Bool) (w : World) : Calls Tryz.prog 24 #[.bool b] w fun e w' => e = .returned (.int .i64 (if b = true then 1 else -1)) ∧ w = w' := by
  cases b
  all_goals
    go_enter Tryz.func24, Tryz.ntmps24
    go_wp2
    go_ret
    exact ⟨rfl, rfl⟩

theorem texts_ne (a b : ByteArray) : (a.toList == b.toList) = decide (a = b) := by
  rw [ByteArray.toList_eq, ByteArray.toList_eq, Bool.eq_iff_iff]
  simp only [beq_iff_eq, decide_eq_true_eq]
  exact ⟨fun h => tx_inj h, fun h => by rw [h]⟩
theorem texts_lt (a b : ByteArray) : Op.bytesLess a.toList b.toList = decide (tx a < tx b) := by
  rw [ByteArray.toList_eq, ByteArray.toList_eq, bytesLess_eq]
theorem ret_two {a b : Int} {s t : ByteArray} (h1 : a = b) (h2 : s = t) : Ending.returned (.tuple #[.int .i64 a, .string s]) = .returned (.tuple #[.int .i64 b, .string t]) := by rw [h1, h2]

/-- how two numbers stand to each other, in the walk's spelling -/
theorem int_tri (x y : Int) :
    ((x != y) = true ∧ decide (x < y) = true ∧ decide (y < x) = false ∧ (cmpI x y = -1 ∧ cmpI y x = 1)) ∨
    ((x != y) = true ∧ decide (x < y) = false ∧ decide (y < x) = true ∧ (cmpI x y = 1 ∧ cmpI y x = -1)) ∨
    ((x != y) = false ∧ decide (x < y) = false ∧ decide (y < x) = false ∧ (cmpI x y = 0 ∧ cmpI y x = 0)) := by
  unfold cmpI
  rcases Int.lt_trichotomy x y with h | h | h
  · refine .inl ⟨by simp; omega, by simpa using h, by simp; omega, ?_, ?_⟩
    · rw [if_pos h]
    · rw [if_neg (by omega), if_pos h]
  · subst h; exact .inr (.inr ⟨by simp, by simp, by simp, by simp, by simp⟩)
  · refine .inr (.inl ⟨by simp; omega, by simp; omega, by simpa using h, ?_, ?_⟩)
    · rw [if_neg (by omega), if_pos h]
    · rw [if_pos h]
theorem txt_tri (x y : ByteArray) :
    ((x.toList == y.toList) = false ∧ Op.bytesLess x.toList y.toList = true ∧ Op.bytesLess y.toList x.toList = false ∧ cmpS x y = -1) ∨
    ((x.toList == y.toList) = false ∧ Op.bytesLess x.toList y.toList = false ∧ Op.bytesLess y.toList x.toList = true ∧ cmpS x y = 1) ∨
    ((x.toList == y.toList) = true ∧ Op.bytesLess x.toList y.toList = false ∧ Op.bytesLess y.toList x.toList = false ∧ cmpS x y = 0) := by
  rw [texts_ne, texts_lt, texts_lt]
  unfold cmpS
  rcases lt_tri (tx x) (tx y) with ⟨h1, h2, h3⟩ | ⟨h0, h1, h2⟩ | ⟨h1, h2, h3⟩
  · refine .inl ⟨?_, by simpa using h1, by simpa using h2, if_pos h1⟩
    simp; intro e; exact h3 (by rw [e])
  · have := tx_inj h0
    subst this
    exact .inr (.inr ⟨by simp, by simp, by simp, by rw [if_neg h1, if_neg h1]⟩)
  · refine .inr (.inl ⟨?_, by simpa using h2, by simpa using h1, by rw [if_neg h2, if_pos h1]⟩)
    simp; intro e; exact h3 (by rw [e])

set_option maxHeartbeats 8000000 in
set_option maxRecDepth 100000 in
theorem RBetter_any (a b : Cl) (w : World) : Calls Tryz.prog 12 #[a.val, b.val] w fun e w' => e = .returned (.tuple #[.int .i64 (- clCmp a b), .string (whyC a b)]) ∧ Laid w w' := by
  have HS := hide (fun b W => sign_any b W)
  rcases int_tri a.right b.right with e_right | e_right | e_right
  · obtain ⟨q1_right, q2_right, q3_right, q4_right⟩ := e_right
    have v_right : cmpI a.right b.right = -1 := q4_right.1
    have hf : firstOf (gsL a b) = (txRight, -1) := by simp [gsL, firstOf, v_right]
    rw [firstOf_cmp] at hf
    obtain ⟨r1, r2⟩ := Prod.mk.inj hf
    rw [r1, r2]
    clear r1 r2 hf v_right
    go_enter Tryz.func12, Tryz.ntmps12
    go_wp2_with (go_at_call 24; (with_reducible refine (unhide HS _ _).mono ?_); rintro e w1 ⟨rfl, rfl⟩)
    go_ret2
    exact ⟨rfl, ((Laid.refl _).alloc _).alloc _⟩
  · obtain ⟨q1_right, q2_right, q3_right, q4_right⟩ := e_right
    have v_right : cmpI a.right b.right = 1 := q4_right.1
    have hf : firstOf (gsL a b) = (txRight, 1) := by simp [gsL, firstOf, v_right]
    rw [firstOf_cmp] at hf
    obtain ⟨r1, r2⟩ := Prod.mk.inj hf
    rw [r1, r2]
    clear r1 r2 hf v_right
    go_enter Tryz.func12, Tryz.ntmps12
    go_wp2_with (go_at_call 24; (with_reducible refine (unhide HS _ _).mono ?_); rintro e w1 ⟨rfl, rfl⟩)
    go_ret2
    exact ⟨rfl, ((Laid.refl _).alloc _).alloc _⟩
  · obtain ⟨q1_right, q2_right, q3_right, q4_right⟩ := e_right
    have v_right : cmpI a.right b.right = 0 := q4_right.1
    rcases int_tri a.day b.day with e_day | e_day | e_day
    · obtain ⟨q1_day, q2_day, q3_day, q4_day⟩ := e_day
      have v_day : cmpI a.day b.day = -1 := q4_day.1
      have hf : firstOf (gsL a b) = (txDay, -1) := by simp [gsL, firstOf, v_right, v_day]
      rw [firstOf_cmp] at hf
      obtain ⟨r1, r2⟩ := Prod.mk.inj hf
      rw [r1, r2]
      clear r1 r2 hf v_right v_day
      go_enter Tryz.func12, Tryz.ntmps12
      go_wp2_with (go_at_call 24; (with_reducible refine (unhide HS _ _).mono ?_); rintro e w1 ⟨rfl, rfl⟩)
      go_ret2
      exact ⟨rfl, ((Laid.refl _).alloc _).alloc _⟩
    · obtain ⟨q1_day, q2_day, q3_day, q4_day⟩ := e_day
      have v_day : cmpI a.day b.day = 1 := q4_day.1
      have hf : firstOf (gsL a b) = (txDay, 1) := by simp [gsL, firstOf, v_right, v_day]
      rw [firstOf_cmp] at hf
      obtain ⟨r1, r2⟩ := Prod.mk.inj hf
      rw [r1, r2]
      clear r1 r2 hf v_right v_day
      go_enter Tryz.func12, Tryz.ntmps12
      go_wp2_with (go_at_call 24; (with_reducible refine (unhide HS _ _).mono ?_); rintro e w1 ⟨rfl, rfl⟩)
      go_ret2
      exact ⟨rfl, ((Laid.refl _).alloc _).alloc _⟩
    · obtain ⟨q1_day, q2_day, q3_day, q4_day⟩ := e_day
      have v_day : cmpI a.day b.day = 0 := q4_day.1
      rcases txt_tri a.name b.name with e_name | e_name | e_name
      · obtain ⟨q1_name, q2_name, q3_name, q4_name⟩ := e_name
        have v_name : cmpS a.name b.name = -1 := q4_name
        have hf : firstOf (gsL a b) = (txName, -1) := by simp [gsL, firstOf, v_right, v_day, v_name]
        rw [firstOf_cmp] at hf
        obtain ⟨r1, r2⟩ := Prod.mk.inj hf
        rw [r1, r2]
        clear r1 r2 hf v_right v_day v_name
        go_enter Tryz.func12, Tryz.ntmps12
        go_wp2_with (go_at_call 24; (with_reducible refine (unhide HS _ _).mono ?_); rintro e w1 ⟨rfl, rfl⟩)
        go_ret2
        exact ⟨rfl, ((Laid.refl _).alloc _).alloc _⟩
      · obtain ⟨q1_name, q2_name, q3_name, q4_name⟩ := e_name
        have v_name : cmpS a.name b.name = 1 := q4_name
        have hf : firstOf (gsL a b) = (txName, 1) := by simp [gsL, firstOf, v_right, v_day, v_name]
        rw [firstOf_cmp] at hf
        obtain ⟨r1, r2⟩ := Prod.mk.inj hf
        rw [r1, r2]
        clear r1 r2 hf v_right v_day v_name
        go_enter Tryz.func12, Tryz.ntmps12
        go_wp2_with (go_at_call 24; (with_reducible refine (unhide HS _ _).mono ?_); rintro e w1 ⟨rfl, rfl⟩)
        go_ret2
        exact ⟨rfl, ((Laid.refl _).alloc _).alloc _⟩
      · obtain ⟨q1_name, q2_name, q3_name, q4_name⟩ := e_name
        have v_name : cmpS a.name b.name = 0 := q4_name
        rcases int_tri a.amount b.amount with e_amount | e_amount | e_amount
        · obtain ⟨q1_amount, q2_amount, q3_amount, q4_amount⟩ := e_amount
          have v_amount : cmpI b.amount a.amount = 1 := q4_amount.2
          have hf : firstOf (gsL a b) = (txAmount, 1) := by simp [gsL, firstOf, v_right, v_day, v_name, v_amount]
          rw [firstOf_cmp] at hf
          obtain ⟨r1, r2⟩ := Prod.mk.inj hf
          rw [r1, r2]
          clear r1 r2 hf v_right v_day v_name v_amount
          go_enter Tryz.func12, Tryz.ntmps12
          go_wp2_with (go_at_call 24; (with_reducible refine (unhide HS _ _).mono ?_); rintro e w1 ⟨rfl, rfl⟩)
          go_ret2
          exact ⟨rfl, ((Laid.refl _).alloc _).alloc _⟩
        · obtain ⟨q1_amount, q2_amount, q3_amount, q4_amount⟩ := e_amount
          have v_amount : cmpI b.amount a.amount = -1 := q4_amount.2
          have hf : firstOf (gsL a b) = (txAmount, -1) := by simp [gsL, firstOf, v_right, v_day, v_name, v_amount]
          rw [firstOf_cmp] at hf
          obtain ⟨r1, r2⟩ := Prod.mk.inj hf
          rw [r1, r2]
          clear r1 r2 hf v_right v_day v_name v_amount
          go_enter Tryz.func12, Tryz.ntmps12
          go_wp2_with (go_at_call 24; (with_reducible refine (unhide HS _ _).mono ?_); rintro e w1 ⟨rfl, rfl⟩)
          go_ret2
          exact ⟨rfl, ((Laid.refl _).alloc _).alloc _⟩
        · obtain ⟨q1_amount, q2_amount, q3_amount, q4_amount⟩ := e_amount
          have v_amount : cmpI b.amount a.amount = 0 := q4_amount.2
          rcases txt_tri a.thing b.thing with e_thing | e_thing | e_thing
          · obtain ⟨q1_thing, q2_thing, q3_thing, q4_thing⟩ := e_thing
            have v_thing : cmpS a.thing b.thing = -1 := q4_thing
            have hf : firstOf (gsL a b) = (txThing, -1) := by simp [gsL, firstOf, v_right, v_day, v_name, v_amount, v_thing]
            rw [firstOf_cmp] at hf
            obtain ⟨r1, r2⟩ := Prod.mk.inj hf
            rw [r1, r2]
            clear r1 r2 hf v_right v_day v_name v_amount v_thing
            go_enter Tryz.func12, Tryz.ntmps12
            go_wp2_with (go_at_call 24; (with_reducible refine (unhide HS _ _).mono ?_); rintro e w1 ⟨rfl, rfl⟩)
            go_ret2
            exact ⟨rfl, ((Laid.refl _).alloc _).alloc _⟩
          · obtain ⟨q1_thing, q2_thing, q3_thing, q4_thing⟩ := e_thing
            have v_thing : cmpS a.thing b.thing = 1 := q4_thing
            have hf : firstOf (gsL a b) = (txThing, 1) := by simp [gsL, firstOf, v_right, v_day, v_name, v_amount, v_thing]
            rw [firstOf_cmp] at hf
            obtain ⟨r1, r2⟩ := Prod.mk.inj hf
            rw [r1, r2]
            clear r1 r2 hf v_right v_day v_name v_amount v_thing
            go_enter Tryz.func12, Tryz.ntmps12
            go_wp2_with (go_at_call 24; (with_reducible refine (unhide HS _ _).mono ?_); rintro e w1 ⟨rfl, rfl⟩)
            go_ret2
            exact ⟨rfl, ((Laid.refl _).alloc _).alloc _⟩
          · obtain ⟨q1_thing, q2_thing, q3_thing, q4_thing⟩ := e_thing
            have v_thing : cmpS a.thing b.thing = 0 := q4_thing
            have hf : firstOf (gsL a b) = (txSame, 0) := by simp [gsL, firstOf, v_right, v_day, v_name, v_amount, v_thing]
            rw [firstOf_cmp] at hf
            obtain ⟨r1, r2⟩ := Prod.mk.inj hf
            rw [r1, r2]
            clear r1 r2 hf v_right v_day v_name v_amount v_thing
            go_enter Tryz.func12, Tryz.ntmps12
            go_wp2_with (go_at_call 24; (with_reducible refine (unhide HS _ _).mono ?_); rintro e w1 ⟨rfl, rfl⟩)
            go_ret2
            exact ⟨rfl, ((Laid.refl _).alloc _).alloc _⟩
end Go.Proofs.YtgbheogmccfaaaaGreat
