/- Walks: the grounds, the first that tells two apart, who is better. -/
import Derived.Test.YtgbheogmccfaaaaGreatClA
import Derived.Shelf.Abstract
import Derived.Laws.EntriesVeiled
namespace Go.Proofs.YtgbheogmccfaaaaGreat
set_option linter.unusedVariables false
set_option linter.unusedSimpArgs false
open Go.RowKit

section
set_option maxHeartbeats 1000000
theorem g1_any (a b : Cl) (w : World) : Calls Tryz.prog 54 #[a.val, b.val] w fun e w' => e = .returned (.int .i64 (cmpI a.right b.right)) ∧ Laid w w' := by
  go_enter Tryz.func54, Tryz.ntmps54
  go_wp2_with (go_at_call 48; refine (cmpInt_any _ _ _).mono ?_; rintro e w' ⟨rfl, rfl⟩)
  go_ret
  exact ⟨rfl, ((Laid.refl _).alloc _).alloc _⟩
theorem g2_any (a b : Cl) (w : World) : Calls Tryz.prog 55 #[a.val, b.val] w fun e w' => e = .returned (.int .i64 (cmpI a.day b.day)) ∧ Laid w w' := by
  go_enter Tryz.func55, Tryz.ntmps55
  go_wp2_with (go_at_call 48; refine (cmpInt_any _ _ _).mono ?_; rintro e w' ⟨rfl, rfl⟩)
  go_ret
  exact ⟨rfl, ((Laid.refl _).alloc _).alloc _⟩
theorem g3_any (a b : Cl) (w : World) : Calls Tryz.prog 56 #[a.val, b.val] w fun e w' => e = .returned (.int .i64 (cmpS a.name b.name)) ∧ Laid w w' := by
  go_enter Tryz.func56, Tryz.ntmps56
  go_wp2_with (go_at_call 57; refine (cmpStr_any _ _ _).mono ?_; rintro e w' ⟨rfl, rfl⟩)
  go_ret
  exact ⟨rfl, ((Laid.refl _).alloc _).alloc _⟩
theorem g4_any (a b : Cl) (w : World) : Calls Tryz.prog 58 #[a.val, b.val] w fun e w' => e = .returned (.int .i64 (cmpI b.amount a.amount)) ∧ Laid w w' := by
  go_enter Tryz.func58, Tryz.ntmps58
  go_wp2_with (go_at_call 59; refine (cmpInt64_any _ _ _).mono ?_; rintro e w' ⟨rfl, rfl⟩)
  go_ret
  exact ⟨rfl, ((Laid.refl _).alloc _).alloc _⟩
theorem g5_any (a b : Cl) (w : World) : Calls Tryz.prog 60 #[a.val, b.val] w fun e w' => e = .returned (.int .i64 (cmpS a.thing b.thing)) ∧ Laid w w' := by
  go_enter Tryz.func60, Tryz.ntmps60
  go_wp2_with (go_at_call 57; refine (cmpStr_any _ _ _).mono ?_; rintro e w' ⟨rfl, rfl⟩)
  go_ret
  exact ⟨rfl, ((Laid.refl _).alloc _).alloc _⟩
end

abbrev txRight : ByteArray := ⟨#[114, 105, 103, 104, 116]⟩
abbrev txDay : ByteArray := ⟨#[100, 97, 121]⟩
abbrev txName : ByteArray := ⟨#[110, 97, 109, 101]⟩
abbrev txAmount : ByteArray := ⟨#[97, 109, 111, 117, 110, 116]⟩
abbrev txThing : ByteArray := ⟨#[116, 104, 105, 110, 103]⟩
abbrev txSame : ByteArray := ⟨#[115, 97, 109, 101]⟩
/-- what two are told apart by, ground by ground -/
def gsL (a b : Cl) : List (ByteArray × Int) := [(txRight, cmpI a.right b.right), (txDay, cmpI a.day b.day), (txName, cmpS a.name b.name), (txAmount, cmpI b.amount a.amount), (txThing, cmpS a.thing b.thing)]
def firstOf : List (ByteArray × Int) → ByteArray × Int
  | [] => (txSame, 0)
  | (s, n) :: r => if n = 0 then firstOf r else (s, n)
theorem firstOf_at (gs : List (ByteArray × Int)) (k : Nat) (s : ByteArray) (n : Int) (h : gs[k]? = some (s, n)) : firstOf (gs.drop k) = if n = 0 then firstOf (gs.drop (k + 1)) else (s, n) := by
  have hk : k < gs.length := (List.getElem?_eq_some_iff.1 h).1
  rw [List.drop_eq_getElem_cons hk, (List.getElem?_eq_some_iff.1 h).2, firstOf]
def whyC (a b : Cl) : ByteArray := (firstOf (gsL a b)).1
theorem firstOf_cmp (a b : Cl) : firstOf (gsL a b) = (whyC a b, clCmp a b) := by
  have : (firstOf (gsL a b)).2 = clCmp a b := by
    unfold gsL clCmp orI
    simp only [firstOf]
    split <;> (try rfl)
    split <;> (try rfl)
    split <;> (try rfl)
    split <;> (try rfl)
    split
    · rename_i h; exact h.symm
    · rfl
  rw [← this]; rfl
/-- the cells that the grounds lie in -/
def groundCells : List Value := [.string txRight, .func (.func 54) #[] #[], .string txDay, .func (.func 55) #[] #[], .string txName, .func (.func 56) #[] #[], .string txAmount, .func (.func 58) #[] #[], .string txThing, .func (.func 60) #[] #[]]
set_option maxHeartbeats 1000000 in
theorem grounds_any (w : World) : Calls Tryz.prog 35 #[] w fun e w' => e = .returned (.slice (some ⟨w.heap.size, 0, none⟩) 5 5) ∧ w' = w.alloc (.cells groundCells.toArray 72) := by
  go_enter Tryz.func35, Tryz.ntmps35
  go_wp2
  go_ret
  exact ⟨rfl, rfl⟩
/-- each ground, as the loop meets it -/
theorem ground_at (a b : Cl) (k : Nat) (s : ByteArray) (n : Int) (h : (gsL a b)[k]? = some (s, n)) : ∃ fn, groundCells[k * 2]? = some (.string s) ∧ groundCells[k * 2 + 1]? = some (.func (.func fn) #[] #[]) ∧ (∀ args W, (callFunc fn args).run Tryz.prog W = .ok (.enter fn args) W) ∧
    ∀ W, Calls Tryz.prog fn #[a.val, b.val] W fun e W' => e = .returned (.int .i64 n) ∧ Laid W W' := by
  match k, h with
  | 0, h => simp [gsL] at h; obtain ⟨rfl, rfl⟩ := h; exact ⟨_, rfl, rfl, fun args W => enters_of Tryz.func54 (by kernel_rfl) rfl _ _, fun W => g1_any a b W⟩
  | 1, h => simp [gsL] at h; obtain ⟨rfl, rfl⟩ := h; exact ⟨_, rfl, rfl, fun args W => enters_of Tryz.func55 (by kernel_rfl) rfl _ _, fun W => g2_any a b W⟩
  | 2, h => simp [gsL] at h; obtain ⟨rfl, rfl⟩ := h; exact ⟨_, rfl, rfl, fun args W => enters_of Tryz.func56 (by kernel_rfl) rfl _ _, fun W => g3_any a b W⟩
  | 3, h => simp [gsL] at h; obtain ⟨rfl, rfl⟩ := h; exact ⟨_, rfl, rfl, fun args W => enters_of Tryz.func58 (by kernel_rfl) rfl _ _, fun W => g4_any a b W⟩
  | 4, h => simp [gsL] at h; obtain ⟨rfl, rfl⟩ := h; exact ⟨_, rfl, rfl, fun args W => enters_of Tryz.func60 (by kernel_rfl) rfl _ _, fun W => g5_any a b W⟩
  | k + 5, h => simp [gsL] at h

set_option maxHeartbeats 4000000 in
set_option maxRecDepth 100000 in
theorem first_any (a b : Cl) (w : World) : Calls Tryz.prog 25 #[a.val, b.val] w fun e w' => e = .returned (.tuple #[.string (whyC a b), .int .i64 (clCmp a b)]) ∧ Laid w w' := by
  have HG := hide (fun k s n h => ground_at a b k s n h)
  have hlen : (gsL a b).length = 5 := rfl
  have HN := hide hlen
  have hfo := firstOf_cmp a b
  generalize whyC a b = wy at *
  generalize clCmp a b = cc at *
  have hk2 := Whole.made w 23 #[.string a.name, .string a.thing, .int .i64 a.right, .int .i64 a.day, .int .i64 a.amount]
  have hk3 := Whole.made_at (w.alloc (.cells #[.string a.name, .string a.thing, .int .i64 a.right, .int .i64 a.day, .int .i64 a.amount] 23)) 23 #[.string b.name, .string b.thing, .int .i64 b.right, .int .i64 b.day, .int .i64 b.amount] (w.heap.size + 1) (by simp)
  have hl0 := ((Laid.refl w).alloc (.cells #[.string a.name, .string a.thing, .int .i64 a.right, .int .i64 a.day, .int .i64 a.amount] 23)).alloc (.cells #[.string b.name, .string b.thing, .int .i64 b.right, .int .i64 b.day, .int .i64 b.amount] 23)
  have K2 := hide (hk2.alloc (.cells #[.string b.name, .string b.thing, .int .i64 b.right, .int .i64 b.day, .int .i64 b.amount] 23)); have K3 := hide hk3; have L0 := hide hl0
  have HF := hide hfo
  obtain ⟨av, hav⟩ : ∃ v, v = a.val := ⟨_, rfl⟩
  obtain ⟨bv, hbv⟩ : ∃ v, v = b.val := ⟨_, rfl⟩
  have HAV := hide hav; have HBV := hide hbv
  clear hk2 hk3 hl0 hfo hlen hav hbv
  go_enter Tryz.func25, Tryz.ntmps25
  go_wp2_with fail
  (with_reducible refine (grounds_any _).mono ?_); rintro e w1 ⟨rfl, hw1⟩
  have k2 := (unhide K2).alloc (.cells groundCells.toArray 72)
  have k3 := (unhide K3).alloc (.cells groundCells.toArray 72)
  have k4 := Whole.made_at ((w.alloc (.cells #[.string a.name, .string a.thing, .int .i64 a.right, .int .i64 a.day, .int .i64 a.amount] 23)).alloc (.cells #[.string b.name, .string b.thing, .int .i64 b.right, .int .i64 b.day, .int .i64 b.amount] 23)) 72 groundCells.toArray (w.heap.size + 1 + 1) (by simp)
  have l1 := (unhide L0).alloc (.cells groundCells.toArray 72)
  rw [← hw1] at k2 k3 k4 l1
  have S := hide (And.intro k2 (And.intro k3 (And.intro k4 l1)))
  clear k2 k3 k4 l1 hw1 K2 K3 L0
  go_wp2_with fail
  go_loopw [7, 8, 11] (fun _ _ i wr => ∃ k : Nat, k ≤ 5 ∧ i = .int .i64 k ∧ Whole wr w.heap.size 23 #[.string a.name, .string a.thing, .int .i64 a.right, .int .i64 a.day, .int .i64 a.amount] ∧ Whole wr (w.heap.size + 1) 23 #[.string b.name, .string b.thing, .int .i64 b.right, .int .i64 b.day, .int .i64 b.amount] ∧
      Whole wr (w.heap.size + 1 + 1) 72 groundCells.toArray ∧ Laid w wr ∧ Hid (firstOf ((gsL a b).drop k) = (wy, cc))) (fun _ _ i _ => 5 - (intOf i).toNat)
  case atStart => exact ⟨0, by omega, rfl, (unhide S).1, (unhide S).2.1, (unhide S).2.2.1, (unhide S).2.2.2, hide (unhide HF)⟩
  case round =>
    obtain ⟨k, hk, rfl, h2, h3, h4, hl, HI⟩ := hrel
    obtain ⟨wo, rfl⟩ : ∃ wo : World, wo = wr := ⟨_, rfl⟩
    by_cases hlt : k < 5
    · obtain ⟨⟨s, n⟩, hx⟩ : ∃ x, (gsL a b)[k]? = some x := ⟨(gsL a b)[k]'(by rw [unhide HN]; exact hlt), List.getElem?_eq_getElem _⟩
      obtain ⟨fn, q1, q2, hent, hcall⟩ := unhide HG k s n hx
      have hst := firstOf_at _ k s n hx
      rw [unhide HI] at hst
      have c1 : wo.cell? ⟨w.heap.size + 1 + 1, k * 2, none⟩ = some (.string s) := by rw [h4.cells]; simpa using q1
      have c2 : wo.cell? ⟨w.heap.size + 1 + 1, k * 2 + 1, none⟩ = some (.func (.func fn) #[] #[]) := by rw [h4.cells]; simpa using q2
      have hz2 := h2.lt; have hz3 := h3.lt
      have a2 := h2.alloc (.cells #[.string s, .func (.func fn) #[] #[]] 72)
      have a3 := h3.alloc (.cells #[.string s, .func (.func fn) #[] #[]] 72)
      have a4 := h4.alloc (.cells #[.string s, .func (.func fn) #[] #[]] 72)
      have al := hl.alloc (.cells #[.string s, .func (.func fn) #[] #[]] 72)
      have a5 := Whole.made wo 72 #[.string s, .func (.func fn) #[] #[]]
      have e2 := h2.cells; have e3 := h3.cells
      have HS := hide hst; have HC := hide hcall
      have H2 := hide (And.intro a2 (And.intro a3 (And.intro a4 (And.intro al a5))))
      clear hst hcall q1 q2 hx a2 a3 a4 al a5 h2 h3 h4 hl
      go_wp2_with fail
      (with_reducible refine (unhide HC _).mono ?_); rintro e w3 ⟨rfl, hl3⟩
      obtain ⟨a2, a3, a4, al, a5⟩ := unhide H2
      have c5 := (a5.after hl3.1).cells
      have H3 := hide (And.intro (a2.after hl3.1) (And.intro (a3.after hl3.1) (And.intro (a4.after hl3.1) (al.trans hl3))))
      clear a2 a3 a4 al a5 hl3 e2 e3 c1 c2 H2
      by_cases hn : n = 0
      · subst hn
        go_wp2_with fail
        go_roundw
        case rel => exact ⟨k + 1, by omega, by go_num, (unhide H3).1, (unhide H3).2.1, (unhide H3).2.2.1, (unhide H3).2.2.2, hide (by have := unhide HS; simpa using this.symm)⟩
        case measure => simp [intOf]; omega
      · have hs := unhide HS
        rw [if_neg hn] at hs
        have t1 : (n != 0) = true := by simpa using hn
        obtain ⟨h1, h2⟩ := Prod.mk.inj hs
        subst h1 h2
        go_wp2_with fail
        go_ret2
        exact ⟨rfl, (unhide H3).2.2.2⟩
    · have hend : (gsL a b).drop k = [] := List.drop_eq_nil_of_le (by rw [unhide HN]; omega)
      have hf := unhide HI
      rw [hend, firstOf] at hf
      obtain ⟨h1, h2⟩ := Prod.mk.inj hf
      subst h1 h2
      have HL := hide hl
      clear h2 h3 h4 hl hend
      go_wp2_with fail
      go_ret2
      exact ⟨rfl, unhide HL⟩

section
set_option maxHeartbeats 2000000
theorem Better_any (a b : Cl) (w : World) : Calls Tryz.prog 13 #[a.val, b.val] w fun e w' => e = .returned (.int .i64 (- clCmp a b)) ∧ Laid w w' := by
  have H := hide (fun W => first_any a b W)
  have hbd := clCmp_bd a b
  generalize clCmp a b = cc at *
  have hneg : IntKind.i64.wrap (-cc) = -cc := IntWalk.i64_in _ (by omega)
  have hneg2 : IntKind.i64.wrap (0 - cc) = -cc := by rw [Int.zero_sub]; exact hneg
  clear hbd
  go_enter Tryz.func13, Tryz.ntmps13
  go_wp2_with fail
  (with_reducible refine (unhide H _).mono ?_); rintro e w1 ⟨rfl, hl⟩
  have HL := hide (((Laid.refl _).alloc _ |>.alloc _).trans hl)
  clear hl
  go_wp2_with fail
  go_ret
  exact ⟨rfl, unhide HL⟩
theorem Why_any (a b : Cl) (w : World) : Calls Tryz.prog 14 #[a.val, b.val] w fun e w' => e = .returned (.string (whyC a b)) ∧ Laid w w' := by
  have H := hide (fun W => first_any a b W)
  generalize clCmp a b = cc at *
  generalize whyC a b = wy at *
  go_enter Tryz.func14, Tryz.ntmps14
  go_wp2_with fail
  (with_reducible refine (unhide H _).mono ?_); rintro e w1 ⟨rfl, hl⟩
  have HL := hide (((Laid.refl _).alloc _ |>.alloc _).trans hl)
  clear hl
  go_wp2_with fail
  go_ret
  exact ⟨rfl, unhide HL⟩
theorem Rank1_any (a b : Cl) (w : World) : Calls Tryz.prog 28 #[a.val, b.val] w fun e w' => e = .returned (.int .i64 (clCmp a b)) ∧ Laid w w' := by
  have H := hide (fun W => Better_any b a W)
  rw [clCmp_swap a b, Int.neg_neg] at H
  generalize clCmp a b = cc at *
  go_enter Tryz.func28, Tryz.ntmps28
  go_wp2_with fail
  (with_reducible refine (unhide H _).mono ?_); rintro e w1 ⟨rfl, hl⟩
  have HL := hide (((Laid.refl _).alloc _ |>.alloc _).trans hl)
  clear hl
  go_wp2_with fail
  go_ret
  exact ⟨rfl, unhide HL⟩
end
end Go.Proofs.YtgbheogmccfaaaaGreat
