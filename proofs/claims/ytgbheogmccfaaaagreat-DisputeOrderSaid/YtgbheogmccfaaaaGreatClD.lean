/- Walks: are claimants few; are they the same? -/
import Derived.Test.YtgbheogmccfaaaaGreatClC
namespace Go.Proofs.YtgbheogmccfaaaaGreat
set_option linter.unusedVariables false
set_option linter.unusedSimpArgs false
open Go.RowKit

/-- is a claimant's name, with its thing's, short? (as a machine's int adds them) -/
def longC (x : Cl) : Bool := decide ((100 : Int) < wrap64 ((x.name.size : Int) + (x.thing.size : Int)))
def fewC (xs : List Cl) : Bool := decide (xs.length ≤ 41) && !xs.any longC
def fewGo : Nat → List Cl → Bool
  | _, [] => true
  | k, x :: r => if (decide (40 < k) || longC x) = true then false else fewGo (k + 1) r
theorem fewGo_at (xs : List Cl) (k : Nat) (x : Cl) (hx : xs[k]? = some x) : fewGo k (xs.drop k) = if (decide (40 < k) || longC x) = true then false else fewGo (k + 1) (xs.drop (k + 1)) := by
  have hk : k < xs.length := (List.getElem?_eq_some_iff.1 hx).1
  rw [List.drop_eq_getElem_cons hk, (List.getElem?_eq_some_iff.1 hx).2, fewGo]
theorem few_len {xs : List Cl} (h : fewGo 0 xs = true) : xs.length ≤ 41 := by
  have : ∀ (l : List Cl) (k : Nat), fewGo k l = true → l = [] ∨ k + l.length ≤ 41 := by
    intro l
    induction l with
    | nil => intro k _; exact .inl rfl
    | cons x r ih =>
      intro k h
      rw [fewGo] at h
      split at h
      · cases h
      · rename_i hn
        simp at hn
        rcases ih (k + 1) h with e | e
        · subst e; right; simp; omega
        · right; simp; omega
  rcases this xs 0 h with e | e
  · subst e; simp
  · omega

set_option maxHeartbeats 4000000 in
set_option maxRecDepth 100000 in
theorem Few_any (xs : List Cl) (A : Option Addr) (n c : Nat) (w : World) (hn : n = xs.length) (hm : n ≤ maxLen) (hx : ListIn clR w w.heap.size A xs) :
    Calls Tryz.prog 11 #[.slice A n c] w fun e w' => e = .returned (.bool (fewGo 0 xs)) ∧ Laid w w' := by
  have HN := hide hn; have HX := hide hx
  obtain ⟨R, hR⟩ : ∃ r, r = fewGo 0 xs := ⟨_, rfl⟩
  rw [← hR]
  have HR := hide hR
  clear hn hx hR
  unfold maxLen at hm
  go_enter Tryz.func11, Tryz.ntmps11
  go_wp2_with fail
  go_loopw [3] (fun i wr => ∃ k : Nat, k ≤ n ∧ k ≤ 50 ∧ i = .int .i64 k ∧ Laid w wr ∧ Hid (R = fewGo k (xs.drop k))) (fun i _ => n - (intOf i).toNat)
  case atStart => exact ⟨0, by omega, by omega, rfl, Laid.refl _, hide (unhide HR)⟩
  case round =>
    obtain ⟨k, hk, hk5, rfl, hl, HI⟩ := hrel
    obtain ⟨wo, rfl⟩ : ∃ wo : World, wo = wr := ⟨_, rfl⟩
    by_cases hlt : k < n
    · obtain ⟨x, hx⟩ : ∃ x, xs[k]? = some x := ⟨xs[k]'(by rw [← unhide HN]; exact hlt), List.getElem?_eq_getElem _⟩
      obtain ⟨b, off, rfl, hbb, c0, c1, _, _, _⟩ := cl_at ((unhide HX).below hl.1) hx
      have hst := fewGo_at xs k x hx
      rw [← unhide HI] at hst
      have i1 : (0 : Int) ≤ (k : Int) := by omega
      have i2 : (k : Int) < (n : Int) := by omega
      have HL := hide hl
      clear hx hl
      by_cases h40 : 40 < k
      · have t0 : decide ((40 : Int) < (k : Int)) = true := by rw [decide_eq_true_eq]; omega
        have hR0 : R = false := by rw [hst]; simp [h40]
        have HE := hide hR0
        clear hst hR0 h40
        go_wp2_with fail
        go_quiet (fail)
        go_wp2_with fail
        all_goals (go_ret; exact ⟨ret_bool (unhide HE).symm, (unhide HL).drewN _⟩)
      · have t0 : decide ((40 : Int) < (k : Int)) = false := by rw [decide_eq_false_iff_not]; omega
        have e40 : decide (40 < k) = false := by rw [decide_eq_false_iff_not]; exact h40
        rw [e40, Bool.false_or] at hst
        cases hw : longC x
        · rw [hw, if_neg (by simp)] at hst
          have HS := hide hst
          clear hst e40
          unfold longC at hw
          go_wp2_with fail
          go_quiet (fail)
          go_wp2_with fail
          all_goals
            go_roundw
            case rel => exact ⟨k + 1, by omega, by omega, by go_num, (unhide HL).drewN _, hide (unhide HS)⟩
            case measure => simp [intOf]; omega
        · rw [hw, if_pos rfl] at hst
          have HS := hide hst
          clear hst e40
          unfold longC at hw
          go_wp2_with fail
          go_quiet (fail)
          go_wp2_with fail
          all_goals (go_ret; exact ⟨ret_bool (unhide HS).symm, (unhide HL).drewN _⟩)
    · have hend : R = true := by rw [unhide HI, List.drop_eq_nil_of_le (by rw [← unhide HN]; omega)]; rfl
      have HE := hide hend
      have HL := hide hl
      clear hend hl
      go_wp2_with fail
      go_ret
      exact ⟨ret_bool (unhide HE).symm, unhide HL⟩

theorem neq_self (x : Cl) (w : World) : (binOp .neq 23 x.val x.val).run Tryz.prog w = .ok (.bool false) w := by simp [go_sem]
set_option maxHeartbeats 4000000 in
set_option maxRecDepth 100000 in
theorem Same_same (xs : List Cl) (A B : Option Addr) (n c d : Nat) (w : World) (hn : n = xs.length) (hlen : n ≤ 4096) (hx : ListIn clR w w.heap.size A xs) (hy : ListIn clR w w.heap.size B xs) :
    Calls Tryz.prog 15 #[.slice A n c, .slice B n d] w fun e w' => e = .returned (.bool true) ∧ Laid w w' := by
  have HN := hide hn; have HX := hide hx; have HY := hide hy
  clear hn hx hy
  go_enter Tryz.func15, Tryz.ntmps15
  go_wp2_with fail
  go_loopw [5] (fun i wr => ∃ k : Nat, k ≤ n ∧ i = .int .i64 k ∧ Laid w wr) (fun i _ => n - (intOf i).toNat)
  case atStart => exact ⟨0, by omega, rfl, Laid.refl _⟩
  case round =>
    obtain ⟨k, hk, rfl, hl⟩ := hrel
    obtain ⟨wo, rfl⟩ : ∃ wo : World, wo = wr := ⟨_, rfl⟩
    by_cases hlt : k < n
    · obtain ⟨x, hx⟩ : ∃ x, xs[k]? = some x := ⟨xs[k]'(by rw [← unhide HN]; exact hlt), List.getElem?_eq_getElem _⟩
      obtain ⟨b1, o1, rfl, hbb1, c1, c2, c3, c4, c5⟩ := cl_at ((unhide HX).below hl.1) hx
      obtain ⟨b2, o2, rfl, hbb2, d1, d2, d3, d4, d5⟩ := cl_at ((unhide HY).below hl.1) hx
      have HL := hide hl
      have i1 : (0 : Int) ≤ (k : Int) := by omega
      have i2 : (k : Int) < (n : Int) := by omega
      have hne := neq_self x
      clear hx hl
      go_wp2_with fail
      go_quiet (fail)
      go_wp2_with fail
      all_goals
        go_roundw
        case rel => exact ⟨k + 1, by omega, by go_num, (unhide HL).drewN _⟩
        case measure => simp [intOf]; omega
    · have HL := hide hl
      clear hl
      go_wp2_with fail
      go_ret
      exact ⟨rfl, unhide HL⟩
end Go.Proofs.YtgbheogmccfaaaaGreat
