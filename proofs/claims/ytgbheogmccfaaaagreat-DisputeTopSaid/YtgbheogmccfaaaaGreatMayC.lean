/- Walks: may a claimant be? -/
import Derived.Test.YtgbheogmccfaaaaGreatNmA
import Derived.Test.YtgbheogmccfaaaaGreatClD
namespace Go.Proofs.YtgbheogmccfaaaaGreat
set_option linter.unusedVariables false
set_option linter.unusedSimpArgs false
open Go.RowKit

def mayC (x : Cl) : Bool := okName x.name && okName x.thing && decide (0 ≤ x.right) && decide (x.right ≤ 4) && decide (0 ≤ x.day) && decide (x.day ≤ 1048576) && decide (0 ≤ x.amount) && decide (x.amount ≤ 1099511627776)
/-- its texts are no longer than any text is -/
def Txt (x : Cl) : Prop := x.name.size ≤ maxLen ∧ x.thing.size ≤ maxLen
theorem mayC_true {x : Cl} (h : mayC x = true) : 0 ≤ x.right ∧ x.right ≤ 4 ∧ 0 ≤ x.amount ∧ x.amount ≤ 1099511627776 := by
  unfold mayC at h
  simp at h
  omega

set_option maxHeartbeats 4000000 in
theorem RMay_any (x : Cl) (w : World) (hs : Txt x) : Calls Tryz.prog 31 #[x.val] w fun e w' => e = .returned (.bool (mayC x)) ∧ Laid w w' := by
  obtain ⟨h1, h2⟩ := hs
  have N1 := hide (fun W => Name_any x.name W h1)
  have N2 := hide (fun W => Name_any x.thing W h2)
  have hm : mayC x = (okName x.name && okName x.thing && decide (0 ≤ x.right) && decide (x.right ≤ 4) && decide (0 ≤ x.day) && decide (x.day ≤ 1048576) && decide (0 ≤ x.amount) && decide (x.amount ≤ 1099511627776)) := rfl
  rw [hm]
  clear hm h1 h2
  obtain ⟨nm, th, r, d, a⟩ := x
  dsimp only at *
  generalize okName nm = b1 at *
  generalize okName th = b2 at *
  have HL := hide (fun o => (Laid.refl w).alloc o)
  go_enter Tryz.func31, Tryz.ntmps31
  cases b1 <;> cases b2 <;> go_wp2_with (first | (go_at_call 49; (with_reducible refine (unhide N1 _).mono ?_); rintro e w' ⟨rfl, rfl⟩) | (go_at_call 49; (with_reducible refine (unhide N2 _).mono ?_); rintro e w' ⟨rfl, rfl⟩))
  all_goals (go_ret; refine ⟨ret_bool ?_, unhide HL _⟩; rw [Bool.eq_iff_iff]; first | (simp; done) | (simp; omega) | (simp_all; done) | (simp_all; omega))
set_option maxHeartbeats 4000000 in
theorem may_any (x : Cl) (w : World) (hs : Txt x) : Calls Tryz.prog 40 #[x.val] w fun e w' => e = .returned (.bool (mayC x)) ∧ Laid w w' := by
  obtain ⟨h1, h2⟩ := hs
  have N1 := hide (fun W => markName_any x.name W h1)
  have N2 := hide (fun W => markName_any x.thing W h2)
  have hm : mayC x = (okName x.name && okName x.thing && decide (0 ≤ x.right) && decide (x.right ≤ 4) && decide (0 ≤ x.day) && decide (x.day ≤ 1048576) && decide (0 ≤ x.amount) && decide (x.amount ≤ 1099511627776)) := rfl
  rw [hm]
  clear hm h1 h2
  obtain ⟨nm, th, r, d, a⟩ := x
  dsimp only at *
  generalize okName nm = b1 at *
  generalize okName th = b2 at *
  have HL := hide (fun o => (Laid.refl w).alloc o)
  go_enter Tryz.func40, Tryz.ntmps40
  cases b1 <;> cases b2 <;> go_wp2_with (first | (go_at_call 72; (with_reducible refine (unhide N1 _).mono ?_); rintro e w' ⟨rfl, rfl⟩) | (go_at_call 72; (with_reducible refine (unhide N2 _).mono ?_); rintro e w' ⟨rfl, rfl⟩))
  all_goals (go_ret; refine ⟨ret_bool ?_, unhide HL _⟩; rw [Bool.eq_iff_iff]; first | (simp; done) | (simp; omega) | (simp_all; done) | (simp_all; omega))
theorem all1_any (x : Cl) (w : World) (hs : Txt x) : Calls Tryz.prog 39 #[x.val] w fun e w' => e = .returned (.bool (!mayC x)) ∧ Laid w w' := by
  have H := hide (fun W => may_any x W hs)
  clear hs
  generalize mayC x = b at *
  obtain ⟨nm, th, r, d, a⟩ := x
  go_enter Tryz.func39, Tryz.ntmps39
  go_wp2_with fail
  (with_reducible refine (unhide H _).mono ?_); rintro e w1 ⟨rfl, hl⟩
  have HL := hide (((Laid.refl _).alloc _).trans hl)
  clear hl
  go_wp2_with fail
  go_ret
  exact ⟨rfl, unhide HL⟩
end Go.Proofs.YtgbheogmccfaaaaGreat
