/- Walks: the same entries are the same. -/
import Derived.Test.YtjihkoleipkgmaaLgV
import Derived.Deep.QuietTactic
import Derived.BigQuiet
namespace Go.Proofs.Ytjihkoleipkgmaa
set_option linter.unusedVariables false
set_option linter.unusedSimpArgs false
open Go.RowKit Go.Maps

theorem below_drewN {B : Nat} {w w' : World} (h : Below B w w') (n : Nat) : Below B w (w'.drewN n) := ⟨h.os, h.tape, h.output, h.size, h.block⟩
set_option maxHeartbeats 4000000 in
set_option maxRecDepth 100000 in
theorem Same_same (xs : List En) (A B : Option Addr) (n c d : Nat) (w : World) (hn : n = xs.length) (hlen : n ≤ 100000) (hx : ListIn enR w w.heap.size A xs) (hy : ListIn enR w w.heap.size B xs) :
    Calls Try.prog 45 #[.slice A n c, .slice B n d] w fun e w' => e = .returned (.bool true) ∧ Below w.heap.size w w' := by
  have HN := hide hn; have HX := hide hx; have HY := hide hy
  clear hn hx hy
  go_enter Try.func45, Try.ntmps45
  go_wp2_with fail
  go_loopw [5] (fun i wr => ∃ k : Nat, k ≤ n ∧ i = .int .i64 k ∧ Below w.heap.size w wr) (fun i _ => n - (intOf i).toNat)
  case atStart => exact ⟨0, by omega, rfl, Below.refl _ _⟩
  case round =>
    obtain ⟨k, hk, rfl, hl⟩ := hrel
    obtain ⟨wo, rfl⟩ : ∃ wo : World, wo = wr := ⟨_, rfl⟩
    by_cases hlt : k < n
    · obtain ⟨x, hx⟩ : ∃ x, xs[k]? = some x := ⟨xs[k]'(by rw [← unhide HN]; exact hlt), List.getElem?_eq_getElem _⟩
      obtain ⟨b1, o1, rfl, hbb1, c1, c2, c3⟩ := en_at ((unhide HX).below hl) hx
      obtain ⟨b2, o2, rfl, hbb2, d1, d2, d3⟩ := en_at ((unhide HY).below hl) hx
      have HL := hide hl
      have i1 : (0 : Int) ≤ (k : Int) := by omega
      have i2 : (k : Int) < (n : Int) := by omega
      clear hx hl
      go_wp2_with fail
      go_quiet (fail)
      go_wp2_with fail
      all_goals
        go_roundw
        case rel => exact ⟨k + 1, by omega, by go_num, below_drewN (unhide HL) _⟩
        case measure => simp [intOf]; omega
    · have HL := hide hl
      clear hl
      go_wp2_with fail
      go_ret
      exact ⟨rfl, unhide HL⟩
end Go.Proofs.Ytjihkoleipkgmaa
