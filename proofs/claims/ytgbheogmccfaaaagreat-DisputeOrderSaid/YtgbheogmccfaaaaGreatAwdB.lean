/- Walks: Award's refusals; are awards, are sums the same? -/
import Derived.Test.YtgbheogmccfaaaaGreatAwdA
import Derived.Test.YtgbheogmccfaaaaGreatClD
import Derived.Test.YtgbheogmccfaaaaGreatShA
namespace Go.Proofs.YtgbheogmccfaaaaGreat
set_option linter.unusedVariables false
set_option linter.unusedSimpArgs false
open Go.RowKit Go.Maps

set_option maxHeartbeats 4000000 in
set_option maxRecDepth 100000 in
theorem Award_bad (l : List Cl) (A : Option Addr) (n c : Nat) (w : World) (hn : n = l.length) (hlen : n ≤ 100000) (ht : ∀ x ∈ l, Txt x) (hx : ListIn clR w w.heap.size A l) (hE : wrongC l ≠ 0) :
    Calls Tryz.prog 22 #[.slice A n c] w fun e w' => e = .returned (.tuple #[.slice none 0 0, .int .i64 (wrongC l)]) ∧ Below w.heap.size w w' := by
  have HA := hide (all_any l A n c w hn hlen hx ht)
  obtain ⟨k, hk⟩ : ∃ k, k = wrongC l := ⟨_, rfl⟩
  rw [← hk] at HA hE ⊢
  have q3 : (k == 0) = false := by simpa using hE
  have q4 : (k != 0) = true := by simpa using hE
  have q5 : decide (k = 0) = false := by simpa using hE
  clear hk hn hx ht hE
  go_enter Tryz.func22, Tryz.ntmps22
  go_wp2_with fail
  (with_reducible refine (unhide HA).mono ?_); rintro e w1 ⟨rfl, hb⟩
  have HB := hide hb
  clear hb
  go_wp2_with fail
  go_ret2
  exact ⟨rfl, unhide HB⟩

theorem aw_at {w : World} {B : Nat} {A : Option Addr} {xs : List (ByteArray × ByteArray)} (h : ListIn awR w B A xs) {i : Nat} {x : ByteArray × ByteArray} (hx : xs[i]? = some x) :
    ∃ b off, A = some ⟨b, off, none⟩ ∧ b < B ∧ w.cell? ⟨b, off + i * 2, none⟩ = some (.string x.1) ∧ w.cell? ⟨b, off + i * 2 + 1, none⟩ = some (.string x.2) := by
  obtain ⟨b, off, e, hb, hc⟩ := h.at hx
  exact ⟨b, off, e, hb, hc 0 _ rfl, hc 1 _ rfl⟩
theorem neqAw_self (x y : ByteArray) (w : World) : (binOp .neq 49 (.agg #[.string x, .string y]) (.agg #[.string x, .string y])).run Tryz.prog w = .ok (.bool false) w := by simp [go_sem]
set_option maxHeartbeats 4000000 in
set_option maxRecDepth 100000 in
theorem Awards_same (xs : List (ByteArray × ByteArray)) (A B : Option Addr) (n c d : Nat) (w : World) (hn : n = xs.length) (hlen : n ≤ 4096) (hx : ListIn awR w w.heap.size A xs) (hy : ListIn awR w w.heap.size B xs) :
    Calls Tryz.prog 23 #[.slice A n c, .slice B n d] w fun e w' => e = .returned (.bool true) ∧ Laid w w' := by
  have HN := hide hn; have HX := hide hx; have HY := hide hy
  clear hn hx hy
  go_enter Tryz.func23, Tryz.ntmps23
  go_wp2_with fail
  go_loopw [5] (fun i wr => ∃ k : Nat, k ≤ n ∧ i = .int .i64 k ∧ Laid w wr) (fun i _ => n - (intOf i).toNat)
  case atStart => exact ⟨0, by omega, rfl, Laid.refl _⟩
  case round =>
    obtain ⟨k, hk, rfl, hl⟩ := hrel
    obtain ⟨wo, rfl⟩ : ∃ wo : World, wo = wr := ⟨_, rfl⟩
    by_cases hlt : k < n
    · obtain ⟨x, hx⟩ : ∃ x, xs[k]? = some x := ⟨xs[k]'(by rw [← unhide HN]; exact hlt), List.getElem?_eq_getElem _⟩
      obtain ⟨b1, o1, rfl, hbb1, c1, c2⟩ := aw_at ((unhide HX).below hl.1) hx
      obtain ⟨b2, o2, rfl, hbb2, d1, d2⟩ := aw_at ((unhide HY).below hl.1) hx
      have HL := hide hl
      have i1 : (0 : Int) ≤ (k : Int) := by omega
      have i2 : (k : Int) < (n : Int) := by omega
      have hne := neqAw_self x.1 x.2
      clear hx hl
      go_wp2_with fail
      go_quiet (fail)
      go_wp2_with fail
      all_goals
        go_roundw
        case rel => exact ⟨k + 1, by omega, by go_num, (unhide HL).drewN _⟩
        case measure => simp [intOf]; omega
    · have HL := hide hl
      clear hl
      go_wp2_with fail
      go_ret
      exact ⟨rfl, unhide HL⟩

set_option maxHeartbeats 4000000 in
set_option maxRecDepth 100000 in
theorem RSame_same (xs : List Nat) (A B : Option Addr) (n c d : Nat) (w : World) (hn : n = xs.length) (hlen : n ≤ 4096) (hx : ListIn (numR .i64) w w.heap.size A xs) (hy : ListIn (numR .i64) w w.heap.size B xs) :
    Calls Tryz.prog 21 #[.slice A n c, .slice B n d] w fun e w' => e = .returned (.bool true) ∧ Laid w w' := by
  have HN := hide hn; have HX := hide hx; have HY := hide hy
  clear hn hx hy
  go_enter Tryz.func21, Tryz.ntmps21
  go_wp2_with fail
  go_loopw [5] (fun i wr => ∃ k : Nat, k ≤ n ∧ i = .int .i64 k ∧ Laid w wr) (fun i _ => n - (intOf i).toNat)
  case atStart => exact ⟨0, by omega, rfl, Laid.refl _⟩
  case round =>
    obtain ⟨k, hk, rfl, hl⟩ := hrel
    obtain ⟨wo, rfl⟩ : ∃ wo : World, wo = wr := ⟨_, rfl⟩
    by_cases hlt : k < n
    · obtain ⟨x, hx⟩ : ∃ x, xs[k]? = some x := ⟨xs[k]'(by rw [← unhide HN]; exact hlt), List.getElem?_eq_getElem _⟩
      obtain ⟨b1, o1, rfl, hbb1, c1⟩ := num_at ((unhide HX).below hl.1) hx
      obtain ⟨b2, o2, rfl, hbb2, d1⟩ := num_at ((unhide HY).below hl.1) hx
      have HL := hide hl
      have i1 : (0 : Int) ≤ (k : Int) := by omega
      have i2 : (k : Int) < (n : Int) := by omega
      clear hx hl
      go_wp2_with fail
      go_quiet (fail)
      go_wp2_with fail
      all_goals
        go_roundw
        case rel => exact ⟨k + 1, by omega, by go_num, (unhide HL).drewN _⟩
        case measure => simp [intOf]; omega
    · have HL := hide hl
      clear hl
      go_wp2_with fail
      go_ret
      exact ⟨rfl, unhide HL⟩
end Go.Proofs.YtgbheogmccfaaaaGreat
