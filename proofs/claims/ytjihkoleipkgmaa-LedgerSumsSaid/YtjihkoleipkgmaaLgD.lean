/- What reads as a key of a ledger's accounts. -/
import Derived.Test.YtjihkoleipkgmaaLgM
namespace Go.Proofs.Ytjihkoleipkgmaa
set_option linter.unusedVariables false
set_option linter.unusedSimpArgs false
open Go.RowKit Go.Maps

theorem str_lits {m : Nat} {v : Value} {l : List Lit} (h : Try.prog.keyLits (m + 1) 9 [v] = some l) : ∃ b : ByteArray, v = .string b ∧ b.size ≤ maxLen := by
  unfold Program.keyLits at h
  simp only [Try.underlying9] at h
  cases v <;> simp at h
  rename_i b
  exact ⟨b, rfl, h.1⟩
theorem pair_lits {m : Nat} {a b : Value} {l : List Lit} (h : Try.prog.keyLits (m + 2) 68 [a, b] = some l) : ∃ x y : ByteArray, a = .string x ∧ b = .string y ∧ x.size ≤ maxLen ∧ y.size ≤ maxLen := by
  have e0 : Try.prog.cellsOf 68 = 2 := by kernel_rfl
  have e1 : Try.prog.cellsOf 9 = 1 := by kernel_rfl
  unfold Program.keyLits at h
  simp only [Try.underlying68, e0] at h
  cases ha : Try.prog.keyLits (m + 1) 9 [a] with
  | none => simp [e1, ha] at h
  | some l1 =>
    cases hb : Try.prog.keyLits (m + 1) 9 [b] with
    | none => simp [e1, ha, hb] at h
    | some l2 =>
      obtain ⟨x, rfl, hx⟩ := str_lits ha
      obtain ⟨y, rfl, hy⟩ := str_lits hb
      exact ⟨x, y, rfl, rfl, hx, hy⟩
set_option maxRecDepth 20000 in
theorem key_inv {key : Value} {kl : Lit} (h : keyOf Try.prog 68 key = some kl) : ∃ x : ByteArray × ByteArray, keyKeys.good x ∧ key = keyKeys.kv x := by
  unfold keyOf at h
  simp only [Try.underlying68] at h
  split at h
  · rename_i hf
    rw [Bool.and_eq_true] at hf
    obtain ⟨m, hm⟩ : ∃ m, Try.prog.types.size = m + 1 := ⟨Try.prog.types.size - 1, by kernel_rfl⟩
    have e0 : Try.prog.cellsOf 68 = 2 := by kernel_rfl
    rw [hm] at h
    obtain ⟨l, hl, _⟩ := Option.map_eq_some_iff.1 h
    have hf2 := hf.2
    cases key
    case agg cs =>
      simp [Value.formed, Try.underlying68, e0] at hf2
      obtain ⟨ls⟩ := cs
      match ls, hf2, hl with
      | [a, b], _, hl =>
        obtain ⟨x, y, rfl, rfl, hx, hy⟩ := pair_lits hl
        exact ⟨(x, y), ⟨hx, hy⟩, rfl⟩
    all_goals
      simp [Value.formed, Try.underlying68] at hf2
  · cases h
end Go.Proofs.Ytjihkoleipkgmaa
