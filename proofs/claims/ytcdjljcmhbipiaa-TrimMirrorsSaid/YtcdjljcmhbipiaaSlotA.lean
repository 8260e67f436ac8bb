/- A slot as a map's key. -/
import Derived.Test.YtcdjljcmhbipiaaMapA
namespace Go.Proofs.Ytcdjljcmhbipiaa
open Go.RowKit Go.Maps

theorem slotKeyed : Keyed Try.prog 31 := Keyed.of_law (deep_law_gate (by kernel_rfl) (of_decide_eq_true (by kernel_rfl)) (of_decide_eq_true (by kernel_rfl)) (by kernel_rfl) (by kernel_rfl))
/-- a slot's key -/
def slotLit (a b c : Int) : Lit := .string (keyBytes [.int .i64 a, .int .i64 b, .int .i64 c])
theorem slot_formed (a b c : Int) : (Value.agg #[.int .i64 a, .int .i64 b, .int .i64 c]).formed Try.prog 31 = true := by kernel_rfl
theorem slot_keyType : Try.prog.keyType 31 = true := by kernel_rfl
theorem slot_lits (a b c : Int) : Try.prog.keyLits (Try.prog.types.size + 1) 31 [.int .i64 a, .int .i64 b, .int .i64 c] =
    if (Lit.int .i64 a).wf = true ∧ (Lit.int .i64 b).wf = true ∧ (Lit.int .i64 c).wf = true then some [.int .i64 a, .int .i64 b, .int .i64 c] else none := by
  obtain ⟨m, hm⟩ : ∃ m, Try.prog.types.size = m + 1 := ⟨Try.prog.types.size - 1, by kernel_rfl⟩
  have e0 : Try.prog.cellsOf 31 = 3 := by kernel_rfl
  have e1 : Try.prog.cellsOf 3 = 1 := by kernel_rfl
  rw [hm]
  unfold Program.keyLits
  simp only [Try.underlying31, e0]
  unfold Program.keyLits
  simp [Try.underlying3, e1]
  by_cases h1 : (Lit.int .i64 a).wf = true <;> by_cases h2 : (Lit.int .i64 b).wf = true <;> by_cases h3 : (Lit.int .i64 c).wf = true <;> simp [h1, h2, h3]
theorem slot_keyOf {a b c : Int} (ha : (Lit.int .i64 a).wf = true) (hb : (Lit.int .i64 b).wf = true) (hc : (Lit.int .i64 c).wf = true) :
    keyOf Try.prog 31 (.agg #[.int .i64 a, .int .i64 b, .int .i64 c]) = some (slotLit a b c) := by
  unfold keyOf
  simp only [Try.underlying31, slot_formed, slot_keyType, Bool.and_true, if_true, Value.cells, slot_lits, ha, hb, hc, and_self]
  rfl

/-- an int that a machine's int holds -/
def I64 (n : Int) : Prop := -9223372036854775808 ≤ n ∧ n ≤ 9223372036854775807
theorem I64.wf {n : Int} (h : I64 n) : (Lit.int .i64 n).wf = true := WalkArith.wf_i64 h

/-- slots as keys -/
def slotKeys : Keying Try.prog 31 (Int × Int × Int) where
  kv x := .agg #[.int .i64 x.1, .int .i64 x.2.1, .int .i64 x.2.2]
  kl x := slotLit x.1 x.2.1 x.2.2
  good x := I64 x.1 ∧ I64 x.2.1 ∧ I64 x.2.2
  keyed := slotKeyed
  key x h := slot_keyOf h.1.wf h.2.1.wf h.2.2.wf
  inj x y hx hy e := by
    have h1 := slot_keyOf hx.1.wf hx.2.1.wf hx.2.2.wf
    have h2 := slot_keyOf hy.1.wf hy.2.1.wf hy.2.2.wf
    rw [← e] at h2
    have h3 := slotKeyed.inj h1 h2
    simp only [Value.agg.injEq] at h3
    obtain ⟨a, b, c⟩ := x
    obtain ⟨a', b', c'⟩ := y
    simp at h3
    simp [h3]
end Go.Proofs.Ytcdjljcmhbipiaa
