/- A row's code and origin as a map's key. -/
import Derived.Test.YtgalpdjmmpjddaaMapA
import Derived.Test.YtgalpdjmmpjddaaRNewA
namespace Go.Proofs.Ytgalpdjmmpjddaa
set_option linter.unusedVariables false
set_option linter.unusedSimpArgs false
open Go.RowKit Go.Maps

theorem rowKeyed : Keyed Try.prog 72 := Keyed.of_law (deep_law_gate (by kernel_rfl) (of_decide_eq_true (by kernel_rfl)) (of_decide_eq_true (by kernel_rfl)) (by kernel_rfl) (by kernel_rfl))
def rowLit (a b : ByteArray) : Lit := .string (keyBytes [.string a.data.toList, .string b.data.toList])
theorem row_formed (a b : ByteArray) : (Value.agg #[.string a, .string b]).formed Try.prog 72 = true := by kernel_rfl
theorem row_keyType : Try.prog.keyType 72 = true := by kernel_rfl
theorem row_lits (a b : ByteArray) : Try.prog.keyLits (Try.prog.types.size + 1) 72 [.string a, .string b] =
    if a.size ≤ maxLen ∧ b.size ≤ maxLen then some [.string a.data.toList, .string b.data.toList] else none := by
  obtain ⟨m, hm⟩ : ∃ m, Try.prog.types.size = m + 1 := ⟨Try.prog.types.size - 1, by kernel_rfl⟩
  have e0 : Try.prog.cellsOf 72 = 2 := by kernel_rfl
  have e1 : Try.prog.cellsOf 9 = 1 := by kernel_rfl
  rw [hm]
  unfold Program.keyLits
  simp only [Try.underlying72, e0]
  unfold Program.keyLits
  simp [Try.underlying9, e1]
  by_cases h1 : a.size ≤ maxLen <;> by_cases h2 : b.size ≤ maxLen <;> simp [h1, h2]
theorem row_keyOf {a b : ByteArray} (ha : a.size ≤ maxLen) (hb : b.size ≤ maxLen) :
    keyOf Try.prog 72 (.agg #[.string a, .string b]) = some (rowLit a b) := by
  unfold keyOf
  simp only [Try.underlying72, row_formed, row_keyType, Bool.and_true, if_true, Value.cells, row_lits, ha, hb, and_self]
  rfl

/-- a row's code and origin as keys -/
def rowKeys : Keying Try.prog 72 (ByteArray × ByteArray) where
  kv x := .agg #[.string x.1, .string x.2]
  kl x := rowLit x.1 x.2
  good x := x.1.size ≤ maxLen ∧ x.2.size ≤ maxLen
  keyed := rowKeyed
  key x h := row_keyOf h.1 h.2
  inj x y hx hy e := by
    have h1 := row_keyOf hx.1 hx.2
    have h2 := row_keyOf hy.1 hy.2
    rw [← e] at h2
    have h3 := rowKeyed.inj h1 h2
    simp only [Value.agg.injEq] at h3
    obtain ⟨a, b⟩ := x
    obtain ⟨a', b'⟩ := y
    simp at h3
    simp [h3]

/-- what a tariff's map holds -/
def rowF (xs : List Rt) (k : ByteArray × ByteArray) : Option Value := (xs.find? (fun x => hit x k.1 k.2)).map (fun x => .agg #[.int .i64 x.num, .int .i64 x.den])

theorem fnd_none (c o : ByteArray) (xs : List Rt) (k : Nat) : fnd c o k xs < 0 ↔ xs.find? (fun x => hit x c o) = none := by
  induction xs generalizing k with
  | nil => simp [fnd]
  | cons x r ih =>
    rw [fnd, List.find?_cons]
    cases h : hit x c o
    · simp only [Bool.false_eq_true, if_false]; exact ih (k + 1)
    · simp
theorem fnd_lt (c o : ByteArray) (xs : List Rt) (k : Nat) : fnd c o k xs < (k : Int) + xs.length ∧ (0 ≤ fnd c o k xs → (k : Int) ≤ fnd c o k xs) := by
  induction xs generalizing k with
  | nil => simp [fnd]; omega
  | cons x r ih =>
    rw [fnd]
    split
    · simp; omega
    · have := ih (k + 1)
      simp at this ⊢
      omega
/-- what stands at the place that is found -/
theorem fnd_some (c o : ByteArray) (xs : List Rt) (k : Nat) (i : Nat) (h : fnd c o k xs = (k : Int) + i) : ∃ x, xs[i]? = some x ∧ xs.find? (fun x => hit x c o) = some x := by
  induction xs generalizing k i with
  | nil => simp [fnd] at h; omega
  | cons x r ih =>
    rw [fnd] at h
    rw [List.find?_cons]
    cases hx : hit x c o
    · rw [hx] at h
      simp at h
      have hb := fnd_lt c o r (k + 1)
      obtain ⟨j, rfl⟩ : ∃ j, i = j + 1 := by
        rcases i with _ | j
        · exfalso; have := hb.2 (by omega); simp at this; omega
        · exact ⟨j, rfl⟩
      obtain ⟨y, h1, h2⟩ := ih (k + 1) j (by rw [h]; simp; omega)
      exact ⟨y, by simpa using h1, h2⟩
    · rw [hx] at h
      simp at h
      have : i = 0 := by omega
      subst this
      exact ⟨x, rfl, rfl⟩
theorem rowF_none (xs : List Rt) (c o : ByteArray) (h : fnd c o 0 xs < 0) : rowF xs (c, o) = none := by
  rw [rowF, (fnd_none c o xs 0).1 h]; rfl
theorem rowF_snoc (xs : List Rt) (x : Rt) (h : fnd x.frm x.to_ 0 xs < 0) (k : ByteArray × ByteArray) : (if k = (x.frm, x.to_) then some (.agg #[.int .i64 x.num, .int .i64 x.den]) else rowF xs k) = rowF (xs ++ [x]) k := by
  obtain ⟨c, o⟩ := k
  have h0 := (fnd_none x.frm x.to_ xs 0).1 h
  rw [rowF, rowF, List.find?_append]
  split
  · rename_i he
    simp at he
    obtain ⟨rfl, rfl⟩ := he
    rw [h0]
    simp [hit]
  · rename_i he
    have : hit x c o = false := by
      simp at he
      simp [hit]
      intro h1 h2
      exact he h1.symm h2.symm
    simp [this]
theorem zeroRatio (w : World) : (zeroValue 64).run Try.prog w = .ok (.agg #[.int .i64 0, .int .i64 0]) w := by kernel_rfl
end Go.Proofs.Ytgalpdjmmpjddaa
