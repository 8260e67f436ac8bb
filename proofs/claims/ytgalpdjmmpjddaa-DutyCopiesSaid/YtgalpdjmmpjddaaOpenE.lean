/- Calls of a bond among the arguments, opened. -/
import Derived.Test.YtgalpdjmmpjddaaOpenG
import Derived.Test.YtgalpdjmmpjddaaOpenD
import Derived.Test.YtgalpdjmmpjddaaPlayP
namespace Go.Proofs.Ytgalpdjmmpjddaa
set_option linter.unusedVariables false
set_option linter.unusedSimpArgs false
open Go.ChangeShapes Go.WideShapes Go.ChangeAt Go.RowKit Go.Deep

theorem cells_op : Try.prog.cellsOf 57 = 5 := by kernel_rfl
structure Oq.Came (x : Oq) : Prop where
  box : x.box.size ≤ maxLen
  to_ : x.to_.size ≤ maxLen
theorem list5' {α : Type} {cs : List α} {a b c d e : α} (hl : cs.length = 5) (h0 : cs[0]? = some a) (h1 : cs[1]? = some b) (h2 : cs[2]? = some c) (h3 : cs[3]? = some d) (h4 : cs[4]? = some e) : cs = [a, b, c, d, e] := by
  match cs, hl with
  | [_, _, _, _, _], _ => simp_all
section
variable {H : Type} {enc : TypeId × Value → H} {w : World} {base : Nat} {spare : Nat → Bool} {held : Bool}
theorem op_read (fuel : Nat) (cs : List Value) (x : DataW H × List MemPlace) (h : DataW.trod enc Try.prog w base spare held fuel 57 cs = some x) : ∃ y : Oq, cs = oqR.cells y ∧ y.Came := by
  have hl := struct_len Try.underlying57 h
  rw [cells_op] at hl
  obtain ⟨_, _, h0⟩ := field_read Try.underlying57 h 0 _ rfl
  obtain ⟨_, _, h1⟩ := field_read Try.underlying57 h 1 _ rfl
  obtain ⟨_, _, h2⟩ := field_read Try.underlying57 h 2 _ rfl
  obtain ⟨_, _, h3⟩ := field_read Try.underlying57 h 3 _ rfl
  obtain ⟨_, _, h4⟩ := field_read Try.underlying57 h 4 _ rfl
  obtain ⟨a, ha, wa⟩ := int_read Try.underlying3 cells_int h0
  obtain ⟨b, hb, wb⟩ := int_read Try.underlying3 cells_int h1
  obtain ⟨c, hc, wc⟩ := string_read Try.underlying9 cells_string h2
  obtain ⟨d, hd, wd⟩ := string_read Try.underlying9 cells_string h3
  obtain ⟨e, he, we⟩ := int_read Try.underlying2 cells_int64 h4
  exact ⟨⟨a, b, c, d, e⟩, list5' hl ha hb hc hd he, ⟨wc, wd⟩⟩
set_option maxRecDepth 20000 in
theorem open_ops {r : Reach} {b0 : Nat} {v : Value} {d : DataW H} {p : List MemPlace} (hv : Value.okWide Try.prog w r b0 37 v) (h : DataW.Trod enc Try.prog w base spare held 37 v d p) :
    ∃ (A : Option Addr) (xs : List Oq) (c : Nat), v = .slice A xs.length c ∧ ListIn oqR w w.heap.size A xs ∧ (∀ x ∈ xs, x.Came) ∧ xs.length ≤ c ∧ c ≤ maxLen :=
  open_rows oqR Oq.Came Try.underlying37 cells_op op_read hv h
end
end Go.Proofs.Ytgalpdjmmpjddaa
