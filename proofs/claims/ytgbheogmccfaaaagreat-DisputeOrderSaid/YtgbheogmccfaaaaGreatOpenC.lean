/- Claimants among the arguments, opened. -/
import Derived.Test.YtgbheogmccfaaaaGreatOpenG
import Derived.Test.YtgbheogmccfaaaaGreatClA
import Derived.Test.YtgbheogmccfaaaaGreatMayC
namespace Go.Proofs.YtgbheogmccfaaaaGreat
set_option linter.unusedVariables false
set_option linter.unusedSimpArgs false
open Go.ChangeShapes Go.WideShapes Go.ChangeAt Go.RowKit Go.Deep

theorem cells_int : Tryz.prog.cellsOf 3 = 1 := by kernel_rfl
theorem cells_int64 : Tryz.prog.cellsOf 2 = 1 := by kernel_rfl
theorem cells_string : Tryz.prog.cellsOf 9 = 1 := by kernel_rfl
theorem cells_cl : Tryz.prog.cellsOf 23 = 5 := by kernel_rfl
/-- what is known of a claimant that came in -/
structure Cl.Came (x : Cl) : Prop where
  txt : Txt x
  right : I64 x.right
  day : I64 x.day
  amount : I64 x.amount
theorem list5' {α : Type} {cs : List α} {a b c d e : α} (hl : cs.length = 5) (h0 : cs[0]? = some a) (h1 : cs[1]? = some b) (h2 : cs[2]? = some c) (h3 : cs[3]? = some d) (h4 : cs[4]? = some e) : cs = [a, b, c, d, e] := by
  match cs, hl with
  | [_, _, _, _, _], _ => simp_all
section
variable {H : Type} {enc : TypeId × Value → H} {w : World} {base : Nat} {spare : Nat → Bool} {held : Bool}
set_option maxRecDepth 20000 in
theorem cl_read (fuel : Nat) (cs : List Value) (x : DataW H × List MemPlace) (h : DataW.trod enc Tryz.prog w base spare held fuel 23 cs = some x) : ∃ y : Cl, cs = clR.cells y ∧ y.Came := by
  have hl := struct_len Tryz.underlying23 h
  rw [cells_cl] at hl
  obtain ⟨_, _, h0⟩ := field_read Tryz.underlying23 h 0 _ rfl
  obtain ⟨_, _, h1⟩ := field_read Tryz.underlying23 h 1 _ rfl
  obtain ⟨_, _, h2⟩ := field_read Tryz.underlying23 h 2 _ rfl
  obtain ⟨_, _, h3⟩ := field_read Tryz.underlying23 h 3 _ rfl
  obtain ⟨_, _, h4⟩ := field_read Tryz.underlying23 h 4 _ rfl
  obtain ⟨a, ha, wa⟩ := string_read Tryz.underlying9 cells_string h0
  obtain ⟨b, hb, wb⟩ := string_read Tryz.underlying9 cells_string h1
  obtain ⟨c, hc, wc⟩ := int_read Tryz.underlying3 cells_int h2
  obtain ⟨d, hd, wd⟩ := int_read Tryz.underlying3 cells_int h3
  obtain ⟨e, he, we⟩ := int_read Tryz.underlying2 cells_int64 h4
  exact ⟨⟨a, b, c, d, e⟩, list5' hl ha hb hc hd he, ⟨⟨wa, wb⟩, .of_wf wc, .of_wf wd, .of_wf we⟩⟩
set_option maxRecDepth 20000 in
theorem open_cls {r : Reach} {b0 : Nat} {v : Value} {d : DataW H} {p : List MemPlace} (hv : Value.okWide Tryz.prog w r b0 24 v) (h : DataW.Trod enc Tryz.prog w base spare held 24 v d p) :
    ∃ (A : Option Addr) (xs : List Cl) (c : Nat), v = .slice A xs.length c ∧ ListIn clR w w.heap.size A xs ∧ (∀ x ∈ xs, x.Came) ∧ xs.length ≤ c ∧ c ≤ maxLen :=
  open_rows clR Cl.Came Tryz.underlying24 cells_cl cl_read hv h
set_option maxRecDepth 20000 in
theorem open_cl {r : Reach} {b0 : Nat} {v : Value} {d : DataW H} {p : List MemPlace} (hv : Value.okWide Tryz.prog w r b0 23 v) (h : DataW.Trod enc Tryz.prog w base spare held 23 v d p) : ∃ s : Cl, v = s.val ∧ s.Came := by
  obtain ⟨cs, rfl, _⟩ := okWide_struct Tryz.underlying23 hv
  obtain ⟨fuel, hf⟩ := h
  obtain ⟨s, e, hs⟩ := cl_read _ _ _ hf
  refine ⟨s, ?_, hs⟩
  have e' : cs.toList = (#[.string s.name, .string s.thing, .int .i64 s.right, .int .i64 s.day, .int .i64 s.amount] : Array Value).toList := e
  have : cs = #[.string s.name, .string s.thing, .int .i64 s.right, .int .i64 s.day, .int .i64 s.amount] := Array.toList_inj.1 e'
  rw [this]
end
end Go.Proofs.YtgbheogmccfaaaaGreat
