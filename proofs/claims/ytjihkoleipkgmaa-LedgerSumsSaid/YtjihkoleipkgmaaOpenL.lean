/- Acts among the arguments, opened. -/
import Derived.Test.YtjihkoleipkgmaaOpenG
import Derived.Test.YtjihkoleipkgmaaLgX
namespace Go.Proofs.Ytjihkoleipkgmaa
set_option linter.unusedVariables false
set_option linter.unusedSimpArgs false
open Go.ChangeShapes Go.WideShapes Go.ChangeAt Go.RowKit Go.Deep

theorem cells_u8 : Try.prog.cellsOf 5 = 1 := by kernel_rfl
theorem cells_int64 : Try.prog.cellsOf 2 = 1 := by kernel_rfl
theorem cells_string : Try.prog.cellsOf 9 = 1 := by kernel_rfl
theorem cells_ens : Try.prog.cellsOf 29 = 1 := by kernel_rfl
theorem cells_en : Try.prog.cellsOf 44 = 3 := by kernel_rfl
theorem cells_act : Try.prog.cellsOf 31 = 6 := by kernel_rfl
theorem list3' {α : Type} {cs : List α} {a b c : α} (hl : cs.length = 3) (h0 : cs[0]? = some a) (h1 : cs[1]? = some b) (h2 : cs[2]? = some c) : cs = [a, b, c] := by
  match cs, hl with
  | [_, _, _], _ => simp_all
theorem list6' {α : Type} {cs : List α} {a b c d e f : α} (hl : cs.length = 6) (h0 : cs[0]? = some a) (h1 : cs[1]? = some b) (h2 : cs[2]? = some c) (h3 : cs[3]? = some d) (h4 : cs[4]? = some e) (h5 : cs[5]? = some f) : cs = [a, b, c, d, e, f] := by
  match cs, hl with
  | [_, _, _, _, _, _], _ => simp_all
def En.Came (e : En) : Prop := e.acct.size ≤ maxLen ∧ e.cur.size ≤ maxLen
section
variable {H : Type} {enc : TypeId × Value → H} {w : World} {base : Nat} {spare : Nat → Bool} {held : Bool}
set_option maxRecDepth 20000 in
theorem en_read (fuel : Nat) (cs : List Value) (x : DataW H × List MemPlace) (h : DataW.trod enc Try.prog w base spare held fuel 44 cs = some x) : ∃ y : En, cs = enR.cells y ∧ y.Came := by
  have hl := struct_len Try.underlying44 h
  rw [cells_en] at hl
  obtain ⟨_, _, h0⟩ := field_read Try.underlying44 h 0 _ rfl
  obtain ⟨_, _, h1⟩ := field_read Try.underlying44 h 1 _ rfl
  obtain ⟨_, _, h2⟩ := field_read Try.underlying44 h 2 _ rfl
  obtain ⟨a, ha, wa⟩ := string_read Try.underlying9 cells_string h0
  obtain ⟨b, hb, wb⟩ := string_read Try.underlying9 cells_string h1
  obtain ⟨c, hc, wc⟩ := int_read Try.underlying2 cells_int64 h2
  exact ⟨⟨a, b, c⟩, list3' hl ha hb hc, wa, wb⟩
set_option maxRecDepth 20000 in
theorem act_read (fuel : Nat) (cs : List Value) (x : DataW H × List MemPlace) (h : DataW.trod enc Try.prog w base spare held fuel 31 cs = some x) : ∃ y : Aa, cs = aaR.cells y ∧ y.Came w := by
  have hl := struct_len Try.underlying31 h
  rw [cells_act] at hl
  obtain ⟨_, _, h0⟩ := field_read Try.underlying31 h 0 _ rfl
  obtain ⟨_, _, h1⟩ := field_read Try.underlying31 h 1 _ rfl
  obtain ⟨_, _, h2⟩ := field_read Try.underlying31 h 2 _ rfl
  obtain ⟨_, _, h3⟩ := field_read Try.underlying31 h 3 _ rfl
  obtain ⟨_, _, h4⟩ := field_read Try.underlying31 h 4 _ rfl
  obtain ⟨_, _, h5⟩ := field_read Try.underlying31 h 5 _ rfl
  obtain ⟨k, hk, wk⟩ := int_read Try.underlying5 cells_u8 h0
  obtain ⟨a, ha, wa⟩ := string_read Try.underlying9 cells_string h1
  obtain ⟨b, hb, wb⟩ := string_read Try.underlying9 cells_string h2
  obtain ⟨c, hc, wc⟩ := string_read Try.underlying9 cells_string h3
  obtain ⟨n, hn, wn⟩ := int_read Try.underlying2 cells_int64 h4
  obtain ⟨A, xs, cp, he, hL, hE, hlc, hcm⟩ := rows_read enR En.Came Try.underlying29 cells_en en_read h5
  have he : (cs.drop 5).take (Try.prog.cellsOf 29) = [.slice A xs.length cp] := he
  rw [cells_ens] at he
  have he2 := take_one he
  have hk2 : 0 ≤ k ∧ k < 256 := by
    simp [Lit.wf, IntKind.min, IntKind.max, IntKind.signed, IntKind.bits] at wk
    omega
  have hkc : k = ((k.toNat : Nat) : Int) := by omega
  refine ⟨⟨k.toNat, a, b, c, n, xs, A, cp⟩, list6' hl (hk.trans (congrArg (fun z => some (Value.int .u8 z)) hkc)) ha hb hc hn he2, ⟨by simp only; omega, wa, wb, wc, ?_, by simp only; omega, fun e he => hE e he, hL⟩⟩
  have := I64.of_wf wn
  exact this
set_option maxRecDepth 20000 in
theorem open_acts {r : Reach} {b0 : Nat} {v : Value} {d : DataW H} {p : List MemPlace} (hv : Value.okWide Try.prog w r b0 22 v) (h : DataW.Trod enc Try.prog w base spare held 22 v d p) :
    ∃ (A : Option Addr) (xs : List Aa) (c : Nat), v = .slice A xs.length c ∧ ListIn aaR w w.heap.size A xs ∧ (∀ x ∈ xs, x.Came w) ∧ xs.length ≤ c ∧ c ≤ maxLen :=
  open_rows aaR (Aa.Came w) Try.underlying22 cells_act act_read hv h
set_option maxRecDepth 20000 in
theorem open_act {r : Reach} {b0 : Nat} {v : Value} {d : DataW H} {p : List MemPlace} (hv : Value.okWide Try.prog w r b0 31 v) (h : DataW.Trod enc Try.prog w base spare held 31 v d p) :
    ∃ x : Aa, v = .agg #[.int .u8 (x.kind : Int), .string x.a, .string x.b, .string x.c, .int .i64 x.n, .slice x.A x.ents.length x.cap] ∧ x.Came w := by
  obtain ⟨cs, rfl, _⟩ := okWide_struct Try.underlying31 hv
  obtain ⟨fuel, hf⟩ := h
  obtain ⟨y, e, hy⟩ := act_read fuel _ _ hf
  refine ⟨y, ?_, hy⟩
  congr 1
  exact Array.ext' e
end
end Go.Proofs.Ytjihkoleipkgmaa
