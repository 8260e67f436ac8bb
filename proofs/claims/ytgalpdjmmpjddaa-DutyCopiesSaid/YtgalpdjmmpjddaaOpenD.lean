/- Rows of a tariff among the arguments, opened. -/
import Derived.Test.YtgalpdjmmpjddaaOpenB
import Derived.Test.YtgalpdjmmpjddaaRatesA
namespace Go.Proofs.Ytgalpdjmmpjddaa
set_option linter.unusedVariables false
set_option linter.unusedSimpArgs false
open Go.ChangeShapes Go.WideShapes Go.ChangeAt Go.RowKit Go.Deep

theorem I64.lt {n : Int} (h : I64 n) : n < 9223372036854775808 := Int.lt_of_le_of_lt h.2 (by decide)
theorem cells_int : Try.prog.cellsOf 3 = 1 := by kernel_rfl
theorem cells_int64 : Try.prog.cellsOf 2 = 1 := by kernel_rfl
theorem cells_string : Try.prog.cellsOf 9 = 1 := by kernel_rfl
theorem cells_ratio : Try.prog.cellsOf 64 = 2 := by kernel_rfl
theorem cells_rate : Try.prog.cellsOf 66 = 5 := by kernel_rfl

/-- what is known of a row that came in -/
structure Rt.Came (x : Rt) : Prop where
  frm : x.frm.size ≤ maxLen
  to_ : x.to_.size ≤ maxLen
  day : I64 x.day
  num : I64 x.num
  den : I64 x.den

section
variable {H : Type} {enc : TypeId × Value → H} {w : World} {base : Nat} {spare : Nat → Bool} {held : Bool} {fuel : Nat} {cs : List Value} {x : DataW H × List MemPlace}

theorem list2 {α : Type} {cs : List α} {a b : α} (hl : cs.length = 2) (h0 : cs[0]? = some a) (h1 : cs[1]? = some b) : cs = [a, b] := by
  match cs, hl with
  | [_, _], _ => simp_all

theorem list5 {α : Type} {cs : List α} {a b c d e : α} (hl : cs.length = 5) (h0 : cs[0]? = some a) (h1 : cs[1]? = some b) (h2 : cs[2]? = some c) (h3 : (cs.drop 3).take 2 = [d, e]) : cs = [a, b, c, d, e] := by
  match cs, hl with
  | [_, _, _, _, _], _ => simp_all

theorem ratio_read (h : DataW.trod enc Try.prog w base spare held fuel 64 cs = some x) : ∃ a b, cs = [.int .i64 a, .int .i64 b] ∧ I64 a ∧ I64 b := by
  have hl := struct_len Try.underlying64 h
  rw [cells_ratio] at hl
  obtain ⟨_, _, h0⟩ := field_read Try.underlying64 h 0 _ rfl
  obtain ⟨_, _, h1⟩ := field_read Try.underlying64 h 1 _ rfl
  obtain ⟨a, ha, wa⟩ := int_read Try.underlying2 cells_int64 h0
  obtain ⟨b, hb, wb⟩ := int_read Try.underlying2 cells_int64 h1
  exact ⟨a, b, list2 hl ha hb, .of_wf wa, .of_wf wb⟩

theorem rate_read (h : DataW.trod enc Try.prog w base spare held fuel 66 cs = some x) : ∃ y : Rt, cs = y.cells ∧ y.Came := by
  have hl := struct_len Try.underlying66 h
  rw [cells_rate] at hl
  obtain ⟨_, _, h0⟩ := field_read Try.underlying66 h 0 _ rfl
  obtain ⟨_, _, h1⟩ := field_read Try.underlying66 h 1 _ rfl
  obtain ⟨_, _, h2⟩ := field_read Try.underlying66 h 2 _ rfl
  obtain ⟨_, _, h3⟩ := field_read Try.underlying66 h 3 _ rfl
  obtain ⟨a, ha, wa⟩ := string_read Try.underlying9 cells_string h0
  obtain ⟨b, hb, wb⟩ := string_read Try.underlying9 cells_string h1
  obtain ⟨c, hc, wc⟩ := int_read Try.underlying3 cells_int h2
  change DataW.trod enc Try.prog w base spare held _ 64 ((cs.drop 3).take (Try.prog.cellsOf 64)) = _ at h3
  rw [cells_ratio] at h3
  obtain ⟨d, e, hde, wd, we⟩ := ratio_read h3
  exact ⟨⟨a, b, c, d, e⟩, list5 hl ha hb hc hde, ⟨wa, wb, .of_wf wc, wd, we⟩⟩

theorem choose_list {α : Type} (n : Nat) (R : Nat → α → Prop) (h : ∀ i, i < n → ∃ x, R i x) : ∃ xs : List α, xs.length = n ∧ ∀ i x, xs[i]? = some x → R i x := by
  induction n with
  | zero => exact ⟨[], rfl, fun i x hx => by simp at hx⟩
  | succ n ih =>
    obtain ⟨xs, hl, hx⟩ := ih fun i hi => h i (by omega)
    obtain ⟨y, hy⟩ := h n (by omega)
    refine ⟨xs ++ [y], by simp [hl], fun i x hi => ?_⟩
    by_cases hin : i < n
    · rw [List.getElem?_append_left (by omega)] at hi
      exact hx i x hi
    · rw [List.getElem?_append_right (by omega)] at hi
      have : i - xs.length = 0 := by
        rcases Nat.eq_zero_or_pos (i - xs.length) with h0 | h0
        · exact h0
        · rw [List.getElem?_eq_none (by simp; omega)] at hi; cases hi
      rw [this] at hi
      simp at hi
      subst hi
      obtain rfl : i = n := by omega
      exact hy

set_option maxRecDepth 20000 in
theorem open_rates {r : Reach} {b0 : Nat} {v : Value} {d : DataW H} {p : List MemPlace} (hv : Value.okWide Try.prog w r b0 22 v) (h : DataW.Trod enc Try.prog w base spare held 22 v d p) :
    ∃ (A : Option Addr) (xs : List Rt) (c : Nat), v = .slice A xs.length c ∧ RatesIn w w.heap.size A xs ∧ (∀ x ∈ xs, x.Came) ∧ xs.length ≤ c ∧ c ≤ maxLen := by
  obtain ⟨a, len, cap, rfl⟩ := okWide_slice Try.underlying22 hv
  obtain ⟨fuel, hf⟩ := h
  rcases open_slice Try.underlying22 hf with ⟨h0, _⟩ | ⟨a', len', cap', m, n, D, Pl, h0, _, hlc, hcm, hm, _, hi⟩
  · simp [Value.cells] at h0
    obtain ⟨rfl, rfl, rfl⟩ := h0
    exact ⟨none, [], 0, rfl, fun h => absurd rfl h, by simp, by simp, by simp⟩
  · simp [Value.cells] at h0
    obtain ⟨rfl, rfl, rfl⟩ := h0
    have hlm : len ≤ m := by rw [hm]; split <;> omega
    obtain ⟨xs, hl, hx⟩ := choose_list len (fun i (y : Rt) => w.cells? base (a'.add (i * 5)) 5 = some y.cells ∧ y.Came) (fun i hil => by
      obtain ⟨cs', h1, h2⟩ := hi i (by omega)
      rw [cells_rate] at h1
      obtain ⟨y, rfl, hy⟩ := rate_read h2
      exact ⟨y, h1, hy⟩)
    subst hl
    refine ⟨some a', xs, cap, rfl, fun hne => ?_, fun x hxm => ?_, hlc, hcm⟩
    · obtain ⟨ab, ao, sp⟩ := a'
      have hat : ∀ i x, xs[i]? = some x → ∀ j v, x.cells[j]? = some v → w.cell? (((⟨ab, ao, sp⟩ : Addr).add (i * 5)).add j) = some v := fun i x hix j v hjv => by
        obtain ⟨_, _, hat⟩ := World.cells?_some (hx i x hix).1
        have hj : j < 5 := (List.getElem?_eq_some_iff.1 hjv).1
        exact (hat j hj).trans hjv
      obtain ⟨x0, r, rfl⟩ := List.exists_cons_of_ne_nil hne
      have h00 := hat 0 x0 rfl 0 _ rfl
      simp [Addr.add] at h00
      have hsp : sp = none := by
        cases sp with
        | none => rfl
        | some s =>
          simp only [World.cell?] at h00
          split at h00 <;> simp at h00
      subst hsp
      have hab : ab < w.heap.size := by
        rcases Nat.lt_or_ge ab w.heap.size with hlt | hge
        · exact hlt
        · simp [World.cell?, Array.getElem?_eq_none hge] at h00
      refine ⟨ab, ao, rfl, hab, fun i x hix j v hjv => ?_⟩
      have := hat i x hix j v hjv
      rw [Go.Deep.add_add] at this
      simp only [Addr.add] at this
      split at this
      · rename_i hz
        have : i * 5 = 0 ∧ j = 0 := by omega
        rw [this.1, this.2]
        assumption
      · rw [Nat.add_assoc]
        assumption
    · obtain ⟨i, hi⟩ := List.getElem?_of_mem hxm
      exact (hx i x hi).2
end
end Go.Proofs.Ytgalpdjmmpjddaa
