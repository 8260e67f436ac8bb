/- Ships and loads among the arguments, opened. -/
import Derived.Test.YtcdjljcmhbipiaaOpenA
import Derived.Test.YtcdjljcmhbipiaaLoadsA
namespace Go.Proofs.Ytcdjljcmhbipiaa
open Go.ChangeShapes Go.WideShapes Go.ChangeAt Go.RowKit Go.Deep

theorem cells_int : Try.prog.cellsOf 3 = 1 := by kernel_rfl
theorem cells_string : Try.prog.cellsOf 9 = 1 := by kernel_rfl
theorem cells_slot : Try.prog.cellsOf 31 = 3 := by kernel_rfl
theorem cells_load : Try.prog.cellsOf 33 = 7 := by kernel_rfl
theorem cells_ship : Try.prog.cellsOf 23 = 9 := by kernel_rfl

/-- what is known of a ship that came in -/
structure Shp.Came (s : Shp) : Prop where
  name : s.name.size ≤ maxLen
  bays : I64 s.bays
  rows : I64 s.rows
  tiers : I64 s.tiers
  stack : I64 s.stack
  trim : I64 s.trim
  list : I64 s.list
  up : I64 s.up
  most : I64 s.most
structure Ld.Came (x : Ld) : Prop where
  bay : I64 x.bay
  row : I64 x.row
  tier : I64 x.tier
  box : x.box.size ≤ maxLen
  wt : I64 x.wt
  cls : I64 x.cls
  port : I64 x.port

section
variable {H : Type} {enc : TypeId × Value → H} {w : World} {base : Nat} {spare : Nat → Bool} {held : Bool} {fuel : Nat} {cs : List Value} {x : DataW H × List MemPlace}

theorem list3 {α : Type} {cs : List α} {a b c : α} (hl : cs.length = 3) (h0 : cs[0]? = some a) (h1 : cs[1]? = some b) (h2 : cs[2]? = some c) : cs = [a, b, c] := by
  match cs, hl with
  | [_, _, _], _ => simp_all

theorem slot_read (h : DataW.trod enc Try.prog w base spare held fuel 31 cs = some x) : ∃ a b c, cs = [.int .i64 a, .int .i64 b, .int .i64 c] ∧ I64 a ∧ I64 b ∧ I64 c := by
  have hl := struct_len Try.underlying31 h
  rw [cells_slot] at hl
  obtain ⟨_, _, h0⟩ := field_read Try.underlying31 h 0 _ rfl
  obtain ⟨_, _, h1⟩ := field_read Try.underlying31 h 1 _ rfl
  obtain ⟨_, _, h2⟩ := field_read Try.underlying31 h 2 _ rfl
  obtain ⟨a, ha, wa⟩ := int_read Try.underlying3 cells_int h0
  obtain ⟨b, hb, wb⟩ := int_read Try.underlying3 cells_int h1
  obtain ⟨c, hc, wc⟩ := int_read Try.underlying3 cells_int h2
  exact ⟨a, b, c, list3 hl ha hb hc, .of_wf wa, .of_wf wb, .of_wf wc⟩

theorem load_read (h : DataW.trod enc Try.prog w base spare held fuel 33 cs = some x) : ∃ y : Ld, cs = y.cells ∧ y.Came := by
  have hl := struct_len Try.underlying33 h
  rw [cells_load] at hl
  obtain ⟨_, _, h0⟩ := field_read Try.underlying33 h 0 _ rfl
  obtain ⟨_, _, h1⟩ := field_read Try.underlying33 h 1 _ rfl
  obtain ⟨_, _, h2⟩ := field_read Try.underlying33 h 2 _ rfl
  obtain ⟨_, _, h3⟩ := field_read Try.underlying33 h 3 _ rfl
  obtain ⟨_, _, h4⟩ := field_read Try.underlying33 h 4 _ rfl
  change DataW.trod enc Try.prog w base spare held _ 31 ((cs.drop 0).take (Try.prog.cellsOf 31)) = _ at h0
  rw [cells_slot] at h0
  obtain ⟨a, b, c, e, wa, wb, wc⟩ := slot_read h0
  obtain ⟨d, hd, wd⟩ := string_read Try.underlying9 cells_string h1
  obtain ⟨f, hf, wf⟩ := int_read Try.underlying3 cells_int h2
  obtain ⟨g, hg, wg⟩ := int_read Try.underlying3 cells_int h3
  obtain ⟨i, hi, wi⟩ := int_read Try.underlying3 cells_int h4
  refine ⟨⟨a, b, c, d, f, g, i⟩, ?_, wa, wb, wc, wd, .of_wf wf, .of_wf wg, .of_wf wi⟩
  match cs, hl with
  | [_, _, _, _, _, _, _], _ => simp_all [Ld.cells]

theorem ship_read (h : DataW.trod enc Try.prog w base spare held fuel 23 cs = some x) : ∃ s : Shp, cs = s.val.cells.toList ∧ s.Came := by
  have hl := struct_len Try.underlying23 h
  rw [cells_ship] at hl
  obtain ⟨_, _, h0⟩ := field_read Try.underlying23 h 0 _ rfl
  obtain ⟨_, _, h1⟩ := field_read Try.underlying23 h 1 _ rfl
  obtain ⟨_, _, h2⟩ := field_read Try.underlying23 h 2 _ rfl
  obtain ⟨_, _, h3⟩ := field_read Try.underlying23 h 3 _ rfl
  obtain ⟨_, _, h4⟩ := field_read Try.underlying23 h 4 _ rfl
  obtain ⟨_, _, h5⟩ := field_read Try.underlying23 h 5 _ rfl
  obtain ⟨_, _, h6⟩ := field_read Try.underlying23 h 6 _ rfl
  obtain ⟨_, _, h7⟩ := field_read Try.underlying23 h 7 _ rfl
  obtain ⟨_, _, h8⟩ := field_read Try.underlying23 h 8 _ rfl
  obtain ⟨v0, e0, w0⟩ := string_read Try.underlying9 cells_string h0
  obtain ⟨v1, e1, w1⟩ := int_read Try.underlying3 cells_int h1
  obtain ⟨v2, e2, w2⟩ := int_read Try.underlying3 cells_int h2
  obtain ⟨v3, e3, w3⟩ := int_read Try.underlying3 cells_int h3
  obtain ⟨v4, e4, w4⟩ := int_read Try.underlying3 cells_int h4
  obtain ⟨v5, e5, w5⟩ := int_read Try.underlying3 cells_int h5
  obtain ⟨v6, e6, w6⟩ := int_read Try.underlying3 cells_int h6
  obtain ⟨v7, e7, w7⟩ := int_read Try.underlying3 cells_int h7
  obtain ⟨v8, e8, w8⟩ := int_read Try.underlying3 cells_int h8
  refine ⟨⟨v0, v1, v2, v3, v4, v5, v6, v7, v8⟩, ?_, w0, .of_wf w1, .of_wf w2, .of_wf w3, .of_wf w4, .of_wf w5, .of_wf w6, .of_wf w7, .of_wf w8⟩
  match cs, hl with
  | [_, _, _, _, _, _, _, _, _], _ => simp_all [Shp.val, Value.cells]

theorem open_ship {r : Reach} {b0 : Nat} {v : Value} {d : DataW H} {p : List MemPlace} (hv : Value.okWide Try.prog w r b0 23 v) (h : DataW.Trod enc Try.prog w base spare held 23 v d p) : ∃ s : Shp, v = s.val ∧ s.Came := by
  obtain ⟨cs, rfl, _⟩ := okWide_struct Try.underlying23 hv
  obtain ⟨fuel, hf⟩ := h
  obtain ⟨s, e, hs⟩ := ship_read hf
  refine ⟨s, ?_, hs⟩
  have e' : cs.toList = s.val.cells.toList := e
  have : cs = s.val.cells := Array.toList_inj.1 e'
  rw [this]; rfl

theorem choose_list {α : Type} (n : Nat) (R : Nat → α → Prop) (h : ∀ i, i < n → ∃ x, R i x) : ∃ xs : List α, xs.length = n ∧ ∀ i x, xs[i]? = some x → R i x := by
  induction n with
  | zero => exact ⟨[], rfl, fun i x hx => by simp at hx⟩
  | succ n ih =>
    obtain ⟨xs, hl, hx⟩ := ih fun i hi => h i (by omega)
    obtain ⟨y, hy⟩ := h n (by omega)
    refine ⟨xs ++ [y], by simp [hl], fun i x hi => ?_⟩
    by_cases hin : i < n
    · rw [List.getElem?_append_left (by omega)] at hi
      exact hx i x hi
    · rw [List.getElem?_append_right (by omega)] at hi
      have : i - xs.length = 0 := by
        rcases Nat.eq_zero_or_pos (i - xs.length) with h0 | h0
        · exact h0
        · rw [List.getElem?_eq_none (by simp; omega)] at hi; cases hi
      rw [this] at hi
      simp at hi
      subst hi
      obtain rfl : i = n := by omega
      exact hy

theorem open_loads {r : Reach} {b0 : Nat} {v : Value} {d : DataW H} {p : List MemPlace} (hv : Value.okWide Try.prog w r b0 24 v) (h : DataW.Trod enc Try.prog w base spare held 24 v d p) :
    ∃ (A : Option Addr) (xs : List Ld) (c : Nat), v = .slice A xs.length c ∧ LoadsIn w w.heap.size A xs ∧ (∀ x ∈ xs, x.Came) ∧ xs.length ≤ c ∧ c ≤ maxLen := by
  obtain ⟨a, len, cap, rfl⟩ := okWide_slice Try.underlying24 hv
  obtain ⟨fuel, hf⟩ := h
  rcases open_slice Try.underlying24 hf with ⟨h0, _⟩ | ⟨a', len', cap', m, n, D, Pl, h0, _, hlc, hcm, hm, _, hi⟩
  · simp [Value.cells] at h0
    obtain ⟨rfl, rfl, rfl⟩ := h0
    exact ⟨none, [], 0, rfl, fun h => absurd rfl h, by simp, by simp, by simp⟩
  · simp [Value.cells] at h0
    obtain ⟨rfl, rfl, rfl⟩ := h0
    have hlm : len ≤ m := by rw [hm]; split <;> omega
    obtain ⟨xs, hl, hx⟩ := choose_list len (fun i (y : Ld) => w.cells? base (a'.add (i * 7)) 7 = some y.cells ∧ y.Came) (fun i hil => by
      obtain ⟨cs', h1, h2⟩ := hi i (by omega)
      rw [cells_load] at h1
      obtain ⟨y, rfl, hy⟩ := load_read h2
      exact ⟨y, h1, hy⟩)
    subst hl
    refine ⟨some a', xs, cap, rfl, fun hne => ?_, fun x hxm => ?_, hlc, hcm⟩
    · obtain ⟨ab, ao, sp⟩ := a'
      have hat : ∀ i x, xs[i]? = some x → ∀ j v, x.cells[j]? = some v → w.cell? (((⟨ab, ao, sp⟩ : Addr).add (i * 7)).add j) = some v := fun i x hix j v hjv => by
        obtain ⟨_, _, hat⟩ := World.cells?_some (hx i x hix).1
        have hj : j < 7 := (List.getElem?_eq_some_iff.1 hjv).1
        exact (hat j hj).trans hjv
      obtain ⟨x0, r, rfl⟩ := List.exists_cons_of_ne_nil hne
      have h00 := hat 0 x0 rfl 0 _ rfl
      simp [Addr.add] at h00
      have hsp : sp = none := by
        cases sp with
        | none => rfl
        | some s =>
          simp only [World.cell?] at h00
          split at h00 <;> simp at h00
      subst hsp
      have hab : ab < w.heap.size := by
        rcases Nat.lt_or_ge ab w.heap.size with hlt | hge
        · exact hlt
        · simp [World.cell?, Array.getElem?_eq_none hge] at h00
      refine ⟨ab, ao, rfl, hab, fun i x hix j v hjv => ?_⟩
      have := hat i x hix j v hjv
      rw [Go.Deep.add_add] at this
      simp only [Addr.add] at this
      split at this
      · rename_i hz
        have : i * 7 = 0 ∧ j = 0 := by omega
        rw [this.1, this.2]
        assumption
      · rw [Nat.add_assoc]
        assumption
    · obtain ⟨i, hi⟩ := List.getElem?_of_mem hxm
      exact (hx i x hi).2
end
end Go.Proofs.Ytcdjljcmhbipiaa
