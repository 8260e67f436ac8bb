/- Rows of loads: cuts, sources of append, rows of the call's own. -/
import Derived.Test.YtcdjljcmhbipiaaAwake14
import Derived.Test.YtcdjljcmhbipiaaAppA
namespace Go.Proofs.Ytcdjljcmhbipiaa
open Go.RowKit

theorem LoadsIn.take {w : World} {B : Nat} {A : Option Addr} {xs : List Ld} (h : LoadsIn w B A xs) (k : Nat) : LoadsIn w B A (xs.take k) := fun hne => by
  obtain ⟨b, off, e, hb, hc⟩ := h (by intro e; subst e; simp at hne)
  exact ⟨b, off, e, hb, fun i x hx => hc i x (by rw [List.getElem?_take] at hx; split at hx; exact hx; cases hx)⟩

theorem LoadsIn.cut {w : World} {B : Nat} {A : Option Addr} {xs : List Ld} {k cap : Nat} (h : LoadsIn w B A xs) (hc : xs.length ≤ cap) : LoadsIn w B (if cap = k then A else Option.map (fun x => x.add (k * 7)) A) (xs.drop k) := fun hne => by
  have hk : k < xs.length := by
    rcases Nat.lt_or_ge k xs.length with h1 | h1
    · exact h1
    · exact absurd (List.drop_eq_nil_of_le h1) hne
  obtain ⟨b, off, rfl, hb, hcell⟩ := h (by intro e; subst e; simp at hk)
  rw [if_neg (by omega)]
  refine ⟨b, off + k * 7, ?_, hb, fun i x hx => ?_⟩
  · simp only [Option.map_some, Addr.add]
    split
    · rename_i h0; rw [h0]; rfl
    · rfl
  · have e : off + k * 7 + i * 7 = off + (k + i) * 7 := by omega
    rw [e]
    exact hcell (k + i) x (by rw [← hx, List.getElem?_drop])

theorem flat_len (xs : List Ld) : (xs.flatMap Ld.cells).length = xs.length * 7 := by
  induction xs with
  | nil => rfl
  | cons x r ih => rw [List.flatMap_cons, List.length_append, ih]; show 7 + _ = _; simp; omega
theorem cells_flat (xs : List Ld) (i : Nat) (u : Value) (h : (xs.flatMap Ld.cells)[i]? = some u) : ∃ x, xs[i / 7]? = some x ∧ x.cells[i % 7]? = some u := by
  have hi : i < xs.length * 7 := by rw [← flat_len]; exact (List.getElem?_eq_some_iff.1 h).1
  have hk : i / 7 < xs.length := by omega
  refine ⟨xs[i / 7], List.getElem?_eq_getElem hk, ?_⟩
  have hj : i % 7 < 7 := by omega
  have hc : ∃ v, (xs[i / 7]).cells[i % 7]? = some v := ⟨_, List.getElem?_eq_getElem (by show _ < 7; exact hj)⟩
  obtain ⟨v, hv⟩ := hc
  have := flat_at xs (i / 7) (i % 7) _ v (List.getElem?_eq_getElem hk) hv
  have e : i / 7 * 7 + i % 7 = i := by omega
  rw [e, h] at this
  rw [hv, this]
theorem LoadsIn.src {w : World} {B : Nat} {A : Option Addr} {xs : List Ld} (h : LoadsIn w B A xs) : Src w 7 A xs.length (xs.flatMap Ld.cells) :=
  ⟨flat_len xs, fun hm => by
    obtain ⟨b, off, e, hb, hc⟩ := h (by intro e; subst e; simp at hm)
    refine ⟨_, e, fun j u hj => ?_⟩
    obtain ⟨x, hx, hu⟩ := cells_flat xs j u hj
    have := hc _ x hx _ _ hu
    have e2 : off + j / 7 * 7 + j % 7 = off + j := by omega
    rw [e2] at this
    simp only [Addr.add]
    split
    · rename_i h0; subst h0; exact this
    · exact this⟩
theorem info_load : (Try.prog.info? 33).map (fun i => (i.zero, i.size, i.bytes)) = some (some (.agg #[.int .i64 0, .int .i64 0, .int .i64 0, .string ⟨#[]⟩, .int .i64 0, .int .i64 0, .int .i64 0]), 7, 64) := by kernel_rfl

theorem one_flat (xs : List Ld) : ∀ u ∈ xs.flatMap Ld.cells, u.oneCell' = true := by
  intro u hu
  obtain ⟨x, _, hx⟩ := List.mem_flatMap.1 hu
  simp [Ld.cells] at hx
  rcases hx with rfl | rfl | rfl | rfl | rfl | rfl | rfl <;> rfl
theorem src_take {w : World} {B : Nat} {A : Option Addr} {xs : List Ld} {n k : Nat} (hn : n = xs.length) (hk : k ≤ n) (h : LoadsIn w B A xs) : Src w 7 A k ((xs.take k).flatMap Ld.cells) := by
  have := (h.take k).src
  rw [List.length_take, ← hn, Nat.min_eq_left hk] at this
  exact this

theorem loads_of_own {w : World} {base n : Nat} {v : Value} {xs : List Ld} (h : w.ownsRow base 33 7 v n (xs.flatMap Ld.cells)) : ∃ A c, v = .slice A n c ∧ LoadsIn w w.heap.size A xs := by
  have hl : xs.length = n := by have := h.1; rw [flat_len] at this; omega
  rcases Nat.eq_zero_or_pos n with h0 | h0
  · subst h0
    have : xs = [] := List.eq_nil_of_length_eq_zero hl
    subst this
    rcases h.2 with ⟨rfl, _⟩ | ⟨g, cap, cur, rfl, _, _, _⟩
    · exact ⟨none, 0, rfl, fun h => absurd rfl h⟩
    · exact ⟨_, cap, rfl, fun h => absurd rfl h⟩
  · obtain ⟨g, cap, rfl, _, hlt⟩ := h.form h0
    refine ⟨_, cap, rfl, loads_of_cells hlt fun j u hj => ?_⟩
    have hj' : j < n * 7 := by rw [← hl, ← flat_len]; exact (List.getElem?_eq_some_iff.1 hj).1
    rw [h.cellAt j hj', hj]


theorem flat_set (xs : List Ld) (k : Nat) (x : Ld) (hx : xs[k]? = some x) (x' : Ld) (j : Nat) (hj : j < 7) (u : Value) (h : x'.cells = x.cells.set j u) : (xs.flatMap Ld.cells).set (k * 7 + j) u = (xs.set k x').flatMap Ld.cells := by
  induction xs generalizing k with
  | nil => simp at hx
  | cons y r ih =>
    have hl : y.cells.length = 7 := rfl
    cases k with
    | zero =>
      simp at hx; subst hx
      rw [List.flatMap_cons, List.set_append_left _ _ (by rw [hl]; omega)]
      simp [h]
    | succ k =>
      rw [List.flatMap_cons, List.set_append_right _ _ (by rw [hl]; omega)]
      have e : (k + 1) * 7 + j - y.cells.length = k * 7 + j := by rw [hl]; omega
      rw [e, ih k (by simpa using hx)]
      simp
end Go.Proofs.Ytcdjljcmhbipiaa
