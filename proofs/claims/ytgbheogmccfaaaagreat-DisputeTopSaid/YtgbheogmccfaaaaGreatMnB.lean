/- Rows of numbers apart from a block; the amounts of a right, plainly. -/
import Derived.Test.YtgbheogmccfaaaaGreatMnA
namespace Go.Proofs.YtgbheogmccfaaaaGreat
set_option linter.unusedVariables false
set_option linter.unusedSimpArgs false
open Go.RowKit

def NumsAt (w : World) (p : Nat) (A : Option Addr) (xs : List Nat) : Prop := xs ≠ [] → ∃ b, A = some ⟨b, 0, none⟩ ∧ b ≠ p ∧ ∀ (i x : Nat), xs[i]? = some x → w.cell? ⟨b, i, none⟩ = some (.int .i64 x)
section
variable {w w' : World} {p : Nat} {A : Option Addr} {xs : List Nat}
theorem NumsAt.put (h : NumsAt w p A xs) (i : Nat) (v : Value) : NumsAt (w.setCell ⟨p, i, none⟩ v) p A xs := fun hne => by
  obtain ⟨b, e, hb, hc⟩ := h hne
  refine ⟨b, e, hb, fun j x hx => ?_⟩
  rw [← hc j x hx]
  have := Below.heap_setCell w ⟨p, i, none⟩ v b (by simpa using hb)
  simp [World.cell?, this]
theorem cell_lt {a : Addr} {v : Value} (h : w.cell? a = some v) : a.block < w.heap.size := by
  rcases Nat.lt_or_ge a.block w.heap.size with hl | hl
  · exact hl
  · simp [World.cell?, Array.getElem?_eq_none hl] at h
theorem NumsAt.below (h : NumsAt w p A xs) (hb : Below w.heap.size w w') : NumsAt w' p A xs := fun hne => by
  obtain ⟨b, e, hbp, hc⟩ := h hne
  exact ⟨b, e, hbp, fun i x hx => (hb.cell (cell_lt (hc i x hx))).trans (hc i x hx)⟩
theorem nums_at (h : NumsAt w p A xs) {i x : Nat} (hx : xs[i]? = some x) : ∃ b, A = some ⟨b, 0, none⟩ ∧ b ≠ p ∧ w.cell? ⟨b, i, none⟩ = some (.int .i64 x) := by
  obtain ⟨b, e, hb, hc⟩ := h (by intro e; subst e; simp at hx)
  exact ⟨b, e, hb, hc i x hx⟩
theorem nums_whole {b : Nat} {t : TypeId} (h : Whole w b t (numA .i64 xs)) (hne : b ≠ p) : NumsAt w p (some ⟨b, 0, none⟩) xs := fun _ =>
  ⟨b, rfl, hne, fun i x hx => by rw [h.cells, numA_get, hx]; rfl⟩
theorem nums_own {base n : Nat} {e : TypeId} {v : Value} (h : w.ownsRow base e 1 v n (numC xs)) (hn : n = xs.length) (hp : p < base) : ∃ A c, v = .slice A n c ∧ n ≤ c ∧ NumsAt w p A xs := by
  rcases h.2 with ⟨rfl, h0⟩ | ⟨g, cap, cur, rfl, hB, hg, hc, hm, hs, ht⟩
  · subst h0
    exact ⟨none, 0, rfl, Nat.le_refl _, fun hne => absurd (List.eq_nil_of_length_eq_zero hn.symm) hne⟩
  · refine ⟨_, cap, rfl, hc, fun _ => ⟨g, rfl, by omega, fun i x hx => ?_⟩⟩
    have hi : i < xs.length := (List.getElem?_eq_some_iff.1 hx).1
    rw [h.cellAt i (by omega)]
    have := rows_at (numR .i64) xs i 0 x (.int .i64 x) hx rfl
    simpa [numR, numC] using this
/-- .. and as a list of before -/
theorem list_num {base n : Nat} {e : TypeId} {A : Option Addr} {c : Nat} (h : w.ownsRow base e 1 (.slice A n c) n (numC xs)) : ListIn (numR .i64) w w.heap.size A xs := by
  obtain ⟨A', c', e, _, _, _, hL⟩ := list_of_own (R := numR .i64) h
  cases e
  exact hL
end

theorem two_new1 {a R : World} {v1 v2 : Value} {ys zs : List Nat} (h : Two a R v1 v2 ys zs) (t : TypeId) (cs : Array Value) : Whole (R.alloc (.cells cs t)) R.heap.size t cs := Whole.made_at _ _ _ _ rfl
theorem two_new2 {a R : World} {v1 v2 : Value} {ys zs : List Nat} (h : Two a R v1 v2 ys zs) (o : Obj) (t : TypeId) (cs : Array Value) : Whole ((R.alloc o).alloc (.cells cs t)) (R.heap.size + 1) t cs := Whole.made_at _ _ _ _ (by simp)
def OkL (l : List Cl) : Prop := (∀ x ∈ l, mayC x = true) ∧ l.length ≤ 4096
section
variable {l : List Cl} (r : Int)
theorem am_step {i : Nat} {x : Cl} (hx : l[i]? = some x) : amountsOf r (l.take (i + 1)) = amountsOf r (l.take i) ++ if x.right = r then [x.amount.toNat] else [] := by
  have hk : i < l.length := (List.getElem?_eq_some_iff.1 hx).1
  rw [List.take_succ_eq_append_getElem hk, (List.getElem?_eq_some_iff.1 hx).2, amountsOf_snoc]
theorem pl_step {i : Nat} {x : Cl} (hx : l[i]? = some x) : placesFrom r 0 (l.take (i + 1)) = placesFrom r 0 (l.take i) ++ if x.right = r then [i] else [] := by
  have hk : i < l.length := (List.getElem?_eq_some_iff.1 hx).1
  rw [List.take_succ_eq_append_getElem hk, (List.getElem?_eq_some_iff.1 hx).2, placesFrom_snoc, List.length_take, Nat.zero_add]
  have : min i l.length = i := by omega
  rw [this]
theorem am_small (h : OkL l) : ∀ a ∈ amountsOf r l, a ≤ 1099511627776 := fun a ha => by
  unfold amountsOf at ha
  obtain ⟨x, hx, rfl⟩ := List.mem_map.1 ha
  have := mayC_true (h.1 x (List.mem_filter.1 hx).1)
  omega
theorem am_len : (amountsOf r l).length ≤ l.length := by unfold amountsOf; rw [List.length_map]; exact List.length_filter_le ..
theorem OkL.take (h : OkL l) (i : Nat) : OkL (l.take i) := ⟨fun x hx => h.1 x (List.mem_of_mem_take hx), by have := h.2; rw [List.length_take]; omega⟩
theorem am_sum (h : OkL l) : (amountsOf r l).sum ≤ 4503599627370496 := by
  have h1 := sum_bound _ _ (am_small r h)
  have h2 := am_len (l := l) r
  have h3 := h.2
  have : (amountsOf r l).length * 1099511627776 ≤ 4096 * 1099511627776 := Nat.mul_le_mul_right _ (by omega)
  omega
end
theorem pot_le (pot : Nat) (l : List Cl) (r : Nat) : potM pot l r ≤ pot := pot_mono pot l 0 r (Nat.zero_le _)
end Go.Proofs.YtgbheogmccfaaaaGreat
