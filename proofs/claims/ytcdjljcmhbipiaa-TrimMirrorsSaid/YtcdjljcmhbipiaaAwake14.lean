/- Walks: the law's example. -/
import Derived.Test.YtcdjljcmhbipiaaMomA
namespace Go.Proofs.Ytcdjljcmhbipiaa
open Go.RowKit

theorem flat_at (xs : List Ld) (i j : Nat) (x : Ld) (v : Value) (hx : xs[i]? = some x) (hv : x.cells[j]? = some v) : (xs.flatMap Ld.cells)[i * 7 + j]? = some v := by
  induction xs generalizing i with
  | nil => simp at hx
  | cons y r ih =>
    have hj : j < 7 := (List.getElem?_eq_some_iff.1 hv).1
    rw [List.flatMap_cons]
    cases i with
    | zero =>
      simp at hx; subst hx
      rw [List.getElem?_append_left (by show _ < 7; omega)]
      simpa using hv
    | succ i =>
      rw [List.getElem?_append_right (by show 7 ≤ _; omega)]
      have e : (i + 1) * 7 + j - y.cells.length = i * 7 + j := by show (i + 1) * 7 + j - 7 = _; omega
      rw [e]
      exact ih i (by simpa using hx)
theorem loads_of_cells {w : World} {b : Nat} {xs : List Ld} {B : Nat} (hb : b < B) (h : ∀ j v, (xs.flatMap Ld.cells)[j]? = some v → w.cell? ⟨b, j, none⟩ = some v) : LoadsIn w B (some ⟨b, 0, none⟩) xs :=
  fun _ => ⟨b, 0, rfl, hb, fun i x hx j v hv => by rw [Nat.zero_add]; exact h _ _ (flat_at xs i j x v hx hv)⟩
theorem loads_made (w : World) (t : TypeId) (xs : List Ld) : LoadsIn (w.alloc (.cells (xs.flatMap Ld.cells).toArray t)) (w.alloc (.cells (xs.flatMap Ld.cells).toArray t)).heap.size (some ⟨w.heap.size, 0, none⟩) xs :=
  loads_of_cells (by simp) fun j v hv => by rw [(Whole.made w t _).cells]; simpa using hv

theorem loads_made_at (w : World) (n : Nat) (hn : n = w.heap.size) (t : TypeId) (xs : List Ld) : LoadsIn (w.alloc (.cells (xs.flatMap Ld.cells).toArray t)) (w.alloc (.cells (xs.flatMap Ld.cells).toArray t)).heap.size (some ⟨n, 0, none⟩) xs := by
  subst hn; exact loads_made w t xs

def exShip : Shp := ⟨⟨#[115]⟩, 2, 1, 1, 99, 1, 1, 1, 99⟩
def exLoads : List Ld := [⟨0, 0, 0, ⟨#[]⟩, 6, 0, 0⟩, ⟨1, 0, 0, ⟨#[]⟩, 4, 0, 0⟩]
theorem ex_long : mLong exShip exLoads = -2 := by decide +kernel
theorem ex_cross : mCross exShip exLoads = 0 := by decide +kernel
theorem ex_up : mUp exShip exLoads = 0 := by decide +kernel
theorem ex_weight : mWeight exShip exLoads = 10 := by decide +kernel

set_option maxHeartbeats 1000000 in
theorem awake_any (w : World) : Calls Try.prog 7 #[] w fun e w' => e = .returned (.bool true) ∧ Below w.heap.size w w' := by
  have hl := loads_made_at (w.alloc (.cells #[.string ⟨#[115]⟩, .int .i64 2, .int .i64 1, .int .i64 1, .int .i64 99, .int .i64 1, .int .i64 1, .int .i64 1, .int .i64 99] 23)) (w.heap.size + 1) (by simp) 33 exLoads
  have h1 : Calls Try.prog 9 #[.agg #[.string ⟨#[115]⟩, .int .i64 2, .int .i64 1, .int .i64 1, .int .i64 99, .int .i64 1, .int .i64 1, .int .i64 1, .int .i64 99], .slice (some ⟨w.heap.size + 1, 0, none⟩) 2 2]
      ((w.alloc (.cells #[.string ⟨#[115]⟩, .int .i64 2, .int .i64 1, .int .i64 1, .int .i64 99, .int .i64 1, .int .i64 1, .int .i64 1, .int .i64 99] 23)).alloc
        (.cells #[.int .i64 0, .int .i64 0, .int .i64 0, .string ⟨#[]⟩, .int .i64 6, .int .i64 0, .int .i64 0, .int .i64 1, .int .i64 0, .int .i64 0, .string ⟨#[]⟩, .int .i64 4, .int .i64 0, .int .i64 0] 33)) _ :=
    Moments_any exShip _ exLoads 2 _ (by show 1 ≤ maxLen; unfold maxLen; omega) hl
  rw [ex_long, ex_cross, ex_up, ex_weight] at h1
  clear hl
  have H1 := hide h1; clear h1
  go_enter Try.func7, Try.ntmps7
  go_wp2_with fail
  refine (unhide H1).mono ?_; rintro e w1 ⟨rfl, hb⟩
  have hb1 := (((Below.refl w.heap.size w).alloc (Nat.le_refl _) _).alloc (by simp) _).trans (hb.mono (by simp; omega))
  have HB := hide hb1; clear hb1 hb
  go_wp2_with fail
  go_ret
  exact ⟨rfl, unhide HB⟩
end Go.Proofs.Ytcdjljcmhbipiaa
