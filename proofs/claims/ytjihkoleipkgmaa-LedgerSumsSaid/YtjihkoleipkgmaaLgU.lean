/- Walks: few acts; a ledger behind acts. -/
import Derived.Test.YtjihkoleipkgmaaLgT
namespace Go.Proofs.Ytjihkoleipkgmaa
set_option linter.unusedVariables false
set_option linter.unusedSimpArgs false
open Go.RowKit Go.Maps

theorem aa_at {w : World} {B : Nat} {A : Option Addr} {xs : List Aa} (h : ListIn aaR w B A xs) {i : Nat} {x : Aa} (hx : xs[i]? = some x) :
    ∃ b off, A = some ⟨b, off, none⟩ ∧ b < B ∧ w.cell? ⟨b, off + i * 6, none⟩ = some (.int .u8 (x.kind : Int)) ∧ w.cell? ⟨b, off + i * 6 + 1, none⟩ = some (.string x.a) ∧ w.cell? ⟨b, off + i * 6 + 2, none⟩ = some (.string x.b) ∧ w.cell? ⟨b, off + i * 6 + 3, none⟩ = some (.string x.c) ∧
      w.cell? ⟨b, off + i * 6 + 4, none⟩ = some (.int .i64 x.n) ∧ w.cell? ⟨b, off + i * 6 + 5, none⟩ = some (.slice x.A x.ents.length x.cap) := by
  obtain ⟨b, off, e, hb, hc⟩ := h.at hx
  exact ⟨b, off, e, hb, hc 0 _ rfl, hc 1 _ rfl, hc 2 _ rfl, hc 3 _ rfl, hc 4 _ rfl, hc 5 _ rfl⟩
def longA (x : Aa) : Bool := decide (60 < x.a.size) || decide (70 < x.ents.length)
def fewB (xs : List Aa) : Bool := !xs.any longA && decide (xs.length ≤ 40)
theorem any_true {α : Type} {p : α → Bool} {l : List α} {x : α} {i : Nat} (hx : l[i]? = some x) (h : p x = true) : l.any p = true := List.any_eq_true.2 ⟨x, List.mem_of_getElem? hx, h⟩
theorem any_of_take {α : Type} {p : α → Bool} {l : List α} (h : ∀ (i : Nat) (x : α), l[i]? = some x → p x = false) : l.any p = false := by
  rw [List.any_eq_false]
  intro x hx
  obtain ⟨i, hi⟩ := List.getElem?_of_mem hx
  rw [h i x hi]; simp

set_option maxHeartbeats 4000000 in
set_option maxRecDepth 100000 in
theorem few_any (w : World) (xs : List Aa) (A : Option Addr) (nn c : Nat) (hn : nn = xs.length) (hc : nn ≤ maxLen) (hl : ListIn aaR w w.heap.size A xs) (hs : ∀ x ∈ xs, x.a.size ≤ maxLen ∧ x.ents.length ≤ maxLen) :
    Calls Try.prog 10 #[.slice A nn c] w fun e w' => e = .returned (.bool (fewB xs)) ∧ w = w' := by
  have HN := hide hn; have HX := hide hl; have HS := hide hs
  unfold maxLen at hc
  obtain ⟨r, hr⟩ : ∃ r, r = fewB xs := ⟨_, rfl⟩
  rw [← hr]
  have HR := hide hr
  clear hn hl hs hr
  go_enter Try.func10, Try.ntmps10
  go_wp2_with fail
  go_loop [3] (fun i => ∃ k : Nat, k ≤ nn ∧ i = .int .i64 k ∧ ∀ j, j < k → ∀ x, xs[j]? = some x → longA x = false) (fun i => nn - (intOf i).toNat)
  case atStart => exact ⟨0, Nat.zero_le _, rfl, fun j hj => absurd hj (Nat.not_lt_zero _)⟩
  case round =>
    obtain ⟨k, hk, rfl, hbef⟩ := hrel
    have HBF := hide hbef
    clear hbef
    by_cases hlt : k < nn
    · obtain ⟨x, hx⟩ : ∃ x, xs[k]? = some x := ⟨xs[k]'(by rw [← unhide HN]; exact hlt), List.getElem?_eq_getElem _⟩
      obtain ⟨b, off, rfl, hbb, c0, c1, c2, c3, c4, c5⟩ := aa_at (unhide HX) hx
      have HXK := hide hx
      obtain ⟨s1, s2⟩ := unhide HS x (List.mem_of_getElem? hx)
      unfold maxLen at s1 s2
      obtain ⟨nx, hnx⟩ : ∃ q, q = x.ents.length := ⟨_, rfl⟩
      have HNX := hide hnx
      rw [← hnx] at c5 s2
      clear hx hnx c0 c2 c3 c4
      by_cases h1 : 60 < x.a.size
      · have hres : fewB xs = false := by
          unfold fewB
          rw [any_true (unhide HXK) (by unfold longA; rw [decide_eq_true h1]; rfl)]; rfl
        have HE := hide (show r = false by rw [unhide HR, hres])
        clear hres
        have d1 : decide ((60 : Int) < (x.a.size : Int)) = true := by rw [decide_eq_true_eq]; omega
        have d2 : decide (60 < x.a.size) = true := by rw [decide_eq_true_eq]; omega
        clear h1
        go_wp2_with fail
        go_ret
        exact ⟨ret_bool (unhide HE).symm, rfl⟩
      · have d1 : decide ((60 : Int) < (x.a.size : Int)) = false := by rw [decide_eq_false_iff_not]; omega
        have d2 : decide (60 < x.a.size) = false := by rw [decide_eq_false_iff_not]; omega
        by_cases h2 : 70 < nx
        · have hres : fewB xs = false := by
            unfold fewB
            rw [any_true (unhide HXK) (by unfold longA; rw [← unhide HNX, decide_eq_true h2, Bool.or_true])]; rfl
          have HE := hide (show r = false by rw [unhide HR, hres])
          clear hres
          have d3 : decide ((70 : Int) < (nx : Int)) = true := by rw [decide_eq_true_eq]; omega
          have d4 : decide (70 < nx) = true := by rw [decide_eq_true_eq]; omega
          clear h1 h2
          go_wp2_with fail
          go_ret
          exact ⟨ret_bool (unhide HE).symm, rfl⟩
        · have d3 : decide ((70 : Int) < (nx : Int)) = false := by rw [decide_eq_false_iff_not]; omega
          have d4 : decide (70 < nx) = false := by rw [decide_eq_false_iff_not]; omega
          have hno : longA x = false := by unfold longA; rw [← unhide HNX, d2, d4]; rfl
          have HNO := hide hno
          clear h1 h2 hno
          go_wp2_with fail
          go_round
          case rel =>
            refine ⟨k + 1, by omega, by go_num, fun j hj y hy => ?_⟩
            by_cases hjk : j < k
            · exact unhide HBF j hjk y hy
            · obtain rfl : j = k := by omega
              rw [unhide HXK] at hy
              cases hy
              exact unhide HNO
          case measure => simp [intOf]; omega
    · have hall : xs.any longA = false := any_of_take fun i x hx => unhide HBF i (by have := (List.getElem?_eq_some_iff.1 hx).1; rw [← unhide HN] at this; omega) x hx
      have hres : r = decide (nn ≤ 40) := by rw [unhide HR]; unfold fewB; rw [hall, ← unhide HN]; rfl
      have HE := hide hres
      clear hall hres
      go_wp2_with fail
      go_ret
      exact ⟨ret_bool (by rw [unhide HE, decide_eq_decide]; omega), rfl⟩

/-- a ledger behind acts -/
def runS (xs : List Aa) : Lg := xs.foldl actS ⟨[], [], []⟩
theorem runS_step (xs : List Aa) (k : Nat) (x : Aa) (h : xs[k]? = some x) : runS (xs.take (k + 1)) = actS (runS (xs.take k)) x := by
  unfold runS
  rw [List.take_add_one, h, Option.toList_some, List.foldl_append]; rfl
/-- an act as it came in -/
structure Aa.In (w : World) (x : Aa) : Prop where
  good : x.Good
  list : ListIn enR w w.heap.size x.A x.ents
theorem Aa.In.after {w w' : World} {x : Aa} (h : x.In w) (hb : Below w.heap.size w w') : x.In w' := ⟨h.good, h.list.after hb⟩
theorem Aa.In.far {w : World} {x : Aa} (h : x.In w) (hne : x.ents ≠ []) : ∀ b off, x.A = some ⟨b, off, none⟩ → b < w.heap.size := fun b off e => by
  obtain ⟨b', off', e', hb, _⟩ := h.list hne
  rw [e'] at e
  cases e
  exact hb
def PlayedQ (w : World) (s : Lg) (n : Nat) (e : Ending) (w' : World) : Prop := ∃ v, e = .returned (.pointer (some ⟨w.heap.size + 2, 0, none⟩)) ∧ LedgerAt w' w.heap.size (w.heap.size + 2) s w.heap.size (w.heap.size + 1) v n ∧ Below w.heap.size w w'
/-- a turn of what is new leaves what was -/
theorem turn_below {w w1 w2 : World} {p ma mh n : Nat} {s : Lg} {v : Value} (hb : Below w.heap.size w w1) (hL : LedgerAt w1 w.heap.size p s ma mh v n) (ht : Turn (foot p ma mh v) w1 w2) : Below w.heap.size w w2 :=
  hb.trans (ht.below (fun k hk => (hL.lt k hk).1) hb.size)
set_option maxHeartbeats 4000000 in
set_option maxRecDepth 100000 in
theorem played_any (w : World) (xs : List Aa) (A : Option Addr) (nn c : Nat) (hn : nn = xs.length) (hc : nn ≤ 90) (hl : ListIn aaR w w.heap.size A xs) (hs : ∀ x ∈ xs, x.In w) :
    Calls Try.prog 11 #[.slice A nn c] w (PlayedQ w (runS xs) (2 * nn)) := by
  have HN := hide hn; have HX := hide hl; have HS := hide hs
  obtain ⟨r, hr⟩ : ∃ r, r = runS xs := ⟨_, rfl⟩
  rw [← hr]
  have HR := hide hr
  unfold PlayedQ
  clear hn hl hs hr
  go_enter Try.func11, Try.ntmps11
  go_wp2_with fail
  (with_reducible refine (New_any _ _).mono ?_); rintro e w1 ⟨rfl, hL, hb⟩
  have HL0 := hide (And.intro hL hb)
  clear hL hb
  go_wp2_with fail
  go_loopw [4] (fun i wr => ∃ (k : Nat) (v : Value), k ≤ nn ∧ i = .int .i64 k ∧ LedgerAt wr w.heap.size (w.heap.size + 2) (runS (xs.take k)) w.heap.size (w.heap.size + 1) v (2 * k) ∧ Below w.heap.size w wr) (fun i _ => nn - (intOf i).toNat)
  case atStart => exact ⟨0, _, Nat.zero_le _, rfl, (unhide HL0).1, (unhide HL0).2⟩
  case round =>
    obtain ⟨k, v, hk, rfl, hL, hb⟩ := hrel
    obtain ⟨wp, rfl⟩ : ∃ wp : World, wp = wr := ⟨_, rfl⟩
    by_cases hlt : k < nn
    · obtain ⟨x, hx⟩ : ∃ x, xs[k]? = some x := ⟨xs[k]'(by rw [← unhide HN]; exact hlt), List.getElem?_eq_getElem _⟩
      obtain ⟨b, off, rfl, hbb, c0, c1, c2, c3, c4, c5⟩ := aa_at ((unhide HX).after hb) hx
      have hin := (unhide HS x (List.mem_of_getElem? hx))
      have hin2 := hin.after hb
      have HDO := hide (do_any wp w.heap.size (w.heap.size + 2) w.heap.size (w.heap.size + 1) (2 * k) (runS (xs.take k)) v x hL (by omega) hin2.good hin2.list (fun hne b off e hf => by
        have h1 := hin.far hne b off e
        have h2 := (hL.lt b hf).1
        omega))
      have HST := hide (runS_step xs k x hx)
      have HLB := hide (And.intro hL hb)
      clear hx hin hin2 hL hb
      go_wp2_with fail
      (with_reducible refine (unhide HDO).mono ?_); rintro e w2 ⟨rfl, hq⟩
      have HQ := hide hq
      clear hq c0 c1 c2 c3 c4 c5 hbb
      go_wp2_with fail
      go_roundw
      case rel =>
        obtain ⟨v', h1, h2, h3⟩ := unhide HQ
        rw [← unhide HST] at h1
        exact ⟨k + 1, v', by omega, by go_num, h1.mono (by omega), turn_below (unhide HLB).2 (unhide HLB).1 h2⟩
      case measure => simp [intOf]; omega
    · have hfin : xs.take k = xs := List.take_of_length_le (by rw [← unhide HN]; omega)
      obtain rfl : k = nn := by omega
      rw [hfin, ← unhide HR] at hL
      have HLB := hide (And.intro hL hb)
      clear hfin hL hb
      go_wp2_with fail
      go_ret
      exact ⟨v, rfl, (unhide HLB).1, (unhide HLB).2⟩
end Go.Proofs.Ytjihkoleipkgmaa
