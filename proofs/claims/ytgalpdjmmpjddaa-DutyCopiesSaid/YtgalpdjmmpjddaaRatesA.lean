/- Rows of a tariff as the proofs have them; the reference's find. -/
import Derived.Test.YtgalpdjmmpjddaaNameD
namespace Go.Proofs.Ytgalpdjmmpjddaa
set_option linter.unusedVariables false
set_option linter.unusedSimpArgs false
open Go.RowKit

/-- a row, as the proofs have it -/
structure Rt where
  frm : ByteArray
  to_ : ByteArray
  day : Int
  num : Int
  den : Int

def Rt.cells (x : Rt) : List Value := [.string x.frm, .string x.to_, .int .i64 x.day, .int .i64 x.num, .int .i64 x.den]

/-- a slice that begins at A holds these rows, in blocks below B -/
def RatesIn (w : World) (B : Nat) (A : Option Addr) (xs : List Rt) : Prop :=
  xs ≠ [] → ∃ b off, A = some ⟨b, off, none⟩ ∧ b < B ∧ ∀ i x, xs[i]? = some x → CellsAt w b (off + i * 5) x.cells
theorem RatesIn.keep {w w' : World} {B : Nat} {A : Option Addr} {xs : List Rt} (h : RatesIn w B A xs) (hk : ∀ b o, b < B → w'.cell? ⟨b, o, none⟩ = w.cell? ⟨b, o, none⟩) : RatesIn w' B A xs := fun hne => by
  obtain ⟨b, off, e, hb, hc⟩ := h hne
  exact ⟨b, off, e, hb, fun i x hx => (hc i x hx).keep fun o => hk b o hb⟩
theorem RatesIn.below {w w' : World} {B : Nat} {A : Option Addr} {xs : List Rt} (h : RatesIn w B A xs) (hb : Below B w w') : RatesIn w' B A xs := h.keep (old_cells hb)
theorem RatesIn.more {w : World} {B B' : Nat} {A : Option Addr} {xs : List Rt} (h : RatesIn w B A xs) (hB : B ≤ B') : RatesIn w B' A xs := fun hne => by
  obtain ⟨b, off, e, hb, hc⟩ := h hne
  exact ⟨b, off, e, by omega, hc⟩
/-- the rows ahead of a place -/
theorem RatesIn.take {w : World} {B : Nat} {A : Option Addr} {xs : List Rt} (h : RatesIn w B A xs) (k : Nat) : RatesIn w B A (xs.take k) := fun hne => by
  obtain ⟨b, off, e, hb, hc⟩ := h (by intro e; subst e; simp at hne)
  refine ⟨b, off, e, hb, fun i x hx => hc i x ?_⟩
  rw [List.getElem?_take] at hx
  split at hx
  · exact hx
  · simp at hx
/-- the cells of a row -/
theorem RatesIn.at {w : World} {B : Nat} {A : Option Addr} {xs : List Rt} (h : RatesIn w B A xs) {i : Nat} {x : Rt} (hx : xs[i]? = some x) :
    ∃ b off, A = some ⟨b, off, none⟩ ∧ b < B ∧ w.cell? ⟨b, off + i * 5, none⟩ = some (.string x.frm) ∧ w.cell? ⟨b, off + i * 5 + 1, none⟩ = some (.string x.to_) ∧ w.cell? ⟨b, off + i * 5 + 2, none⟩ = some (.int .i64 x.day) ∧
      w.cell? ⟨b, off + i * 5 + 3, none⟩ = some (.int .i64 x.num) ∧ w.cell? ⟨b, off + i * 5 + 4, none⟩ = some (.int .i64 x.den) := by
  obtain ⟨b, off, e, hb, hc⟩ := h (by intro e; subst e; simp at hx)
  have hc := hc i x hx
  exact ⟨b, off, e, hb, by simpa using hc 0 _ rfl, hc 1 _ rfl, hc 2 _ rfl, hc 3 _ rfl, hc 4 _ rfl⟩

theorem bytes_eq {a b : ByteArray} : a.toList = b.toList ↔ a = b := by
  constructor
  · intro h
    rw [ByteArray.toList_eq, ByteArray.toList_eq] at h
    exact ByteArray.ext (Array.ext' h)
  · rintro rfl; rfl

/-- is it the row of a code, and of an origin? -/
def hit (x : Rt) (c o : ByteArray) : Bool := decide (x.frm = c) && decide (x.to_ = o)
theorem hit_bytes (x : Rt) (c o : ByteArray) : hit x c o = ((x.frm.toList == c.toList) && (x.to_.toList == o.toList)) := by
  rw [Bool.eq_iff_iff]; simp [hit, bytes_eq]
/-- its place; -1: there is none -/
def fnd (c o : ByteArray) : Nat → List Rt → Int
  | _, [] => -1
  | k, x :: r => if hit x c o then (k : Int) else fnd c o (k + 1) r
theorem fnd_at (c o : ByteArray) (xs : List Rt) (k : Nat) (x : Rt) (hx : xs[k]? = some x) : fnd c o k (xs.drop k) = if hit x c o then (k : Int) else fnd c o (k + 1) (xs.drop (k + 1)) := by
  have hk : k < xs.length := (List.getElem?_eq_some_iff.1 hx).1
  rw [List.drop_eq_getElem_cons hk, (List.getElem?_eq_some_iff.1 hx).2, fnd]

set_option maxHeartbeats 1000000 in
theorem find_any (xs : List Rt) (A : Option Addr) (n c : Nat) (co og : ByteArray) (w : World) (hn : n = xs.length) (hlen : n ≤ 4096) (hx : RatesIn w w.heap.size A xs) :
    Calls Try.prog 33 #[.slice A n c, .string co, .string og] w fun e w' => e = .returned (.int .i64 (fnd co og 0 xs)) ∧ w = w' := by
  have HN := hide hn
  have HX := hide hx
  clear hn hx
  obtain ⟨r, hr⟩ : ∃ r, r = fnd co og 0 xs := ⟨_, rfl⟩
  rw [← hr]
  have HR := hide hr
  clear hr
  go_enter Try.func33, Try.ntmps33
  go_wp2_with fail
  go_loop [7] (fun i => ∃ k : Nat, k ≤ n ∧ i = .int .i64 k ∧ Hid (r = fnd co og k (xs.drop k))) (fun i => n - (intOf i).toNat)
  case atStart => exact ⟨0, by omega, rfl, hide (unhide HR)⟩
  case round =>
    obtain ⟨k, hk, rfl, HI⟩ := hrel
    by_cases hlt : k < n
    · obtain ⟨x, hx⟩ : ∃ x, xs[k]? = some x := ⟨xs[k]'(by rw [← unhide HN]; exact hlt), List.getElem?_eq_getElem _⟩
      obtain ⟨b, off, rfl, hbb, c0, c1, c2, c3, c4⟩ := (unhide HX).at hx
      have hst := fnd_at co og xs k x hx
      rw [← unhide HI] at hst
      rw [hit_bytes] at hst
      have HS := hide hst
      clear hst hx c2 c3 c4
      cases h1 : (x.frm.toList == co.toList) <;> cases h2 : (x.to_.toList == og.toList)
      all_goals
        have hst := unhide HS
        rw [h1, h2] at hst
        clear HS
        have HS := hide hst
        clear hst
      case true.true =>
        go_wp2_with fail
        all_goals first
          | (go_ret; exact ⟨ret_int (unhide HS).symm, rfl⟩)
          | (exfalso; simp_all)
      all_goals
        go_wp2_with fail
        all_goals first
          | (exfalso; simp_all; done)
          | (go_round
             case rel => exact ⟨k + 1, by omega, by go_num, hide (unhide HS)⟩
             case measure => simp [intOf]; omega)
    · have hend : r = -1 := by rw [unhide HI, List.drop_eq_nil_of_le (by rw [← unhide HN]; omega)]; rfl
      have HE := hide hend
      clear hend
      go_wp2_with fail
      go_ret
      exact ⟨ret_int (unhide HE).symm, rfl⟩
end Go.Proofs.Ytgalpdjmmpjddaa
