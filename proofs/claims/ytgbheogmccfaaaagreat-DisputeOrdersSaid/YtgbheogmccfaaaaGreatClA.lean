/- Claimants in memory; numbers and texts compared. -/
import Derived.Test.YtgbheogmccfaaaaGreatDisP
import Derived.Test.YtgbheogmccfaaaaGreatLaid
import Derived.Test.YtgbheogmccfaaaaGreatShelf
import Derived.Shelf.Small.Strs
namespace Go.Proofs.YtgbheogmccfaaaaGreat
set_option linter.unusedVariables false
set_option linter.unusedSimpArgs false
open Go.RowKit

def Cl.row (x : Cl) : List Value := [.string x.name, .string x.thing, .int .i64 x.right, .int .i64 x.day, .int .i64 x.amount]
abbrev Cl.val (x : Cl) : Value := .agg #[.string x.name, .string x.thing, .int .i64 x.right, .int .i64 x.day, .int .i64 x.amount]
def clR : Rowing Cl where
  sz := 5
  cells := Cl.row
  pos := by omega
  len _ := rfl
  one x u hu := by
    simp [Cl.row] at hu
    rcases hu with rfl | rfl | rfl | rfl | rfl <;> rfl
theorem cl_at {w : World} {B : Nat} {A : Option Addr} {xs : List Cl} (h : ListIn clR w B A xs) {i : Nat} {x : Cl} (hx : xs[i]? = some x) :
    ∃ b off, A = some ⟨b, off, none⟩ ∧ b < B ∧ w.cell? ⟨b, off + i * 5, none⟩ = some (.string x.name) ∧ w.cell? ⟨b, off + i * 5 + 1, none⟩ = some (.string x.thing) ∧ w.cell? ⟨b, off + i * 5 + 2, none⟩ = some (.int .i64 x.right) ∧
      w.cell? ⟨b, off + i * 5 + 3, none⟩ = some (.int .i64 x.day) ∧ w.cell? ⟨b, off + i * 5 + 4, none⟩ = some (.int .i64 x.amount) := by
  obtain ⟨b, off, e, hb, hc⟩ := h.at hx
  exact ⟨b, off, e, hb, by simpa [clR] using hc 0 _ rfl, hc 1 _ rfl, hc 2 _ rfl, hc 3 _ rfl, hc 4 _ rfl⟩

set_option maxHeartbeats 400000 in
theorem cmpInt_any (x y : Int) (w : World) :
    Calls Tryz.prog 48 #[.int .i64 x, .int .i64 y] w fun e w' => e = .returned (.int .i64 (cmpI x y)) ∧ w = w' := by
  go_enter Tryz.func48, Tryz.ntmps48
  go_wp2
  all_goals (go_ret; exact ⟨ret_int (by unfold cmpI; split <;> (try split) <;> omega), rfl⟩)
set_option maxHeartbeats 400000 in
theorem cmpInt64_any (x y : Int) (w : World) :
    Calls Tryz.prog 59 #[.int .i64 x, .int .i64 y] w fun e w' => e = .returned (.int .i64 (cmpI x y)) ∧ w = w' := by
  go_enter Tryz.func59, Tryz.ntmps59
  go_wp2
  all_goals (go_ret; exact ⟨ret_int (by unfold cmpI; split <;> (try split) <;> omega), rfl⟩)
set_option maxHeartbeats 400000 in
theorem cmpUint64_any (x y : Int) (w : World) :
    Calls Tryz.prog 47 #[.int .u64 x, .int .u64 y] w fun e w' => e = .returned (.int .i64 (cmpI x y)) ∧ w = w' := by
  go_enter Tryz.func47, Tryz.ntmps47
  go_wp2
  all_goals (go_ret; exact ⟨ret_int (by unfold cmpI; split <;> (try split) <;> omega), rfl⟩)
theorem u8_tri (a b : UInt8) (h1 : ¬ a < b) (h2 : ¬ b < a) : a = b := by
  rw [UInt8.lt_iff_toNat_lt] at h1 h2
  exact UInt8.toNat_inj.1 (by omega)
theorem compareBytes_l : ∀ a b : List UInt8, Go.Lib.compareBytes a b = if a < b then -1 else if b < a then 1 else 0
  | [], [] => by simp [Go.Lib.compareBytes]
  | [], _ :: _ => by simp [Go.Lib.compareBytes]
  | _ :: _, [] => by simp [Go.Lib.compareBytes]
  | a :: p, b :: q => by
    rw [Go.Lib.compareBytes, compareBytes_l p q]
    simp only [List.cons_lt_cons_iff]
    by_cases h1 : a < b
    · simp [h1]
    · by_cases h2 : b < a
      · have : ¬ a = b := fun e => by subst e; exact absurd h2 h1
        simp [h1, h2, this]
      · have := u8_tri a b h1 h2
        subst this
        simp [h1]
theorem compareBytes_eq (a b : ByteArray) : Go.Lib.compareBytes a.data.toList b.data.toList = cmpS a b := compareBytes_l _ _
theorem cmpStr_any (a b : ByteArray) (w : World) :
    Calls Tryz.prog 57 #[.string a, .string b] w fun e w' => e = .returned (.int .i64 (cmpS a b)) ∧ w = w' :=
  (Go.Proofs.Tryz.strings_Compare a b w).mono fun e w' ⟨h1, h2⟩ => ⟨by rw [h1, compareBytes_eq], h2.symm⟩
end Go.Proofs.YtgbheogmccfaaaaGreat
