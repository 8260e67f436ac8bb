/- Rows of loads as the proofs have them. -/
import Derived.Test.YtcdjljcmhbipiaaShipA
namespace Go.Proofs.Ytcdjljcmhbipiaa
open Go.RowKit

/-- a load, as the proofs have it -/
structure Ld where
  bay : Int
  row : Int
  tier : Int
  box : ByteArray
  wt : Int
  cls : Int
  port : Int

def Ld.cells (x : Ld) : List Value := [.int .i64 x.bay, .int .i64 x.row, .int .i64 x.tier, .string x.box, .int .i64 x.wt, .int .i64 x.cls, .int .i64 x.port]

/-- a slice that begins at A holds these loads, in blocks below B -/
def LoadsIn (w : World) (B : Nat) (A : Option Addr) (xs : List Ld) : Prop :=
  xs ≠ [] → ∃ b off, A = some ⟨b, off, none⟩ ∧ b < B ∧ ∀ i x, xs[i]? = some x → CellsAt w b (off + i * 7) x.cells
theorem LoadsIn.keep {w w' : World} {B : Nat} {A : Option Addr} {xs : List Ld} (h : LoadsIn w B A xs) (hk : ∀ b o, b < B → w'.cell? ⟨b, o, none⟩ = w.cell? ⟨b, o, none⟩) : LoadsIn w' B A xs := fun hne => by
  obtain ⟨b, off, e, hb, hc⟩ := h hne
  exact ⟨b, off, e, hb, fun i x hx => (hc i x hx).keep fun o => hk b o hb⟩
theorem LoadsIn.below {w w' : World} {B : Nat} {A : Option Addr} {xs : List Ld} (h : LoadsIn w B A xs) (hb : Below B w w') : LoadsIn w' B A xs := h.keep (old_cells hb)
theorem LoadsIn.more {w : World} {B B' : Nat} {A : Option Addr} {xs : List Ld} (h : LoadsIn w B A xs) (hB : B ≤ B') : LoadsIn w B' A xs := fun hne => by
  obtain ⟨b, off, e, hb, hc⟩ := h hne
  exact ⟨b, off, e, by omega, hc⟩
/-- the seven cells of a load -/
theorem LoadsIn.at {w : World} {B : Nat} {A : Option Addr} {xs : List Ld} (h : LoadsIn w B A xs) {i : Nat} {x : Ld} (hx : xs[i]? = some x) :
    ∃ b off, A = some ⟨b, off, none⟩ ∧ b < B ∧ w.cell? ⟨b, off + i * 7, none⟩ = some (.int .i64 x.bay) ∧ w.cell? ⟨b, off + i * 7 + 1, none⟩ = some (.int .i64 x.row) ∧ w.cell? ⟨b, off + i * 7 + 2, none⟩ = some (.int .i64 x.tier) ∧
      w.cell? ⟨b, off + i * 7 + 3, none⟩ = some (.string x.box) ∧ w.cell? ⟨b, off + i * 7 + 4, none⟩ = some (.int .i64 x.wt) ∧ w.cell? ⟨b, off + i * 7 + 5, none⟩ = some (.int .i64 x.cls) ∧ w.cell? ⟨b, off + i * 7 + 6, none⟩ = some (.int .i64 x.port) := by
  obtain ⟨b, off, e, hb, hc⟩ := h (by intro e; subst e; simp at hx)
  have hc := hc i x hx
  exact ⟨b, off, e, hb, by simpa using hc 0 _ rfl, hc 1 _ rfl, hc 2 _ rfl, hc 3 _ rfl, hc 4 _ rfl, hc 5 _ rfl, hc 6 _ rfl⟩

end Go.Proofs.Ytcdjljcmhbipiaa
