/- Rows of texts; the library's sort of such a row. -/
import Derived.Test.YtgalpdjmmpjddaaRowsG
import Derived.Test.YtgalpdjmmpjddaaShelf
import Derived.Sort.OwnSorted
import Derived.Sort.KeysCollected
namespace Go.Proofs.Ytgalpdjmmpjddaa
set_option linter.unusedVariables false
set_option linter.unusedSimpArgs false
open Go.RowKit Go.Maps

def stR : Rowing (List UInt8) where
  sz := 1
  cells s := [encStr s]
  pos := by omega
  len _ := rfl
  one x u hu := by simp at hu; subst hu; rfl
theorem st_flat (ss : List (List UInt8)) : ss.flatMap stR.cells = ss.map encStr := by
  induction ss with
  | nil => rfl
  | cons s r ih => rw [List.flatMap_cons, ih]; rfl
theorem st_at {w : World} {B : Nat} {A : Option Addr} {xs : List (List UInt8)} (h : ListIn stR w B A xs) {i : Nat} {x : List UInt8} (hx : xs[i]? = some x) :
    ∃ b off, A = some ⟨b, off, none⟩ ∧ b < B ∧ w.cell? ⟨b, off + i, none⟩ = some (.string ⟨x.toArray⟩) := by
  obtain ⟨b, off, e, hb, hc⟩ := h.at hx
  have := hc 0 _ rfl
  simp [stR] at this
  exact ⟨b, off, e, hb, this⟩
theorem info_str : (Try.prog.info? 9).map (fun i => (i.zero, i.size, i.bytes)) = some (some (.string ⟨#[]⟩), 1, 16) := by kernel_rfl

/-- the library's sort, at a row of the call's own -/
theorem sort_own (base g cap n : Nat) (ss : List (List UInt8)) (w : World) (h : w.ownsRow base 9 1 (.slice (some ⟨g, 0, none⟩) n cap) n (ss.map encStr)) (hn : n ≤ 100000) :
    Calls Try.prog 44 #[.slice (some ⟨g, 0, none⟩) n cap] w fun e w' => e = .returned (.tuple #[]) ∧
      w'.ownsRow base 9 1 (.slice (some ⟨g, 0, none⟩) n cap) n ((ss.mergeSort leB).map encStr) ∧ w.grownBy w' (some g) := by
  have hl : n = ss.length := by have := h.1; simpa using this.symm
  subst hl
  rcases h.2 with ⟨hnil, _⟩ | ⟨g', cap', cur, e, hbase, hb, h1, h2, h3, h4⟩
  · cases hnil
  · cases e
    have hH := Go.holds_of_block hb (by simpa using h4)
    refine (Go.Proofs.Try.slices_Sort_string g 0 cap ss w hH (Array.getElem?_eq_some_iff.1 hb).1 (by omega)).mono ?_
    rintro e w' ⟨rfl, nn, os, rfl⟩
    exact ⟨rfl, Go.ownsRow_sorted (by simp) hbase hb h1 h2 h3, Go.grownBy_sorted _⟩
theorem sort_none (p : Option Addr) (cap : Nat) (w : World) : Calls Try.prog 44 #[.slice p 0 cap] w fun e w' => e = .returned (.tuple #[]) ∧ w = w' :=
  (Go.Proofs.Try.slices_Sort_string_none p cap w).mono fun e w' ⟨h1, h2⟩ => ⟨h1, h2.symm⟩
end Go.Proofs.Ytgalpdjmmpjddaa
