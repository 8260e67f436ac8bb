/- The sorted keys of a map from texts to texts: the library's calls. -/
import Derived.Test.YtgbheogmccfaaaaGreatTxtK
namespace Go.Proofs.YtgbheogmccfaaaaGreat
set_option linter.unusedVariables false
set_option linter.unusedSimpArgs false
open Go.RowKit Go.Maps

theorem mapsKeys_any (mb : Option Nat) (W : World) : Calls Tryz.prog 34 #[.map mb] W fun e w' => e = .returned (.func (.func 53) #[] #[.pointer (some ⟨W.heap.size, 0, none⟩)]) ∧ w' = W.alloc (.cells #[.map mb] 62) :=
  callsIn_wide.1 (Go.Proofs.Tryz.maps_Keys_34 mb W)
theorem sortedKeys_any (b n : Nat) (f : ByteArray → Option Value) (w : World) (h : MapAt txtKeys w b n f) (hn : n ≤ 100000) :
    Calls Tryz.prog 33 #[.func (.func 53) #[] #[.pointer (some ⟨w.heap.size, 0, none⟩)]] (w.alloc (.cells #[.map (some b)] 62)) fun e w' => ∃ (v : Value) (ks : List ByteArray), e = .returned v ∧ Rising ks ∧ (∀ s, s ∈ ks ↔ s.size ≤ maxLen ∧ (f s).isSome = true) ∧ ks.length ≤ n ∧
      w'.ownsRow w.heap.size 9 txtR.sz v ks.length (ks.flatMap txtR.cells) ∧ Below w.heap.size w w' := by
  obtain ⟨D, hD, hnd, hm⟩ := h.keys
  have hsz := hD.size_le
  refine (callsIn_wide.1 (Go.Proofs.Tryz.slices_Sorted_keys_33_34 b n D raw w hD (by unfold maxLen; omega) (by omega))).mono ?_
  rintro e w' ⟨v, ss, rfl, hS, hrow, _, hb⟩
  obtain ⟨ks, k1, k2, k3, k4⟩ := keys_row (w := w) (b := b) (n := n) hnd hm hS
  rw [← k3] at hrow
  have hlen : ks.length ≤ n := by
    rw [k3, hS.length_eq]
    have : (Go.strKeys D).length = Maps.size D := by
      obtain ⟨es, rfl, _⟩ := hD.entries txtKeyed
      simp [Go.strKeys, Maps.size]
    omega
  refine ⟨v, ks, rfl, k1, k2, hlen, ?_, ((Below.refl _ w).alloc (Nat.le_refl _) _).trans (hb.mono (by simp))⟩
  have e : (ss.mergeSort (fun x y => decide (x ≤ y))).map encStr = ks.flatMap txtR.cells := k4
  rw [e] at hrow
  exact ownsRow_base_a hrow (by simp)
end Go.Proofs.YtgbheogmccfaaaaGreat
