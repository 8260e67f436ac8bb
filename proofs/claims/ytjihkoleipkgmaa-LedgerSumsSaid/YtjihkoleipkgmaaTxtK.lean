/- Texts as a map's keys; the keys of a map, sorted by the library. -/
import Derived.Test.YtjihkoleipkgmaaRangeA
import Derived.Test.YtjihkoleipkgmaaRowsG
import Derived.Test.YtjihkoleipkgmaaIter
import Derived.Sort.KeysCollected
namespace Go.Proofs.Ytjihkoleipkgmaa
set_option linter.unusedVariables false
set_option linter.unusedSimpArgs false
open Go.RowKit Go.Maps

theorem txtKeyed : Keyed Try.prog 9 := string_keyed Try.underlying9
theorem txt_keyOf {s : ByteArray} (h : s.size ≤ maxLen) : keyOf Try.prog 9 (.string s) = some (.string s.data.toList) := by
  have hl : s.data.size ≤ maxLen := h
  simp [keyOf, Try.underlying9, mapKey]
  exact h
theorem txt_inv {key : Value} {kl : Lit} (h : keyOf Try.prog 9 key = some kl) : ∃ x : ByteArray, x.size ≤ maxLen ∧ key = .string x := by
  cases key <;> simp [keyOf, Try.underlying9, mapKey] at h
  rename_i s
  exact ⟨s, h.1, rfl⟩
/-- texts as keys -/
def txtKeys : Keying Try.prog 9 ByteArray where
  kv x := .string x
  kl x := .string x.data.toList
  good x := x.size ≤ maxLen
  keyed := txtKeyed
  key x h := txt_keyOf h
  inj x y hx hy e := by
    simp at e
    exact ByteArray.ext e

theorem has_key {es : List (Lit × DataW Value)} (hk : ∀ p ∈ es, ∃ x, p.1 = .string x) (x : List UInt8) : x ∈ Go.strKeys (DataW.map es) ↔ has (.map es) (.string x) = true := by
  rw [has_eq, List.any_eq_true]
  show x ∈ es.map (fun p => strOf p.1) ↔ _
  rw [List.mem_map]
  constructor
  · rintro ⟨p, hp, rfl⟩
    obtain ⟨a, ha⟩ := hk p hp
    exact ⟨p, hp, by rw [ha]; simp [Lit.sameKey, strOf]⟩
  · rintro ⟨p, hp, hs⟩
    obtain ⟨a, ha⟩ := hk p hp
    rw [ha] at hs
    exact ⟨p, hp, by rw [ha]; simpa [Lit.sameKey, strOf] using hs⟩
/-- the keys that stand in a map -/
theorem MapAt.keys {w : World} {b n : Nat} {f : ByteArray → Option Value} (h : MapAt txtKeys w b n f) :
    ∃ D : DataW Value, w.ownsMap Try.prog 9 raw b n D ∧ (Go.strKeys D).Nodup ∧ ∀ s : ByteArray, s.data.toList ∈ Go.strKeys D ↔ s.size ≤ maxLen ∧ (f s).isSome = true := by
  obtain ⟨D, hD, hf⟩ := h
  obtain ⟨es, rfl, hpw, _⟩ := hD.entries txtKeyed
  obtain ⟨es', he, hko⟩ := hD.keysOf
  obtain rfl : es = es' := by simpa using he
  have hk : ∀ p ∈ es, ∃ x, p.1 = Lit.string x := fun p hp => by
    obtain ⟨v, hv⟩ := hko p hp
    obtain ⟨x, _, hx, _⟩ := Maps.keyOf_str Try.underlying9 hv
    exact ⟨x, hx⟩
  refine ⟨_, hD, ?_, fun s => ?_⟩
  · show (es.map fun p => strOf p.1).Nodup
    refine List.pairwise_map.2 (hpw.imp_of_mem fun {p q} hp' hq' hne e => hne ?_)
    obtain ⟨a, ha⟩ := hk p hp'
    obtain ⟨b, hb⟩ := hk q hq'
    rw [ha, hb] at e ⊢
    exact congrArg _ e
  · constructor
    · intro hm
      have hl : s.size ≤ maxLen := by
        have h2 : s.data.toList.length ≤ maxLen := strKeys_le hD Try.underlying9 _ hm
        rw [Array.length_toList] at h2
        exact h2
      refine ⟨hl, ?_⟩
      have hh := (has_key hk _).1 hm
      cases hv : f s with
      | some v => rfl
      | none => have := has_false_of_atKey ((hf s hl).2 hv); rw [show txtKeys.kl s = .string s.data.toList from rfl] at this; rw [this] at hh; cases hh
    · rintro ⟨hl, hs⟩
      obtain ⟨v, hv⟩ := Option.isSome_iff_exists.1 hs
      exact (has_key hk _).2 (has_true_of_atKey ((hf s hl).1 v hv))

/-- texts that rise -/
abbrev Rising (ks : List ByteArray) : Prop := ks.Pairwise (fun x y => x.data.toList < y.data.toList)
theorem sorted_rising {ss : List (List UInt8)} (hn : ss.Nodup) : (ss.mergeSort leB).Pairwise (fun x y => x < y) := by
  have tr : ∀ a b c : List UInt8, leB a b = true → leB b c = true → leB a c = true := fun a b c h1 h2 => by simp only [leB, decide_eq_true_eq] at *; exact List.le_trans h1 h2
  have to : ∀ a b : List UInt8, (leB a b || leB b a) = true := fun a b => by simp only [leB, Bool.or_eq_true, decide_eq_true_eq]; exact List.le_total a b
  have h1 := List.pairwise_mergeSort tr to ss
  have h2 : (ss.mergeSort leB).Nodup := (List.mergeSort_perm ss leB).nodup_iff.2 hn
  refine List.Pairwise.imp₂ ?_ h1 h2
  intro a b hab hne
  simp only [leB, decide_eq_true_eq] at hab
  exact Classical.byContradiction fun hlt => hne (List.le_antisymm hab (List.not_lt.1 hlt))
theorem bytes_toList (x : List UInt8) : (⟨x.toArray⟩ : ByteArray).data.toList = x := rfl

/-- a row of texts -/
def txtR : Rowing ByteArray where
  sz := 1
  cells s := [.string s]
  pos := by omega
  len _ := rfl
  one x u hu := by simp at hu; subst hu; rfl
theorem txt_flat (ks : List ByteArray) : ks.flatMap txtR.cells = ks.map Value.string := by
  induction ks with
  | nil => rfl
  | cons s r ih => rw [List.flatMap_cons, ih]; rfl
theorem txt_at {w : World} {B : Nat} {A : Option Addr} {xs : List ByteArray} (h : ListIn txtR w B A xs) {i : Nat} {x : ByteArray} (hx : xs[i]? = some x) :
    ∃ b off, A = some ⟨b, off, none⟩ ∧ b < B ∧ w.cell? ⟨b, off + i, none⟩ = some (.string x) := by
  obtain ⟨b, off, e, hb, hc⟩ := h.at hx
  have := hc 0 _ rfl
  simp [txtR] at this
  exact ⟨b, off, e, hb, this⟩
/-- what the sorted keys are -/
theorem keys_row {ss : List (List UInt8)} {w : World} {b n : Nat} {f : ByteArray → Option Value} {D : DataW Value} (hn : (Go.strKeys D).Nodup) (hm : ∀ s : ByteArray, s.data.toList ∈ Go.strKeys D ↔ s.size ≤ maxLen ∧ (f s).isSome = true) (hS : ss.Perm (Go.strKeys D)) :
    ∃ ks : List ByteArray, Rising ks ∧ (∀ s, s ∈ ks ↔ s.size ≤ maxLen ∧ (f s).isSome = true) ∧ ks.length = ss.length ∧ (ss.mergeSort leB).map encStr = ks.flatMap txtR.cells := by
  refine ⟨(ss.mergeSort leB).map fun x => ⟨x.toArray⟩, ?_, fun s => ?_, by simp, ?_⟩
  · rw [Rising, List.pairwise_map]
    exact sorted_rising (hS.nodup_iff.2 hn)
  · rw [← hm s, ← hS.mem_iff, List.mem_map]
    constructor
    · rintro ⟨x, hx, rfl⟩
      exact (List.mergeSort_perm ss leB).mem_iff.1 hx
    · intro hs
      exact ⟨s.data.toList, (List.mergeSort_perm ss leB).mem_iff.2 hs, rfl⟩
  · rw [txt_flat, List.map_map]
    rfl
theorem Rising.nodup {ks : List ByteArray} (h : Rising ks) : ks.Nodup := h.imp fun {a b} hlt e => by subst e; exact List.lt_irrefl _ hlt
end Go.Proofs.Ytjihkoleipkgmaa
