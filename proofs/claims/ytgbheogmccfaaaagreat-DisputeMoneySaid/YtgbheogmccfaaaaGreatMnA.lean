/- Two rows of numbers of the call's own, each grown by itself. -/
import Derived.Test.YtgbheogmccfaaaaGreatSpW
namespace Go.Proofs.YtgbheogmccfaaaaGreat
set_option linter.unusedVariables false
set_option linter.unusedSimpArgs false
open Go.RowKit

abbrev numC (l : List Nat) : List Value := l.flatMap (numR .i64).cells
structure Two (a W : World) (v1 v2 : Value) (ys zs : List Nat) : Prop where
  o1 : W.ownsRow a.heap.size 3 1 v1 ys.length (numC ys)
  o2 : W.ownsRow a.heap.size 2 1 v2 zs.length (numC zs)
  apart : ∀ b, v1.ownBlock = some b → v2.ownBlock ≠ some b
  bel : Below a.heap.size a W
section
variable {a W W' : World} {v1 v2 v : Value} {ys zs : List Nat}
theorem Two.alloc (h : Two a W v1 v2 ys zs) (o : Obj) : Two a (W.alloc o) v1 v2 ys zs := ⟨h.o1.alloc o, h.o2.alloc o, h.apart, h.bel.alloc h.bel.size o⟩
theorem Two.start (a : World) : Two a a (.slice none 0 0) (.slice none 0 0) [] [] := ⟨World.ownsRow_nil _ _ _ _, World.ownsRow_nil _ _ _ _, fun b h => by simp [Value.ownBlock] at h, Below.refl _ _⟩
theorem Two.app1 (h : Two a W v1 v2 ys zs) (k : Nat) (own : W'.ownsRow a.heap.size 3 1 v (ys.length + 1) (numC ys ++ [.int .i64 k])) (hg : W.grownBy W' v1.ownBlock) (hat : v.ownBlock = v1.ownBlock ∨ v.ownBlock = some W.heap.size) : Two a W' v v2 (ys ++ [k]) zs := by
  refine ⟨?_, ?_, ?_, below_grown h.bel h.o1 (Nat.le_refl _) hg⟩
  · rw [List.length_append]
    have e : numC (ys ++ [k]) = numC ys ++ [.int .i64 k] := by simp [numC, numR]
    rw [e]
    exact own
  · refine h.o2.kept hg ?_
    cases e2 : v2.ownBlock with
    | none => exact .inl rfl
    | some b =>
      refine .inr fun e => ?_
      exact h.apart b e.symm e2
  · intro b hb hb2
    rcases hat with e | e
    · exact h.apart b (e ▸ hb) hb2
    · have := (h.o2.lt b hb2).2
      rw [e] at hb
      injection hb with hb
      omega
theorem Two.app2 (h : Two a W v1 v2 ys zs) (k : Nat) (own : W'.ownsRow a.heap.size 2 1 v (zs.length + 1) (numC zs ++ [.int .i64 k])) (hg : W.grownBy W' v2.ownBlock) (hat : v.ownBlock = v2.ownBlock ∨ v.ownBlock = some W.heap.size) : Two a W' v1 v ys (zs ++ [k]) := by
  refine ⟨?_, ?_, ?_, below_grown h.bel h.o2 (Nat.le_refl _) hg⟩
  · refine h.o1.kept hg ?_
    cases e1 : v1.ownBlock with
    | none => exact .inl rfl
    | some b => exact .inr fun e => h.apart b e1 e.symm
  · rw [List.length_append]
    have e : numC (zs ++ [k]) = numC zs ++ [.int .i64 k] := by simp [numC, numR]
    rw [e]
    exact own
  · intro b hb hb2
    rcases hat with e | e
    · exact h.apart b hb (e ▸ hb2)
    · have := (h.o1.lt b hb).2
      rw [e] at hb2
      injection hb2 with hb2
      omega
/-- a block of before, or a new one, is none of the two -/
theorem Two.far1 (h : Two a W v1 v2 ys zs) {b : Nat} (hb : W.heap.size ≤ b) : some b ≠ v1.ownBlock := fun e => by have := (h.o1.lt b e.symm).2; omega
theorem Two.far2 (h : Two a W v1 v2 ys zs) {b : Nat} (hb : W.heap.size ≤ b) : some b ≠ v2.ownBlock := fun e => by have := (h.o2.lt b e.symm).2; omega
theorem Two.drew (h : Two a W v1 v2 ys zs) : Two a W.drew v1 v2 ys zs := ⟨h.o1, h.o2, h.apart, h.bel.drew⟩
theorem num_src {k : IntKind} (w : World) (x : Nat) (t : TypeId) (n : Nat) (hn : n = w.heap.size) : Src (w.alloc (.cells #[.int k x] t)) 1 (some ⟨n, 0, none⟩) 1 [.int k x] := src_new (numR k) w x t n hn
theorem num_whole {k : IntKind} {w : World} {b : Nat} {t : TypeId} (x : Nat) (h : Whole w b t #[.int k x]) : Src w 1 (some ⟨b, 0, none⟩) 1 [.int k x] := by
  refine ⟨rfl, fun _ => ⟨_, rfl, fun j u hj => ?_⟩⟩
  have h' := h.cells j
  have e : (⟨b, 0, none⟩ : Addr).add j = ⟨b, j, none⟩ := by
    unfold Addr.add; split
    · rename_i h0; subst h0; rfl
    · simp
  rw [e, h']; simpa using hj
theorem num_one (k : IntKind) (x : Nat) : ∀ u ∈ [Value.int k x], u.oneCell' = true := fun u hu => by simp at hu; subst hu; rfl
theorem whole_kept {w w' : World} {b : Nat} {t : TypeId} {cs : Array Value} {row : Option Nat} (k : Whole w b t cs) (hg : w.grownBy w' row) (hne : some b ≠ row) : Whole w' b t cs := (hg.block b k.lt hne).trans k
end
theorem setAll_take : ∀ (is ps out : List Nat) (j i p : Nat), is[j]? = some i → ps[j]? = some p → setAll out (is.take (j + 1)) (ps.take (j + 1)) = (setAll out (is.take j) (ps.take j)).set i p
  | [], _, _, j, i, p, h, _ => by simp at h
  | _ :: _, [], _, j, i, p, _, h => by simp at h
  | x :: is, y :: ps, out, 0, i, p, h1, h2 => by
    simp at h1 h2; subst h1; subst h2
    simp [setAll]
  | x :: is, y :: ps, out, j + 1, i, p, h1, h2 => by
    simp only [List.take_succ_cons, setAll]
    exact setAll_take is ps _ j i p (by simpa using h1) (by simpa using h2)
end Go.Proofs.YtgbheogmccfaaaaGreat
