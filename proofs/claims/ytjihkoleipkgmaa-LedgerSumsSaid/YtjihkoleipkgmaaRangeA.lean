/- Own words on ranging over a map. -/
import Derived.Test.YtjihkoleipkgmaaMapA
import Derived.Maps.RangeWalk
namespace Go.Proofs.Ytjihkoleipkgmaa
set_option linter.unusedVariables false
set_option linter.unusedSimpArgs false
open Go.RowKit Go.Maps

/-- a loop over a map under way: 'todo' tells which keys are still to come -/
def Going {P : Program} {k : TypeId} {κ : Type} (J : Keying P k κ) (w : World) (b r n : Nat) (f : κ → Option Value) (todo : κ → Bool) (cnt : Nat) : Prop :=
  ∃ D left, w.ranges P k raw b r n D left cnt ∧ (∀ x, J.good x → (∀ v, f x = some v → ∀ zd, D.atKey (J.kl x) zd = .held v) ∧ (f x = none → ∀ zd, D.atKey (J.kl x) zd = zd)) ∧ ∀ x, J.good x → todo x = left (J.kl x)

section
variable {P : Program} {k t e : TypeId} {κ : Type} {J : Keying P k κ} {w w' : World} {b r n : Nat} {f : κ → Option Value} {todo : κ → Bool} {cnt : Nat}
theorem Going.measure (h : Going J w b r n f todo cnt) : w.rangeLeft b r = cnt := by obtain ⟨D, l, hr, _⟩ := h; exact hr.left_eq
theorem Going.map (h : Going J w b r n f todo cnt) : MapAt J w b n f := by obtain ⟨D, l, hr, hf, _⟩ := h; exact ⟨D, hr.owns, hf⟩
theorem Going.lt (h : Going J w b r n f todo cnt) : r < w.heap.size := by obtain ⟨D, l, hr, _⟩ := h; exact hr.lt
theorem Going.ne (h : Going J w b r n f todo cnt) : r ≠ b := by obtain ⟨D, l, hr, _⟩ := h; exact hr.ne
theorem Going.kept {row : Option Nat} (h : Going J w b r n f todo cnt) (hg : w.grownBy w' row) (h1 : some b ≠ row) (h2 : some r ≠ row) : Going J w' b r n f todo cnt := by
  obtain ⟨D, l, hr, h3⟩ := h; exact ⟨D, l, hr.kept hg h1 h2, h3⟩
theorem Going.alloc (h : Going J w b r n f todo cnt) (o : Obj) : Going J (w.alloc o) b r n f todo cnt := by obtain ⟨D, l, hr, h3⟩ := h; exact ⟨D, l, hr.alloc o, h3⟩

theorem same_kl {x y : κ} (hx : J.good x) (hy : J.good y) : (J.kl y).sameKey (J.kl x) = true ↔ y = x := by
  constructor
  · intro h; exact J.inj y x hy hx (WideAt.sameKey_eq h)
  · rintro rfl; exact WideAt.sameKey_self (J.keyed.key (J.key y hx))

/-- 'range m' -/
theorem wpList_going {ops : Array Oper} {rest : List Oper} {o : Oper} {a : Act} {Q : Exit → Act → World → Prop} (w : World)
    (hg : o.guard = none) (m : Operand) (t : TypeId) (hop : o.op = Op.range t m) (k e : TypeId) {κ : Type} {J : Keying P k κ} (ht : P.underlying t = some (.map k e)) (b n : Nat) {f : κ → Option Value}
    (hm : a.eval m = .map (some b)) (h : MapAt J w b n f)
    (hK : ∀ w' cnt, Going J w' b w.heap.size n f (fun x => (f x).isSome) cnt → w.grownBy w' none → w'.heap.size = w.heap.size + 1 → wpList P ops Q rest (a.put o.dst (.pointer (some ⟨w.heap.size, 0, none⟩))) w') :
    wpList P ops Q (o :: rest) a w := by
  obtain ⟨D, hD, hf⟩ := h
  refine wpList_range_own w hg m t hop k e J.keyed ht raw b n D hm hD fun w' r1 r2 r3 => hK w' _ ⟨D, _, r1, hf, fun x hx => ?_⟩ r2 r3
  show (f x).isSome = has D (J.kl x)
  cases hv : f x with
  | some v => rw [has_true_of_atKey ((hf x hx).1 v hv)]; rfl
  | none => rw [has_false_of_atKey ((hf x hx).2 hv)]; rfl

/-- the step -/
theorem wpList_going_next [DecidableEq κ] {ops : Array Oper} {rest : List Oper} {o : Oper} {a : Act} {Q : Exit → Act → World → Prop} (w : World)
    (hg : o.guard = none) (it : Operand) (hop : o.op = Op.next it false) (inv : ∀ key kl, keyOf P k key = some kl → ∃ x, J.good x ∧ key = J.kv x)
    (hit : a.eval it = .pointer (some ⟨r, 0, none⟩)) (h : Going J w b r n f todo cnt)
    (hDone : cnt = 0 → (∀ x, J.good x → todo x = false) → wpList P ops Q rest (a.put o.dst (.tuple #[.bool false])) w)
    (hMore : ∀ (x : κ) (v : Value) (w' : World) (cnt' : Nat), J.good x → todo x = true → f x = some v → Going J w' b r n f (fun y => todo y && !decide (y = x)) cnt' → cnt' < cnt →
      w.grownBy w' (some r) → w'.heap.size = w.heap.size → (Instr.entry (.pointer (some ⟨r, 0, none⟩))).run P w' = .ok (.tuple #[J.kv x, v]) w' → wpList P ops Q rest (a.put o.dst (.tuple #[.bool true, J.kv x, v])) w') :
    wpList P ops Q (o :: rest) a w := by
  obtain ⟨D, left, hr, hf, hl⟩ := h
  refine wpList_next_ranges (α := Value) (β := Value) w hg it hop k J.keyed raw id id (fun key kl h => ⟨key, rfl⟩) (fun v y h => ⟨v, rfl⟩) b r n D left cnt hit hr (fun h0 h1 => hDone h0 fun x hx => (hl x hx).trans (h1 _)) ?_
  intro key v kl y w' cnt' hkey hlk hR hat hrg hlt hgr hsz hen
  obtain ⟨x, hx, rfl⟩ := inv key kl hkey
  have hkl : kl = J.kl x := by
    have := J.key x hx
    have h2 : keyOf P k (J.kv x) = some kl := hkey
    rw [h2] at this; exact Option.some.inj this
  subst hkl
  have hy : y.1 = .held v := by cases hR; rfl
  have hfx : f x = some v := by
    cases hv : f x with
    | some u =>
      have h1 := (hf x hx).1 u hv .nil
      rw [hat .nil, hy] at h1
      cases h1; rfl
    | none =>
      have h1 := (hf x hx).2 hv .nil
      rw [hat .nil, hy] at h1
      cases h1
  refine hMore x v w' cnt' hx ((hl x hx).trans hlk) hfx ⟨D, _, hrg, hf, fun z hz => ?_⟩ hlt hgr hsz hen
  show (todo z && !decide (z = x)) = _
  rw [hl z hz]
  have hs := same_kl (J := J) hx hz
  by_cases hzx : z = x
  · subst hzx; rw [hs.2 rfl]; simp
  · have : (J.kl z).sameKey (J.kl x) = false := by
      cases hc : (J.kl z).sameKey (J.kl x)
      · rfl
      · exact absurd (hs.1 hc) hzx
    rw [this]; simp [hzx]
end
end Go.Proofs.Ytjihkoleipkgmaa
