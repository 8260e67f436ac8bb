/- Own words on maps: a map's block told by a function from keys to values, the values as they are (whatever their type). -/
import Derived.Test.YtjihkoleipkgmaaBase
import Derived.Maps.OwnSet
import Derived.DeepKeys5
namespace Go.Proofs.Ytjihkoleipkgmaa
set_option linter.unusedVariables false
set_option linter.unusedSimpArgs false
open Go.RowKit Go.Maps

/-- an element, read as itself -/
def raw (v : Value) : Option (DataW Value × List MemPlace) := some (.held v, [])

/-- how keys of a type of Lean's stand for keys of a map -/
structure Keying (P : Program) (k : TypeId) (κ : Type) where
  kv : κ → Value
  kl : κ → Lit
  good : κ → Prop
  keyed : Keyed P k
  key : ∀ x, good x → keyOf P k (kv x) = some (kl x)
  inj : ∀ x y, good x → good y → kl x = kl y → x = y

/-- block b is a map of at most n entries; f tells what stands at a key -/
def MapAt {P : Program} {k : TypeId} {κ : Type} (J : Keying P k κ) (w : World) (b n : Nat) (f : κ → Option Value) : Prop :=
  ∃ D, w.ownsMap P k raw b n D ∧ ∀ x, J.good x → (∀ v, f x = some v → ∀ zd, D.atKey (J.kl x) zd = .held v) ∧ (f x = none → ∀ zd, D.atKey (J.kl x) zd = zd)

section
variable {P : Program} {k t e : TypeId} {κ : Type} {J : Keying P k κ} {w w' : World} {b n : Nat} {f : κ → Option Value}
theorem MapAt.lt (h : MapAt J w b n f) : b < w.heap.size := by obtain ⟨D, hD, _⟩ := h; exact hD.lt
theorem MapAt.mono (h : MapAt J w b n f) {n' : Nat} (hn : n ≤ n') : MapAt J w b n' f := by obtain ⟨D, hD, hf⟩ := h; exact ⟨D, hD.mono hn, hf⟩
theorem MapAt.kept {row : Option Nat} (h : MapAt J w b n f) (hg : w.grownBy w' row) (hne : some b ≠ row) : MapAt J w' b n f := by obtain ⟨D, hD, hf⟩ := h; exact ⟨D, hD.kept hg hne, hf⟩
theorem MapAt.below {B : Nat} (h : MapAt J w b n f) (hb : Below B w w') (hB : b < B) : MapAt J w' b n f := by
  obtain ⟨D, ⟨es, clock, h1, h2, h3, h4⟩, hf⟩ := h
  exact ⟨D, ⟨es, clock, (hb.block b hB).trans h1, h2, h3, h4⟩, hf⟩
theorem MapAt.after (h : MapAt J w b n f) (hb : Below w.heap.size w w') : MapAt J w' b n f := h.below hb h.lt
theorem MapAt.alloc (h : MapAt J w b n f) (o : Obj) : MapAt J (w.alloc o) b n f := by obtain ⟨D, hD, hf⟩ := h; exact ⟨D, hD.alloc o, hf⟩
theorem MapAt.drew (h : MapAt J w b n f) : MapAt J w.drew b n f := h
theorem MapAt.drewN (h : MapAt J w b n f) (m : Nat) : MapAt J (w.drewN m) b n f := h
theorem MapAt.setCell (h : MapAt J w b n f) {a : Addr} (ha : b ≠ a.block) (u : Value) : MapAt J (w.setCell a u) b n f := by obtain ⟨D, hD, hf⟩ := h; exact ⟨D, hD.setCell ha u, hf⟩
theorem MapAt.made (J : Keying P k κ) (w : World) : MapAt J (w.alloc (.map #[] 0)) w.heap.size 0 fun _ => none :=
  ⟨.map [], World.ownsMap_made w P k raw, fun l _ => ⟨fun v hv => (by cases hv), fun _ zd => rfl⟩⟩
theorem MapAt.congr {g : κ → Option Value} (h : MapAt J w b n f) (hfg : ∀ x, J.good x → f x = g x) : MapAt J w b n g := by
  obtain ⟨D, hD, hf⟩ := h
  exact ⟨D, hD, fun l hl => by rw [← hfg l hl]; exact hf l hl⟩

/-- a look-up at a key that is there -/
theorem MapAt.look_some (h : MapAt J w b n f) (ht : P.underlying t = some (.map k e)) {z : Value} (hz : (zeroValue e).run P w = .ok z w) {x : κ} (hx : J.good x) {v : Value} (hv : f x = some v) (c : Bool) :
    (Instr.lookup t (.map (some b)) (J.kv x) c).run P w = .ok (if c then .tuple #[v, .bool true] else v) w := by
  obtain ⟨D, ⟨es, clock, hb, F, _, rfl⟩, hf⟩ := h
  rcases Maps.fit_look c J.keyed ht hz hb F (J.key x hx) with ⟨hrun, _, hat⟩ | ⟨e0, y, _, _, hrun, hR, hat, _⟩
  · have h1 := (hf x hx).1 v hv .nil
    rw [hat .nil] at h1
    cases h1
  · have h1 := (hf x hx).1 v hv .nil
    rw [hat .nil] at h1
    cases hR
    cases h1
    exact hrun
/-- a look-up at a key that is not there -/
theorem MapAt.look_none (h : MapAt J w b n f) (ht : P.underlying t = some (.map k e)) {z : Value} (hz : (zeroValue e).run P w = .ok z w) {x : κ} (hx : J.good x) (hv : f x = none) (c : Bool) :
    (Instr.lookup t (.map (some b)) (J.kv x) c).run P w = .ok (if c then .tuple #[z, .bool false] else z) w := by
  obtain ⟨D, ⟨es, clock, hb, F, _, rfl⟩, hf⟩ := h
  rcases Maps.fit_look c J.keyed ht hz hb F (J.key x hx) with ⟨hrun, _, hat⟩ | ⟨e0, y, _, _, hrun, hR, hat, _⟩
  · exact hrun
  · have h1 := (hf x hx).2 hv .nil
    rw [hat .nil] at h1
    cases hR
    cases h1
/-- a store -/
theorem MapAt.put [DecidableEq κ] (h : MapAt J w b n f) (ht : P.underlying t = some (.map k e)) (hn : n < maxLen) {x : κ} (hx : J.good x) (v : Value) :
    ∃ w', (Instr.mapUpdate t (.map (some b)) (J.kv x) v).run P w = .ok () w' ∧ MapAt J w' b (n + 1) (fun y => if y = x then some v else f y) ∧ w.grownBy w' (some b) := by
  obtain ⟨D, hD, hf⟩ := h
  obtain ⟨w', hrun, hD', hg⟩ := hD.update J.keyed ht hn (J.key x hx) (show raw v = some (.held v, []) from rfl)
  refine ⟨w', hrun, ⟨_, hD', fun y hy => ?_⟩, hg⟩
  by_cases hlk : y = x
  · subst hlk
    refine ⟨fun u hu zd => ?_, fun hu => by simp at hu⟩
    simp at hu; subst hu
    exact atKey_put_same hD.isMap (J.keyed.key (J.key y hy)) _ _
  · have hne : J.kl y ≠ J.kl x := fun e => hlk (J.inj y x hy hx e)
    simp only [hlk, if_false]
    exact ⟨fun u hu zd => by rw [atKey_put_other hne]; exact (hf y hy).1 u hu zd, fun hu zd => by rw [atKey_put_other hne]; exact (hf y hy).2 hu zd⟩
end

/-- a store at the operation, for the walk -/
theorem wpList_put {P : Program} (w : World) {ops : Array Oper} {rest : List Oper} {o : Oper} {a : Act} {Q : Exit → Act → World → Prop}
    (hg : o.guard = none) (m x v : Operand) (t : TypeId) (hop : o.op = Op.mapUpdate t m x v) {k e : TypeId} {κ : Type} [DecidableEq κ] {J : Keying P k κ} (ht : P.underlying t = some (.map k e)) {b n : Nat} {f : κ → Option Value}
    (hm : a.eval m = .map (some b)) (h : MapAt J w b n f) (hn : n < maxLen) {y : κ} (hy : J.good y) {val : Value} (hx : a.eval x = J.kv y) (hv : a.eval v = val)
    (hK : ∀ w', MapAt J w' b (n + 1) (fun z => if z = y then some val else f z) → w.grownBy w' (some b) → wpList P ops Q rest (a.put o.dst undef) w') :
    wpList P ops Q (o :: rest) a w := by
  refine wpList_plain hg fun K' hK' => ?_
  obtain ⟨w', hrun, r1, r2⟩ := h.put ht hn hy val
  unfold Oper.wp
  simp [execOp, hop, hm, hx, hv, hrun, Result.andThen]
  exact hK' _ _ (hK w' r1 r2)
end Go.Proofs.Ytjihkoleipkgmaa
