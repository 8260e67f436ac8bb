/- Own words on maps: a store at a key that is there; 'm[k] += v'. -/
import Derived.Test.YtjihkoleipkgmaaLgH
import Derived.WideKeyEntry
namespace Go.Proofs.Ytjihkoleipkgmaa
set_option linter.unusedVariables false
set_option linter.unusedSimpArgs false
open Go.RowKit Go.Maps

section
variable {P : Program} {k t e : TypeId} {κ : Type} {J : Keying P k κ} {w w' : World} {b n : Nat} {f : κ → Option Value}
/-- a store at a key that is there: as many entries as there were -/
theorem MapAt.put_old [DecidableEq κ] (h : MapAt J w b n f) (ht : P.underlying t = some (.map k e)) (hn : n < maxLen) {x : κ} (hx : J.good x) (ho : (f x).isSome = true) (v : Value) :
    ∃ w', (Instr.mapUpdate t (.map (some b)) (J.kv x) v).run P w = .ok () w' ∧ MapAt J w' b n (fun y => if y = x then some v else f y) ∧ w.grownBy w' (some b) := by
  obtain ⟨D, hD, hf⟩ := h
  obtain ⟨w', hrun, hD', hg⟩ := hD.update J.keyed ht hn (J.key x hx) (show raw v = some (.held v, []) from rfl)
  have hsz := hD.size_le
  have hhas : has D (J.kl x) = true := by
    obtain ⟨u, hu⟩ := Option.isSome_iff_exists.1 ho
    exact has_true_of_atKey ((hf x hx).1 u hu)
  have hD2 : w'.ownsMap P k raw b n (D.put (J.kl x) (.held v)) := by
    obtain ⟨es', clock', h1, h2, h3, h4⟩ := hD'
    refine ⟨es', clock', h1, h2, ?_, h4⟩
    have e1 : Maps.size (D.put (J.kl x) (.held v)) = es'.size := by rw [h4]; simp [Maps.size, length_sorted]
    have e2 : Maps.size (D.put (J.kl x) (.held v)) = Maps.size D := by
      obtain ⟨es, hes, hpw, _⟩ := hD.entries J.keyed
      rw [size_put ⟨es, hes, hpw⟩, if_pos hhas]
    omega
  refine ⟨w', hrun, ⟨_, hD2, fun y hy => ?_⟩, hg⟩
  by_cases hlk : y = x
  · subst hlk
    refine ⟨fun u hu zd => ?_, fun hu => by simp at hu⟩
    simp at hu; subst hu
    exact atKey_put_same hD.isMap (J.keyed.key (J.key y hy)) _ _
  · have hne : J.kl y ≠ J.kl x := fun e => hlk (J.inj y x hy hx e)
    simp only [hlk, if_false]
    exact ⟨fun u hu zd => by rw [atKey_put_other hne]; exact (hf y hy).1 u hu zd, fun hu zd => by rw [atKey_put_other hne]; exact (hf y hy).2 hu zd⟩
end
/-- such a store at the operation, for the walk -/
theorem wpList_put_old {P : Program} (w : World) {ops : Array Oper} {rest : List Oper} {o : Oper} {a : Act} {Q : Exit → Act → World → Prop}
    (hg : o.guard = none) (m x v : Operand) (t : TypeId) (hop : o.op = Op.mapUpdate t m x v) {k e : TypeId} {κ : Type} [DecidableEq κ] {J : Keying P k κ} (ht : P.underlying t = some (.map k e)) {b n : Nat} {f : κ → Option Value}
    (hm : a.eval m = .map (some b)) (h : MapAt J w b n f) (hn : n < maxLen) {y : κ} (hy : J.good y) (ho : (f y).isSome = true) {val : Value} (hx : a.eval x = J.kv y) (hv : a.eval v = val)
    (hK : ∀ w', MapAt J w' b n (fun z => if z = y then some val else f z) → w.grownBy w' (some b) → wpList P ops Q rest (a.put o.dst undef) w') :
    wpList P ops Q (o :: rest) a w := by
  refine wpList_plain hg fun K' hK' => ?_
  obtain ⟨w', hrun, r1, r2⟩ := h.put_old ht hn hy ho val
  unfold Oper.wp
  simp [execOp, hop, hm, hx, hv, hrun, Result.andThen]
  exact hK' _ _ (hK w' r1 r2)

theorem keyLaw : Go.WideMaps.KeyLaw Try.prog 68 := deep_law_gate (by kernel_rfl) (of_decide_eq_true (by kernel_rfl)) (of_decide_eq_true (by kernel_rfl)) (by kernel_rfl) (by kernel_rfl)
open Go.ChangeMaps in
/-- the entry of 'm[k] op= v', and what is stored there -/
theorem MapAt.entry {w : World} {b n : Nat} {f : ByteArray × ByteArray → Option Value} {t e : TypeId} (h : MapAt keyKeys w b n f) (ht : Try.prog.underlying t = some (.map 68 e)) {z : Value} (hz : ∀ u : World, (zeroValue e).run Try.prog u = .ok z u) (hn : n < maxLen) {x : ByteArray × ByteArray} (hx : keyKeys.good x) :
    ∃ (v0 : Value) (st : Nat) (w1 : World), (Instr.mapEntry t (.map (some b)) (keyKeys.kv x)).run Try.prog w = .ok (.tuple #[v0, .int .i64 (st : Int)]) w1 ∧ (Instr.lookup t (.map (some b)) (keyKeys.kv x) false).run Try.prog w = .ok v0 w ∧ MapAt keyKeys w1 b (n + 1) (fun y => if y = x then some v0 else f y) ∧ w.grownBy w1 (some b) ∧
      ∀ (w2 : World) (val : Value), w2.heap[b]? = w1.heap[b]? → ∃ w3, (Instr.entryStore t (.map (some b)) (.int .i64 (st : Int)) val).run Try.prog w2 = .ok () w3 ∧ MapAt keyKeys w3 b (n + 1) (fun y => if y = x then some val else f y) ∧ w2.grownBy w3 (some b) := by
  have hput := fun val => h.put ht hn hx val
  have hM := h
  obtain ⟨D, ⟨es, clock, hb, F, hs, rfl⟩, hf⟩ := h
  obtain ⟨v0, st, es1, clock1, hrun, hv0, hst⟩ := Go.WideElems.entry_then_store keyLaw ht hz hb F (keyKeys.key x hx)
  have hlt : b < w.heap.size := (Array.getElem?_eq_some_iff.1 hb).1
  -- what a store leaves
  have hstore : ∀ (w2 : World) (val : Value), w2.heap[b]? = some (.map es1 clock1) → ∃ w3, (Instr.entryStore t (.map (some b)) (.int .i64 (st : Int)) val).run Try.prog w2 = .ok () w3 ∧ MapAt keyKeys w3 b (n + 1) (fun y => if y = x then some val else f y) ∧ w2.grownBy w3 (some b) := by
    intro w2 val hw2
    obtain ⟨es', clock', r1, r2⟩ := hst w2 val hw2
    obtain ⟨w', hr, hM', _⟩ := hput val
    rw [r2] at hr
    injection hr with _ hr
    subst hr
    refine ⟨_, r1, ?_, ⟨rfl, rfl, rfl, by simp [setBlock], fun i _ hi => heap_setBlock_other hw2 _ (fun e => hi (by rw [e]))⟩⟩
    obtain ⟨D', ⟨es2, cl2, q1, q2⟩, qf⟩ := hM'
    rw [heap_setBlock_same hb] at q1
    exact ⟨D', ⟨es2, cl2, (heap_setBlock_same hw2 _).trans q1, q2⟩, qf⟩
  have hb1 : (setBlock w b (.map es1 clock1)).heap[b]? = some (.map es1 clock1) := heap_setBlock_same hb _
  have hgr : w.grownBy (setBlock w b (.map es1 clock1)) (some b) := ⟨rfl, rfl, rfl, by simp [setBlock], fun i _ hi => heap_setBlock_other hb _ (fun e => hi (by rw [e]))⟩
  rcases keyKeys.keyed.find w (keyKeys.key x hx) es.toList F.keys with ⟨h1, h2⟩ | ⟨j, e0, h1, h2, h3⟩
  · have hmine : (Instr.mapEntry t (.map (some b)) (keyKeys.kv x)).run Try.prog w = .ok (.tuple #[z, goInt clock]) (setBlock w b (.map (es.push ⟨keyKeys.kv x, z, clock⟩) (clock + 1))) := by
      simp [Instr.mapEntry, run_underlying ht, MapKept.run_getObj_map hb, keyKeys.keyed.check w false (keyKeys.key x hx), h1, hz, MapKept.run_setObj_map _ hb, Result.andThen, setBlock]
    have hup : (Instr.mapUpdate t (.map (some b)) (keyKeys.kv x) z).run Try.prog w = .ok () (setBlock w b (.map (es.push ⟨keyKeys.kv x, z, clock⟩) (clock + 1))) := by
      simp [Instr.mapUpdate, run_underlying ht, MapKept.run_getObj_map hb, keyKeys.keyed.check w false (keyKeys.key x hx), h1, MapKept.run_setObj_map _ hb, Result.andThen, setBlock]
    have hlook : (Instr.lookup t (.map (some b)) (keyKeys.kv x) false).run Try.prog w = .ok z w := by
      simp [Instr.lookup, run_underlying ht, MapKept.run_getObj_map hb, keyKeys.keyed.check w _ (keyKeys.key x hx), h1, hz, Result.andThen]
    have he := hrun
    rw [hmine] at he
    injection he with e1 e2
    injection e1 with e1
    have e3 : z = v0 := by have := congrArg (fun a => a[0]?) e1; simpa using this
    subst e3
    obtain ⟨w', hr, hM', _⟩ := hput z
    rw [hup] at hr
    injection hr with _ hr
    subst hr
    rw [e2] at hM'
    exact ⟨z, st, _, hrun, hlook, hM', hgr, fun w2 val hw2 => hstore w2 val (hw2.trans hb1)⟩
  · have hj : es[j]? = some e0 := by simpa using h2
    have hlook : (Instr.lookup t (.map (some b)) (keyKeys.kv x) false).run Try.prog w = .ok e0.val w := by
      simp [Instr.lookup, run_underlying ht, MapKept.run_getObj_map hb, keyKeys.keyed.check w _ (keyKeys.key x hx), h1, Result.andThen]
    have hsame : es.modify j (fun e => { e with key := keyKeys.kv x }) = es := by
      apply Array.ext'
      rw [Array.toList_modify, modify_eq_set _ _ _ _ h2]
      have e4 : ({ e0 with key := keyKeys.kv x } : MapEntry) = e0 := by rw [← h3]
      rw [e4]
      exact Go.WideElems.set_self _ _ _ h2
    have hmine : (Instr.mapEntry t (.map (some b)) (keyKeys.kv x)).run Try.prog w = .ok (.tuple #[e0.val, goInt e0.born]) (setBlock w b (.map es clock)) := by
      simp [Instr.mapEntry, run_underlying ht, MapKept.run_getObj_map hb, keyKeys.keyed.check w false (keyKeys.key x hx), h1, hj, h3, keyKeys.keyed.stays w (keyKeys.key x hx), hsame, MapKept.run_setObj_map _ hb, Result.andThen, setBlock]
    have he := hrun
    rw [hmine] at he
    injection he with e1 e2
    injection e1 with e1
    have e3 : e0.val = v0 := by have := congrArg (fun a => a[0]?) e1; simpa using this
    have hM1 : MapAt keyKeys (setBlock w b (.map es1 clock1)) b n f := by
      obtain ⟨D', ⟨es2, cl2, q1, q2⟩, qf⟩ := hM
      refine ⟨D', ⟨es2, cl2, ?_, q2⟩, qf⟩
      rw [← e2, heap_setBlock_same hb]
      rw [hb] at q1
      exact q1
    have hfx : f x = some v0 := by
      cases hv : f x with
      | none =>
        exfalso
        rcases Maps.fit_look false keyKeys.keyed ht (hz w) hb F (keyKeys.key x hx) with ⟨_, hno, _⟩ | ⟨e5, y, _, _, _, hR, hat, _⟩
        · exact hno e0 (List.mem_of_getElem? h2) h3
        · have h6 := (hf x hx).2 hv .nil
          rw [hat .nil] at h6
          cases hR
          cases h6
      | some u =>
        have h5 := hM.look_some (c := false) ht (hz w) hx hv
        have h6 : e0.val = u := (Result.ok.inj (hlook.symm.trans h5)).1
        rw [← e3, h6]
    refine ⟨v0, st, _, hrun, by rw [← e3]; exact hlook, (hM1.mono (Nat.le_succ _)).congr fun y _ => ?_, hgr, fun w2 val hw2 => hstore w2 val (hw2.trans hb1)⟩
    by_cases hy : y = x
    · subst hy; rw [if_pos rfl]; exact hfx
    · rw [if_neg hy]
end Go.Proofs.Ytjihkoleipkgmaa
