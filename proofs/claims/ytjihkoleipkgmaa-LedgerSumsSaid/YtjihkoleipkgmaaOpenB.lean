/- Arguments opened: own laws for structs with structs inside, and the end of every law's row. -/
import Derived.Test.YtjihkoleipkgmaaBase
import Derived.ProofKit
import Derived.OpenShut
import Derived.Carry
import Derived.Deep.Slices
namespace Go.Proofs.Ytjihkoleipkgmaa
set_option linter.unusedVariables false
set_option linter.unusedSimpArgs false
open Go.ChangeShapes Go.WideShapes Go.ChangeAt Go.RowKit Go.Deep

section
variable {H : Type} {enc : TypeId × Value → H} {P : Program} {w : World} {base : Nat} {spare : Nat → Bool} {held : Bool} {fuel : Nat} {cs : List Value} {x : DataW H × List MemPlace} {t : TypeId} {fs : Array Field}
/-- each field of a struct that was read -/
theorem field_read (ht : P.underlying t = some (.struct fs)) (h : DataW.trod enc P w base spare held fuel t cs = some x) (i : Nat) (f : Field) (hf : fs[i]? = some f) :
    ∃ y n, DataW.trod enc P w base spare held n f.type ((cs.drop f.offset).take (P.cellsOf f.type)) = some y := by
  obtain ⟨xs, n, _, _, _, hlen, hg⟩ := DataW.trod_struct ht h
  have hi : i < xs.length := by rw [hlen]; exact (Array.getElem?_eq_some_iff.1 hf).1
  exact ⟨_, n, (hg i f hf).trans (List.getElem?_eq_getElem hi)⟩
theorem struct_len (ht : P.underlying t = some (.struct fs)) (h : DataW.trod enc P w base spare held fuel t cs = some x) : cs.length = P.cellsOf t := by
  obtain ⟨xs, n, _, _, hl, _, _⟩ := DataW.trod_struct ht h
  exact hl
theorem take_one {cs : List Value} {o : Nat} {v : Value} (h : (cs.drop o).take 1 = [v]) : cs[o]? = some v := by
  have := congrArg (fun l => l[0]?) h
  simpa using this
theorem int_read {k : IntKind} (ht : P.underlying t = some (.int k)) (hc : P.cellsOf t = 1) {o : Nat} {y} (h : DataW.trod enc P w base spare held fuel t ((cs.drop o).take (P.cellsOf t)) = some y) : ∃ n, cs[o]? = some (.int k n) ∧ (Lit.int k n).wf = true := by
  rw [hc] at h
  obtain ⟨n, e, _, hw⟩ := DataW.trod_int ht h
  exact ⟨n, take_one e, hw⟩
theorem string_read (ht : P.underlying t = some .string) (hc : P.cellsOf t = 1) {o : Nat} {y} (h : DataW.trod enc P w base spare held fuel t ((cs.drop o).take (P.cellsOf t)) = some y) : ∃ s : ByteArray, cs[o]? = some (.string s) ∧ s.size ≤ maxLen := by
  rw [hc] at h
  obtain ⟨n, e, _, hw⟩ := DataW.trod_string ht h
  exact ⟨n, take_one e, hw⟩
end

/-- an int that a machine's int holds -/
def I64 (n : Int) : Prop := -9223372036854775808 ≤ n ∧ n ≤ 9223372036854775807
theorem I64.wf {n : Int} (h : I64 n) : (Lit.int .i64 n).wf = true := WalkArith.wf_i64 h

theorem I64.of_wf {n : Int} (h : (Lit.int .i64 n).wf = true) : I64 n := by
  simp [Lit.wf, IntKind.min, IntKind.max, IntKind.signed, IntKind.bits] at h
  exact ⟨by omega, by omega⟩

/-- THE END OF A LAW's ROW: nothing that was there has turned; the law says true. -/
theorem law_post {H : Type} {enc : TypeId × Value → H} {P : Program} {f : Func} {s : ChangeSpec} {W W' : World} {args : Array Value} {ds gs : List (DataW H)} {before : List MemPlace} {bt : TypeId}
    (hl : laidOutB P = true) (ht : (f.params.toList.all fun t => P.readableRec t && decide (t < P.types.size)) = true) (hv : s.vars = []) (hr : f.resultTypes.toList = [bt]) (hb : P.underlying bt = some .bool)
    (h1 : (s.fn H (ds ++ gs)).results = [.lit (.bool true)]) (h2 : (s.fn H (ds ++ gs)).args = ds) (h3 : (s.fn H (ds ++ gs)).vars = [])
    (hW : DataW.Whole enc P f.params.toList s.vars false W args.toList ds gs before) (hbel : Below W.heap.size W W') :
    s.post enc P f false true false false W args (.bool true) W' := by
  obtain ⟨p, q, hA, hV, he, hz, hn⟩ := id hW
  have hlt : ∀ x ∈ p, x.block < W.heap.size := fun x hx => hW.lt x (by rw [he]; exact List.mem_append_left _ hx)
  have hargs : ∀ (ts : List TypeId) (vs : List Value) (ds : List (DataW H)) (ps : List MemPlace), (ts.all fun t => P.readableRec t && decide (t < P.types.size)) = true → (∀ x ∈ ps, x.block < W.heap.size) →
      DataW.TrodAll enc P W 0 (fun _ => true) true ts vs ds ps → DataW.TrodAll enc P W' 0 (fun b => decide (b < W.heap.size)) true ts vs ds ps := by
    intro ts
    induction ts with
    | nil => intro vs ds ps _ _ h; obtain ⟨rfl, rfl, rfl⟩ := trodAll_nil h; rfl
    | cons t ts ih =>
      intro vs ds ps ha hp h
      obtain ⟨v, vs', d, ds', p1, q1, rfl, rfl, rfl, h0, hr⟩ := trodAll_cons h
      simp only [List.all_cons, Bool.and_eq_true, decide_eq_true_eq] at ha
      exact ⟨p1, q1, Below.trod hl ha.1.1 ha.1.2 h0 hbel (fun x hx => hp x (List.mem_append_left _ hx)), ih vs' ds' q1 ha.2 (fun x hx => hp x (List.mem_append_right _ hx)) hr, rfl⟩
  refine ⟨ds, gs, before, [], p, [], hW, ?_, ?_, ?_, hbel.frame _, fun h => by cases h⟩
  · rw [h1, hr]
    have : (Value.bool true).resultList f.resultTypes.size = [.bool true] := by
      have e : f.resultTypes.size = 1 := by have := congrArg List.length hr; simpa using this
      rw [e]; rfl
    rw [this]
    exact ⟨[], [], shut_bool hb true, rfl, rfl⟩
  · rw [h2]
    exact hargs _ _ _ _ ht hlt hA
  · rw [h3, hv]
    rfl
end Go.Proofs.Ytjihkoleipkgmaa
