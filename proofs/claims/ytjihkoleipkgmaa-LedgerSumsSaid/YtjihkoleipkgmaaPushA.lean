/- 'out = append(out, x)' onto a row of the call's own, whatever x is. -/
import Derived.Test.YtjihkoleipkgmaaRowsG
namespace Go.Proofs.Ytjihkoleipkgmaa
set_option linter.unusedVariables false
set_option linter.unusedSimpArgs false
open Go.RowKit

section
variable {P : Program} {α : Type}
theorem grown_alloc {w w' : World} {o : Obj} {row : Option Nat} (h : (w.alloc o).grownBy w' row) : w.grownBy w' row :=
  ⟨h.os, h.tape, h.output, Nat.le_trans (by simp) h.size, fun i hi hne => (h.block i (by simp; omega) hne).trans (Below.heap_alloc w o i hi)⟩
theorem wpList_push {ops : Array Oper} {rest : List Oper} {o : Oper} {a : Act} {Q : Exit → Act → World → Prop} {W : World} (R : Rowing α) (hgd : o.guard = none) (s x : Operand) (t : TypeId) (ho : o.op = .call { callee := .builtin .append, args := #[s, x], argTypes := #[t, t] })
    (base : Nat) (e : TypeId) (i : TypeInfo) (z : Value) (bytes : Nat) (ht : P.underlying t = some (.slice e)) (hi : P.info? e = some i) (hz : i.zero = some z) (hs : i.size = R.sz) (hby : i.bytes = bytes) (hzs : z.cells.size = R.sz) (hbs : bytes ≤ 1000)
    {v : Value} {ys : List α} (hv : a.eval s = v) (hown : W.ownsRow base e R.sz v ys.length (ys.flatMap R.cells)) (y : α) {n c : Nat} (hn : n = W.heap.size) (hx : a.eval x = .slice (some ⟨n, 0, none⟩) 1 c) (hlen : ys.length ≤ 100000) (hbase : base ≤ W.heap.size)
    (h : ∀ v' w', w'.ownsRow base e R.sz v' (ys ++ [y]).length ((ys ++ [y]).flatMap R.cells) → W.grownBy w' v.ownBlock → wpList P ops Q rest (a.put o.dst v') w') : wpList P ops Q (o :: rest) a (W.alloc (.cells (R.cells y).toArray e)) := by
  refine wpList_append_src _ hgd s x t ho base e i z R.sz bytes ht hi hz hs hby hzs R.pos hv (hown.alloc _) hx (src_new R W y e n hn) (R.one y) (by unfold maxLen; omega) ?_ (by simp; omega) ?_
  · have : (ys.length + 1) * bytes ≤ 100001 * 1000 := Nat.mul_le_mul (by omega) hbs
    omega
  · intro v' w' h1 h2 _
    refine h v' w' ?_ (grown_alloc h2)
    rw [List.length_append, ← rows_snoc]
    exact h1
end
end Go.Proofs.Ytjihkoleipkgmaa
