/- Walks: the reference's boxes: state, Release, Transit, Export. -/
import Derived.Test.YtgalpdjmmpjddaaBoxA
namespace Go.Proofs.Ytgalpdjmmpjddaa
set_option linter.unusedVariables false
set_option linter.unusedSimpArgs false
open Go.RowKit Go.Maps

theorem info_box : (Try.prog.info? 45).map (fun i => (i.zero, i.size, i.bytes)) = some (some (.agg #[.string ⟨#[]⟩, .int .i64 0, .int .i64 0, .int .i64 0]), 4, 40) := by kernel_rfl
/-- what the reference answers: the boxes from then on, and an error -/
def RefQ (w : World) (bs : List Bx) (er : Int) (e : Ending) (w' : World) : Prop := ∃ A n c, e = .returned (.tuple #[.slice A n c, .int .i64 er]) ∧ n = bs.length ∧ ListIn bxR w' w'.heap.size A bs ∧ Below w.heap.size w w'

set_option maxHeartbeats 2000000 in
set_option maxRecDepth 100000 in
theorem state_any (xs : List Bx) (A : Option Addr) (n c i : Nat) (st : Int) (x : Bx) (w : World) (hn : n = xs.length) (hlen : n ≤ 4096) (hx : ListIn bxR w w.heap.size A xs) (hi : xs[i]? = some x) :
    Calls Try.prog 59 #[.slice A n c, .int .i64 i, .int .i64 st] w fun e w' => ∃ A' c', e = .returned (.slice A' n c') ∧ ListIn bxR w' w'.heap.size A' (xs.set i { x with state := st }) ∧ Below w.heap.size w w' := by
  obtain ⟨i0, hi0, hz0, hz1, hz2⟩ := info_parts info_box
  have hin : i < n := by rw [hn]; exact (List.getElem?_eq_some_iff.1 hi).1
  have hset := rows_set bxR xs i x hi { x with state := st } 3 (by simp [bxR]) (.int .i64 st) rfl
  have own0 : (w.alloc (.cells #[] 45)).ownsRow w.heap.size 45 4 (.slice (some ⟨w.heap.size, 0, none⟩) 0 0) 0 [] := World.ownsRow_lit (base := w.heap.size) (e := 45) (size := 4) w #[] 0 (Nat.le_refl _) (by unfold maxLen; omega) (by simp)
  have src1 : Src (w.alloc (.cells #[] 45)) 4 A n (xs.flatMap bxR.cells) := (hx.alloc _).src_n hn
  have O0 := hide own0; have S1 := hide src1; have HN := hide hn; have HS := hide hset
  clear own0 src1 hn hset hx hi
  go_enter Try.func59, Try.ntmps59
  have i1 : (0 : Int) ≤ (i : Int) := by omega
  have i2 : (i : Int) < (n : Int) := by omega
  obtain ⟨u, hu⟩ : ∃ u, (xs.flatMap bxR.cells)[i * 4 + 3]? = some u := ⟨_, List.getElem?_eq_getElem (by rw [rows_len, ← unhide HN]; show i * 4 + 3 < n * 4; omega)⟩
  have HU := hide hu
  clear hu
  go_wp2_with (at_builtin; refine wpList_append_src _ rfl (.tmp 8) (.tmp 9) 40 rfl w.heap.size 45 i0 _ 4 40 Try.underlying40 hi0 hz0 hz1 hz2 rfl (by omega) rfl (unhide O0) rfl (unhide S1) (rows_one bxR xs) (by unfold maxLen; omega) (by omega) (by simp) ?_
               intro v1 w1 own1 hg1 hat1
               rw [Nat.zero_add, List.nil_append] at own1
               obtain ⟨g, cap, rfl, hbg, hlt⟩ := own1.form (by omega)
               have i3 : (n : Int) ≤ (cap : Int) := by have := own_cap own1; omega
               have hcell := own1.cellAt (i * 4 + 3) (by omega)
               have hfr := own1.frozenAt (i * 4 + 3)
               rw [unhide HU] at hcell
               have O1 := hide own1
               have HG1 := hide hg1
               clear own1 hg1 hat1 hi0 hz0 hz1 hz2)
  go_ret
  obtain ⟨own2, hg2⟩ := (unhide O1).stored (i * 4 + 3) (.int .i64 st)
  have hb1 : Below w.heap.size w w1 := ((Below.refl w.heap.size w).alloc (Nat.le_refl _) _).grown (unhide HG1) (by simp) (fun j hj => by have := ((unhide O0).lt j hj).1; omega)
  rw [show xs.flatMap bxR.cells = xs.flatMap bxR.cells from rfl] at own2
  have hsetB : (w1.setCell ⟨g, i * 4 + 3, none⟩ (.int .i64 st)).ownsRow w.heap.size 45 4 (.slice (some ⟨g, 0, none⟩) n cap) n ((xs.set i { x with state := st }).flatMap bxR.cells) := by
    rw [← unhide HS]; exact own2
  obtain ⟨A', c', hv, -, -, -, hL⟩ := list_of_own (R := bxR) hsetB
  cases hv
  exact ⟨_, _, rfl, hL, hb1.grown hg2 hb1.size (fun j hj => by cases hj; exact hbg)⟩

/-- behind 'open': a box's state turned, or all as it was -/
theorem left_set (xs : List Bx) (s : ByteArray) (st : Int) (i : Nat) (x : Bx) (ha : Apart xs) (hx : xs[i]? = some x) (hf : xs.find? (named s) = some x) : xs.set i { x with state := st } = left xs s st 0 := by
  rw [left, if_pos rfl]
  exact setS_set xs s st i x ha hx (by simpa using List.find?_some hf)
end Go.Proofs.Ytgalpdjmmpjddaa
