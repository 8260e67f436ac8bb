/- Walk: a fraction made small (that it may be: all that is asked of it). -/
import Derived.Test.YtgalpdjmmpjddaaPartsP
import Derived.BigRegion
namespace Go.Proofs.Ytgalpdjmmpjddaa
set_option linter.unusedVariables false
set_option linter.unusedSimpArgs false
open Go.RowKit

set_option maxHeartbeats 2000000 in
theorem Reduce_any (n d : Int) (w : World) (hn : n < 9223372036854775808) (hd : d < 9223372036854775808) :
    Calls Try.prog 29 #[.agg #[.int .i64 n, .int .i64 d]] w fun e w' => (∃ x y : Int, e = .returned (.tuple #[.agg #[.int .i64 x, .int .i64 y], .bool (fracB n d)])) ∧ Below w.heap.size w w' := by
  have HF := hide (fun W => fraction_any n d W)
  obtain ⟨r, hr⟩ : ∃ r, r = fracB n d := ⟨_, rfl⟩
  rw [← hr] at HF ⊢
  have HR := hide hr
  have HH := hide (And.intro hn hd)
  clear hr hn hd
  go_enter Try.func29, Try.ntmps29
  go_wp2_with fail
  (with_reducible refine (unhide HF _).mono ?_); rintro e w1 ⟨rfl, hb⟩
  have hA := ((Whole.made w 64 #[.int .i64 n, .int .i64 d]).alloc (.cells #[.int .i64 0, .int .i64 0] 64)).after hb
  have hO := (Whole.made_at (w.alloc (.cells #[.int .i64 n, .int .i64 d] 64)) 64 #[.int .i64 0, .int .i64 0] (w.heap.size + 1) (by simp)).after hb
  have HW := hide ((((Below.refl w.heap.size w).alloc (Nat.le_refl _) (.cells #[.int .i64 n, .int .i64 d] 64)).alloc (by simp) (.cells #[.int .i64 0, .int .i64 0] 64)).trans (hb.mono (by simp; omega)))
  clear hb
  have cA := hA.cells
  have cO := hO.cells
  have hsz := hO.lt
  have hsoft := hO.soft
  have HA := hide hA; have HO := hide hO; clear hA hO
  cases r
  · go_wp2_with fail
    have hz := (((unhide HO).put 0 (.int .i64 0)).put 1 (.int .i64 0)).cells
    refine bodyPost_ret (v := .tuple #[.agg #[.int .i64 0, .int .i64 0], .bool false]) (by simp [results, Try.results29, go_sem, hz]) rfl ⟨⟨_, _, rfl⟩, ?_⟩
    exact ((unhide HW).setCell (by simp) _).setCell (by simp) _
  · have hf : 0 ≤ n ∧ 1 ≤ d := by have := unhide HR; simp [fracB] at this; exact this
    obtain ⟨N, rfl⟩ : ∃ N : Nat, n = N := ⟨n.toNat, by omega⟩
    obtain ⟨D, rfl⟩ : ∃ D : Nat, d = D := ⟨d.toNat, by omega⟩
    have HP := hide hf
    clear hf
    go_wp2_with fail
    go_region
    go_wp2_with fail
    have cA := ((unhide HA).drew).cells
    clear cA cO hsz hsoft
    go_loopw [4, 5] (fun x y wr => ∃ a b : Nat, x = .int .i64 a ∧ y = .int .i64 b ∧ Whole wr w.heap.size 64 #[.int .i64 N, .int .i64 D] ∧ Whole wr (w.heap.size + 1) 64 #[.int .i64 0, .int .i64 0] ∧ Below w.heap.size w wr ∧ Hid (a < 9223372036854775808 ∧ b < 9223372036854775808 ∧ (0 < a ∨ 0 < b))) (fun _ y _ => (intOf y).toNat)
    case atStart =>
      exact ⟨N, D, rfl, rfl, (unhide HA).drew, (unhide HO).drew, (unhide HW).drew, hide (by have := unhide HP; have := unhide HH; omega)⟩
    case round =>
      obtain ⟨a, b, rfl, rfl, hA, hO, hW, HI⟩ := hrel
      obtain ⟨wo, rfl⟩ : ∃ wo : World, wo = wr := ⟨_, rfl⟩
      by_cases hb : 0 < b
      · have hb0 : ¬ b = 0 := by omega
        obtain ⟨c, hc⟩ : ∃ c, c = a % b := ⟨_, rfl⟩
        have hcb : c < b := by rw [hc]; exact Nat.mod_lt _ hb
        have e1 : ((a : Int).tmod (b : Int)) = (c : Int) := by rw [hc, Int.tmod_eq_emod_of_nonneg (by omega)]; simp
        have e2 : ((a : Int) % (b : Int)) = (c : Int) := by rw [hc]; simp
        have HC := hide hcb
        have HA' := hide hA; have HO' := hide hO; have HW' := hide hW
        clear hc hcb hA hO hW
        go_wp2_with fail
        go_region
        go_wp2_with fail
        go_roundw
        case rel => exact ⟨b, c, rfl, rfl, (unhide HA').drew, (unhide HO').drew, (unhide HW').drew, hide (by have := unhide HI; have := unhide HC; omega)⟩
        case measure => have := unhide HC; simp [intOf]; omega
      · have hb0 : b = 0 := by omega
        subst hb0
        have ha0 : ¬ a = 0 := by have := unhide HI; omega
        have e1 : IntKind.i64.wrap ((N : Int).tdiv (a : Int)) = ((N / a : Nat) : Int) := wrapI (by rw [tdivN]) (by have := Nat.div_le_self N a; have := unhide HH; omega)
        have e2 : IntKind.i64.wrap ((D : Int).tdiv (a : Int)) = ((D / a : Nat) : Int) := wrapI (by rw [tdivN]) (by have := Nat.div_le_self D a; have := unhide HH; omega)
        have e3 := e1; have e4 := e2
        rw [tdivE] at e3 e4
        obtain ⟨x, hx⟩ : ∃ x, x = N / a := ⟨_, rfl⟩
        obtain ⟨y, hy⟩ : ∃ x, x = D / a := ⟨_, rfl⟩
        rw [← hx] at e1 e3
        rw [← hy] at e2 e4
        clear hx hy
        have cA := hA.cells
        have cO := hO.cells
        have hsz := hO.lt
        have hsoft := hO.soft
        have HA' := hide hA; have HO' := hide hO; have HW' := hide hW
        clear hA hO hW
        go_wp2_with fail
        go_region
        go_wp2_with fail
        have hz := (((unhide HO').put 0 (.int .i64 x)).put 1 (.int .i64 y)).cells
        exact bodyPost_ret (v := .tuple #[.agg #[.int .i64 x, .int .i64 y], .bool true]) (by simp [results, Try.results29, go_sem, hz]) rfl ⟨⟨_, _, rfl⟩, ((unhide HW').drew.setCell (by simp) _).setCell (by simp) _⟩
end Go.Proofs.Ytgalpdjmmpjddaa
