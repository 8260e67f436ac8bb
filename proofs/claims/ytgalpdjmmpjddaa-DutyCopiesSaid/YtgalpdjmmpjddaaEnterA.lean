/- Walks: a bond opened; the last condition of Enter. -/
import Derived.Test.YtgalpdjmmpjddaaFirstA
import Derived.Deep.RegionHeld3
namespace Go.Proofs.Ytgalpdjmmpjddaa
set_option linter.unusedVariables false
set_option linter.unusedSimpArgs false
open Go.RowKit Go.Maps

def limI (n : Int) : Int := if n < 0 then 0 else if 1099511627776 < n then 1099511627776 else n
set_option maxHeartbeats 1000000 in
theorem Open_any (n : Int) (w : World) :
    Calls Try.prog 28 #[.int .i64 n] w fun e w' => e = .returned (.pointer (some ⟨w.heap.size + 1, 0, none⟩)) ∧ BondAt w' (w.heap.size + 1) (limI n) w.heap.size 0 [] ∧ Below w.heap.size w w' := by
  have hmm := @run_makeMap Try.prog
  have hb : ∀ x : Int, BondAt ((w.alloc (.map #[] 0)).alloc (.cells #[.int .i64 x, .map (some w.heap.size)] 96)) (w.heap.size + 1) x w.heap.size 0 [] :=
    fun x => ⟨Whole.made_at _ _ _ _ (by simp), ((MapAt.made strKeys w).alloc _).congr fun _ _ => rfl⟩
  have HB := hide hb
  clear hb
  obtain ⟨l, hl⟩ : ∃ l, l = limI n := ⟨_, rfl⟩
  rw [← hl]
  unfold limI at hl
  go_enter Try.func28, Try.ntmps28
  by_cases h1 : n < 0
  · rw [if_pos h1] at hl
    subst hl
    go_wp2_with fail
    all_goals (go_ret; exact ⟨rfl, unhide HB _, ((Below.refl _ _).alloc (Nat.le_refl _) _).alloc (by simp) _⟩)
  · rw [if_neg h1] at hl
    by_cases h2 : 1099511627776 < n
    · rw [if_pos h2] at hl
      subst hl
      go_wp2_with fail
      all_goals (go_ret; exact ⟨rfl, unhide HB _, ((Below.refl _ _).alloc (Nat.le_refl _) _).alloc (by simp) _⟩)
    · rw [if_neg h2] at hl
      subst hl
      go_wp2_with fail
      all_goals (go_ret; exact ⟨rfl, unhide HB _, ((Below.refl _ _).alloc (Nat.le_refl _) _).alloc (by simp) _⟩)

def overB (lim : Int) (bs : List Bx) (d : Int) : Bool := decide (lim < IntKind.i64.wrap (used bs + d))
set_option maxHeartbeats 2000000 in
theorem Enter1_any (P Q p m n : Nat) (lim d : Int) (bs : List Bx) (w : World) (h1 : w.cell? ⟨P, 0, none⟩ = some (.pointer (some ⟨p, 0, none⟩))) (h2 : w.cell? ⟨Q, 0, none⟩ = some (.int .i64 d)) (hP : P < w.heap.size) (hQ : Q < w.heap.size)
    (hB : BondAt w p lim m n bs) (hok : BsOk bs) :
    Calls Try.prog 46 #[.pointer (some ⟨P, 0, none⟩), .pointer (some ⟨Q, 0, none⟩)] w fun e w' => e = .returned (.tuple #[.bool (overB lim bs d), .int .i64 10]) ∧ Below w.heap.size w w' := by
  have hp := hB.1.lt
  have hB1 : BondAt w.drew p lim m n bs := hB
  have hcp : w.cell? ⟨p, 0, none⟩ = some (.int .i64 lim) := hB.1.cells 0
  have HU := hide (Used_any p m n lim bs w.drew hB1 hok)
  have HBK := hide hB
  clear hB hB1 hok
  have hov : overB lim bs d = decide (lim < IntKind.i64.wrap (used bs + d)) := rfl
  generalize overB lim bs d = ob at *
  generalize used bs = u at *
  go_enter Try.func46, Try.ntmps46
  go_wp2_with fail
  go_region_held3 (fun w' => w'.cell? ⟨P, 0, none⟩ = some (.pointer (some ⟨p, 0, none⟩)) ∧ w'.cell? ⟨Q, 0, none⟩ = some (.int .i64 d) ∧ w'.cell? ⟨p, 0, none⟩ = some (.int .i64 lim))
    (go_keep)
    ((go_at_call 18; (with_reducible refine (unhide HU).mono ?_); rintro e w1 ⟨rfl, hb⟩; have c1 := (hb.cell (p := ⟨P, 0, none⟩) hP).trans h1; have c2 := (hb.cell (p := ⟨Q, 0, none⟩) hQ).trans h2; have c3 := (hb.cell (p := ⟨p, 0, none⟩) hp).trans hcp; have HB1 := hide hb; clear hb))
  rw [← hov]
  go_wp2_with fail
  go_ret2
  exact ⟨rfl, (Below.refl _ _).drew.trans (unhide HB1)⟩
end Go.Proofs.Ytgalpdjmmpjddaa
