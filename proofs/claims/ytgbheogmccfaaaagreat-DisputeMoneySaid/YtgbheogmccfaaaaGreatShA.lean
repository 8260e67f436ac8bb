/- Walks: may a total be shared out? -/
import Derived.Test.YtgbheogmccfaaaaGreatAllC
import Derived.Test.YtgbheogmccfaaaaGreatSplP
import Derived.Test.YtgbheogmccfaaaaGreatShelg
namespace Go.Proofs.YtgbheogmccfaaaaGreat
set_option linter.unusedVariables false
set_option linter.unusedSimpArgs false
open Go.RowKit Go.Shelf Go.Lib

/-- a number, in a cell of its own -/
def numR (k : IntKind) : Rowing Nat where
  sz := 1
  cells x := [.int k x]
  pos := by omega
  len _ := rfl
  one x u hu := by simp at hu; subst hu; rfl
theorem num_at {k : IntKind} {w : World} {B : Nat} {A : Option Addr} {xs : List Nat} (h : ListIn (numR k) w B A xs) {i : Nat} {x : Nat} (hx : xs[i]? = some x) :
    ∃ b off, A = some ⟨b, off, none⟩ ∧ b < B ∧ w.cell? ⟨b, off + i, none⟩ = some (.int k x) := by
  obtain ⟨b, off, e, hb, hc⟩ := h.at hx
  refine ⟨b, off, e, hb, ?_⟩
  have := hc 0 _ rfl
  simpa [numR] using this

theorem sum_zero : ∀ l : List Nat, (∀ x ∈ l, x = 0) → l.sum = 0
  | [], _ => rfl
  | x :: r, h => by rw [List.sum_cons, h x (List.mem_cons_self ..), sum_zero r fun y hy => h y (List.mem_cons_of_mem _ hy)]
theorem wrong1_any (x : Int) (W : World) : Calls Tryz.prog 73 #[.int .i64 x] W fun e w' => e = .returned (.bool (decide (x < 0))) ∧ W = w' := by
  go_enter Tryz.func73, Tryz.ntmps73
  go_wp2
  go_ret
  exact ⟨rfl, rfl⟩
theorem wrong2_any (x : Int) (W : World) : Calls Tryz.prog 74 #[.int .i64 x] W fun e w' => e = .returned (.bool (decide (1099511627776 < x))) ∧ W = w' := by
  go_enter Tryz.func74, Tryz.ntmps74
  go_wp2
  go_ret
  exact ⟨rfl, rfl⟩
theorem wrong3_any (x : Int) (W : World) : Calls Tryz.prog 75 #[.int .i64 x] W fun e w' => e = .returned (.bool (decide (0 < x))) ∧ W = w' := by
  go_enter Tryz.func75, Tryz.ntmps75
  go_wp2
  go_ret
  exact ⟨rfl, rfl⟩
/-- is there one such among numbers? -/
theorem con64_any (g : Nat) (p : Int → Bool) (eg : ∀ args W, (callFunc g args).run Tryz.prog W = .ok (.enter g args) W) (hg : ∀ (x : Int) (W : World), Calls Tryz.prog g #[.int .i64 x] W fun e w' => e = .returned (.bool (p x)) ∧ W = w')
    (xs : List Nat) (A : Option Addr) (n c : Nat) (w : World) (hn : n = xs.length) (h0 : 0 < n) (hlen : n ≤ 100000) (hx : ListIn (numR .i64) w w.heap.size A xs) (r : Bool) (hr : r = xs.any (fun x => p x)) :
    Calls Tryz.prog 76 #[.slice A n c, .func (.func g) #[] #[]] w fun e w' => e = .returned (.bool r) ∧ Below w.heap.size w w' := by
  obtain ⟨b, off, rfl, hb, _⟩ := hx (by intro e; subst e; simp at hn; omega)
  have hc : ∀ j, j < xs.length → w.cell? ⟨b, off + j, none⟩ = some ((fun x : Nat => Value.int .i64 x) xs[j]!) := fun j hj => by
    obtain ⟨b', off', he, _, h⟩ := num_at hx (List.getElem?_eq_getElem hj)
    cases he
    rw [h, getElem!_pos xs j hj]
  have key := AnyE.slices_ContainsFunc Tryz.conI64 (fun x : Nat => Value.int .i64 x) (fun x : Nat => p x) g #[] eg b off n c xs w
    (fun W x _ => (hg x W).mono fun e w' ⟨h1, h2⟩ => ⟨h1, 0, by rw [← h2]; rfl⟩) (by omega) (by omega) hc
  change Calls Tryz.prog 76 _ _ _ at key
  refine key.mono ?_
  rintro e w' ⟨rfl, q, rfl⟩
  refine ⟨?_, ((Laid.refl _).drewN q).1⟩
  rw [hr, List.take_of_length_le (by omega)]

set_option maxHeartbeats 2000000 in
set_option maxRecDepth 100000 in
theorem wrong_any (t : Nat) (ws : List Nat) (A : Option Addr) (n c : Nat) (w : World) (hn : n = ws.length) (hlen : n ≤ 4096) (h0 : 0 < ws.sum) (hm : ∀ x ∈ ws, x ≤ 1099511627776) (ht : t ≤ 1099511627776) (hx : ListIn (numR .i64) w w.heap.size A ws) :
    Calls Tryz.prog 41 #[.int .i64 t, .slice A n c] w fun e w' => e = .returned (.int .i64 0) ∧ Below w.heap.size w w' := by
  have hn0 : 0 < n := by
    rcases Nat.eq_zero_or_pos n with h | h
    · have : ws = [] := List.eq_nil_of_length_eq_zero (by omega)
      subst this; simp at h0
    · exact h
  have e1 : ∀ args W, (callFunc 73 args).run Tryz.prog W = .ok (.enter 73 args) W := enters_of Tryz.func73 (by kernel_rfl) rfl
  have e2 : ∀ args W, (callFunc 74 args).run Tryz.prog W = .ok (.enter 74 args) W := enters_of Tryz.func74 (by kernel_rfl) rfl
  have e3 : ∀ args W, (callFunc 75 args).run Tryz.prog W = .ok (.enter 75 args) W := enters_of Tryz.func75 (by kernel_rfl) rfl
  have r1 : false = ws.any (fun x => decide ((x : Int) < 0)) := by symm; rw [List.any_eq_false]; intro x _; simp
  have r2 : false = ws.any (fun x => decide (1099511627776 < (x : Int))) := by symm; rw [List.any_eq_false]; intro x hx; have := hm x hx; simp; omega
  have r3 : true = ws.any (fun x => decide (0 < (x : Int))) := by
    symm
    rw [List.any_eq_true]
    refine Classical.byContradiction fun hno => ?_
    have : ws.sum = 0 := sum_zero ws fun x hx => by
      rcases Nat.eq_zero_or_pos x with h | h
      · exact h
      · exact absurd ⟨x, hx, by simp; omega⟩ hno
    omega
  have C1 := hide (fun W hw => con64_any 73 _ e1 wrong1_any ws A n c W hn hn0 (by omega) hw false r1)
  have C2 := hide (fun W hw => con64_any 74 _ e2 wrong2_any ws A n c W hn hn0 (by omega) hw false r2)
  have C3 := hide (fun W hw => con64_any 75 _ e3 wrong3_any ws A n c W hn hn0 (by omega) hw true r3)
  have HX := hide hx
  have t1 : decide ((t : Int) < 0) = false := by rw [decide_eq_false_iff_not]; omega
  have t2 : decide (1099511627776 < (t : Int)) = false := by rw [decide_eq_false_iff_not]; omega
  have t3 : decide ((4096 : Int) < (n : Int)) = false := by rw [decide_eq_false_iff_not]; omega
  have t4 : decide ((n : Int) = 0) = false := by rw [decide_eq_false_iff_not]; omega
  have t5 : ((n : Int) == 0) = false := by simp; omega
  clear e1 e2 e3 r1 r2 r3 hn h0 hm hx
  go_enter Tryz.func41, Tryz.ntmps41
  go_wp2_with fail
  (with_reducible refine (unhide C1 _ (unhide HX)).mono ?_); rintro e w1 ⟨rfl, hb⟩
  have B1 := hide hb
  clear hb
  go_wp2_with fail
  (with_reducible refine (unhide C2 _ ((unhide HX).after (unhide B1))).mono ?_); rintro e w2 ⟨rfl, hb⟩
  have B2 := hide ((unhide B1).trans (hb.mono (unhide B1).size))
  clear hb
  by_cases h0 : t = 0
  · subst h0
    go_wp2_with fail
    go_ret
    exact ⟨rfl, unhide B2⟩
  · have t6 : decide (0 < (t : Int)) = true := by rw [decide_eq_true_eq]; omega
    go_wp2_with fail
    (with_reducible refine (unhide C3 _ ((unhide HX).after (unhide B2))).mono ?_); rintro e w3 ⟨rfl, hb⟩
    have B3 := hide ((unhide B2).trans (hb.mono (unhide B2).size))
    clear hb
    go_wp2_with fail
    go_ret
    exact ⟨rfl, unhide B3⟩
end Go.Proofs.YtgbheogmccfaaaaGreat
