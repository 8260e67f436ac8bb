/- Walks: entries sorted by the library. -/
import Derived.Test.YtjihkoleipkgmaaLgV
import Derived.Test.YtjihkoleipkgmaaCmpW
import Derived.Test.YtjihkoleipkgmaaSortG
import Derived.Test.YtjihkoleipkgmaaShelg
namespace Go.Proofs.Ytjihkoleipkgmaa
set_option linter.unusedVariables false
set_option linter.unusedSimpArgs false
open Go.RowKit Go.Sort Go.Shelf Go.Lib

/-- which of two entries is ahead -/
def enCmp (x y : En) : Int := orI (cmpS x.acct y.acct) (cmpS x.cur y.cur)
theorem enCmp_swap (x y : En) : enCmp y x = - enCmp x y := orI_neg (cmpS_swap _ _) (cmpS_swap _ _)
theorem enCmp_zero {x y : En} : enCmp x y = 0 ↔ x.acct = y.acct ∧ x.cur = y.cur := by unfold enCmp; rw [orI_zero, cmpS_zero, cmpS_zero]
theorem enCmp_trans {x y z : En} (h1 : enCmp x y ≤ 0) (h2 : enCmp y z ≤ 0) : enCmp x z ≤ 0 ∧ (enCmp x z = 0 → enCmp x y = 0 ∧ enCmp y z = 0) :=
  ((ord3_S _ _ _).orI (cmpS_bd _ _) (cmpS_bd _ _) (cmpS_bd _ _) (ord3_S _ _ _)) h1 h2
theorem swo_en : SWO (ltOf enCmp) := ⟨fun x => by
    have := enCmp_zero.2 (⟨rfl, rfl⟩ : x.acct = x.acct ∧ x.cur = x.cur)
    simp [ltOf, this], fun x y z h1 h2 => by
    simp only [ltOf, decide_eq_true_eq] at *
    have := enCmp_trans (x := x) (y := y) (z := z) (by omega) (by omega)
    have h3 := this.1
    have h4 := this.2
    by_cases h : enCmp x z = 0
    · have := h4 h; omega
    · omega, fun x y z h1 h2 => by
    simp only [ltOf, decide_eq_false_iff_not] at *
    have e1 := enCmp_swap x y
    have e2 := enCmp_swap y z
    have e3 := enCmp_swap x z
    have := (enCmp_trans (x := z) (y := y) (z := x) (by omega) (by omega)).1
    omega⟩
abbrev En.val (x : En) : Value := .agg #[.string x.acct, .string x.cur, .int .i64 x.amt]
set_option maxHeartbeats 4000000 in
set_option maxRecDepth 100000 in
theorem Accounts1_any (x y : En) (w : World) :
    Calls Try.prog 40 #[x.val, y.val] w fun e w' => e = .returned (.int .i64 (enCmp x y)) ∧ Laid w w' := by
  obtain ⟨c1, hc1⟩ : ∃ c, c = cmpS x.acct y.acct := ⟨_, rfl⟩
  obtain ⟨c2, hc2⟩ : ∃ c, c = cmpS x.cur y.cur := ⟨_, rfl⟩
  have C1 := hide (fun W => cmpTxt_any x.acct y.acct W)
  have C2 := hide (fun W => cmpTxt_any x.cur y.cur W)
  unfold enCmp
  rw [← hc1, ← hc2]
  simp only [← hc1] at C1
  simp only [← hc2] at C2
  obtain ⟨R, hR⟩ : ∃ r, r = orI c1 c2 := ⟨_, rfl⟩
  rw [← hR]
  have HR := hide hR
  clear hR hc1 hc2
  have k1 := ((Whole.made w 44 #[.string x.acct, .string x.cur, .int .i64 x.amt]).alloc (.cells #[.string y.acct, .string y.cur, .int .i64 y.amt] 44)).drew
  have k2 := (Whole.made_at (w.alloc (.cells #[.string x.acct, .string x.cur, .int .i64 x.amt] 44)) 44 #[.string y.acct, .string y.cur, .int .i64 y.amt] (w.heap.size + 1) (by simp)).drew
  have hL := (((Laid.refl w).alloc (.cells #[.string x.acct, .string x.cur, .int .i64 x.amt] 44)).alloc (.cells #[.string y.acct, .string y.cur, .int .i64 y.amt] 44)).drew
  have hz : (((w.alloc (.cells #[.string x.acct, .string x.cur, .int .i64 x.amt] 44)).alloc (.cells #[.string y.acct, .string y.cur, .int .i64 y.amt] 44)).drew).heap.size = w.heap.size + 2 := by simp
  have hK := fun o => (Whole.made_at (((w.alloc (.cells #[.string x.acct, .string x.cur, .int .i64 x.amt] 44)).alloc (.cells #[.string y.acct, .string y.cur, .int .i64 y.amt] 44)).drew) o #[.int .i64 c1, .int .i64 c2] (w.heap.size + 2) hz.symm)
  have HK := hide (And.intro ((hK 3).cells 0) ((hK 3).cells 1))
  have HL := hide hL
  have a1 := k1.cells 0; have a2 := k1.cells 1; have b1 := k2.cells 0; have b2 := k2.cells 1
  simp only [List.getElem?_toArray, List.getElem?_cons_zero, List.getElem?_cons_succ] at a1 a2 b1 b2
  clear hK hz hL k1 k2
  go_enter Try.func40, Try.ntmps40
  go_wp2_with fail
  go_region_held3 (fun w' => w'.cell? ⟨w.heap.size, 0, none⟩ = some (.string x.acct) ∧ w'.cell? ⟨w.heap.size, 1, none⟩ = some (.string x.cur) ∧ w'.cell? ⟨w.heap.size + 1, 0, none⟩ = some (.string y.acct) ∧ w'.cell? ⟨w.heap.size + 1, 1, none⟩ = some (.string y.cur)) (go_keep)
    ((first
      | (go_at_call 42; (with_reducible refine (unhide C1 _).mono ?_); rintro e w' ⟨rfl, rfl⟩)
      | (go_at_call 42; (with_reducible refine (unhide C2 _).mono ?_); rintro e w' ⟨rfl, rfl⟩)
      | (go_at_call 41; (refine (cmpOr_any c1 c2 (w.heap.size + 2) 2 _ (unhide HK).1 (unhide HK).2).mono ?_); rintro e w' ⟨rfl, rfl⟩)))
  all_goals
    go_wp2_with fail
    go_ret
    exact ⟨by rw [unhide HR]; rfl, (unhide HL).alloc _⟩

/-- entries in their order -/
def SortedEn (xs ys : List En) : Prop := ys.Perm xs ∧ ys.Pairwise fun x y => enCmp x y ≤ 0
theorem sorted_perm [Inhabited En] {xs : List En} {d : Array En} (hp : PermIn 0 xs.toArray.size xs.toArray d) (hs : SortedIn (ltOf enCmp) 0 xs.toArray.size d) : SortedEn xs d.toList := by
  obtain ⟨h1, h2, h3⟩ := hp
  refine ⟨?_, ?_⟩
  · have e1 : (d.extract 0 xs.toArray.size) = d := by rw [← h1]; simp
    have e2 : (xs.toArray.extract 0 xs.toArray.size) = xs.toArray := by simp
    rw [e1, e2] at h3
    simpa using h3
  · rw [List.pairwise_iff_getElem]
    intro i j hi hj hij
    have h4 := hs i j (Nat.zero_le _) hij (by rw [← h1]; simpa using hj)
    have ei : d[i]! = d.toList[i] := by rw [getElem!_pos d i (by simpa using hi)]; simp
    have ej : d[j]! = d.toList[j] := by rw [getElem!_pos d j (by simpa using hj)]; simp
    rw [ei, ej] at h4
    simp only [ltOf, decide_eq_false_iff_not] at h4
    have := enCmp_swap d.toList[i] d.toList[j]
    omega
theorem sortEn_none (p : Option Addr) (cap : Nat) (fv : Value) (w : World) : Calls Try.prog 39 #[.slice p 0 cap, fv] w fun e w' => e = .returned (.tuple #[]) ∧ w' = w :=
  AnyF.slices_SortFunc_none Try.sortEn p cap fv w
theorem sortEn_any {xs : List En} {B n : Nat} {v : Value} {w : World} (hn : n = xs.length) (hlen : n ≤ 100000) (own : w.ownsRow B 44 enR.sz v n (xs.flatMap enR.cells)) :
    Calls Try.prog 39 #[v, .func (.func 40) #[] #[]] w fun e w' => e = .returned (.tuple #[]) ∧ (∃ ys, SortedEn xs ys ∧ w'.ownsRow B 44 enR.sz v n (ys.flatMap enR.cells)) ∧ Below B w w' := by
  rcases own.2 with ⟨rfl, h0⟩ | ⟨g, cap, cur, rfl, hB, hg, hc, hm, hs, ht⟩
  · have hx : xs = [] := List.eq_nil_of_length_eq_zero (by omega)
    subst hx
    subst h0
    refine (sortEn_none none 0 _ w).mono ?_
    rintro e w' ⟨rfl, rfl⟩
    exact ⟨rfl, ⟨[], ⟨.refl _, .nil⟩, own⟩, Below.refl _ _⟩
  · haveI : Inhabited En := ⟨⟨ByteArray.empty, ByteArray.empty, 0⟩⟩
    have hgs : g < w.heap.size := (Array.getElem?_eq_some_iff.1 hg).1
    have eg : ∀ args W, (callFunc 40 args).run Try.prog W = .ok (.enter 40 args) W := enters_of Try.func40 (by kernel_rfl) rfl
    have hcmp : CmpLays Try.prog 40 #[] enR.cells enR.sz enCmp g 0 xs.toArray.size w := fun m os dk _ x y =>
      (Accounts1_any x y _).mono fun e w' ⟨h1, h2⟩ => ⟨h1, h2.out⟩
    have hH : HoldsK enR.cells enR.sz w g 0 xs.toArray := holdsK_row enR hg (by rw [← hn]; exact ht)
    have key := AnyQ.slices_SortFunc Try.sortEn enR.sz Try.isAgg44 Try.sizeOf44 enR.cells enR.len enR.one enCmp swo_en 40 #[] g 0 cap xs.toArray w eg hcmp hH hgs (by simp; omega)
    change Calls Try.prog 39 _ _ _ at key
    have e0 : xs.toArray.size = n := by simp [hn]
    rw [e0] at key
    refine key.mono ?_
    rintro e w' ⟨rfl, d, m, os, hp, hso, rfl⟩
    have hd := sorted_perm (xs := xs) (d := d) (by rw [e0]; exact hp) (by rw [e0]; exact hso)
    have hb := laid_sortK enR (w := w) (m := m) (os := os) (d := d) hB hgs
    exact ⟨rfl, ⟨d.toList, hd, ownsRow_sortedK enR (by rw [hp.1, e0]) hB hg hc hm hs⟩, hb.1⟩
end Go.Proofs.Ytjihkoleipkgmaa
