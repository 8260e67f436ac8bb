/- Walks: the law TrimUp. -/
import Derived.Test.YtcdjljcmhbipiaaLoadsB
import Derived.Test.YtcdjljcmhbipiaaFitA
import Derived.Test.YtcdjljcmhbipiaaOpenTrim
import Derived.Test.YtcdjljcmhbipiaaSafeA
namespace Go.Proofs.Ytcdjljcmhbipiaa
open Go.RowKit

theorem own_cap {w : World} {base e size g n cap : Nat} {xs : List Value} (h : w.ownsRow base e size (.slice (some ⟨g, 0, none⟩) n cap) n xs) : n ≤ cap := by
  rcases h.2 with ⟨h', _⟩ | ⟨g', cap', cur, h', _, _, hnc, _⟩
  · cases h'
  · cases h'; exact hnc

theorem up_row {w w2 : World} {g n cap : Nat} (hlt : w.heap.size < w2.heap.size)
    (h : (Value.slice (some ⟨g, 0, none⟩) n cap).ownBlock = (Value.slice (some ⟨w2.heap.size, 0, none⟩) 0 0).ownBlock ∨ (Value.slice (some ⟨g, 0, none⟩) n cap).ownBlock = some (w2.alloc (.cells #[] 33)).heap.size) : w.heap.size < g ∧ ¬ g = w.heap.size ∧ ¬ w.heap.size = g := by
  simp [Value.ownBlock] at h
  omega

theorem whole_past {w w' : World} {o : Obj} {b n c : Nat} {t : TypeId} {cs : Array Value} (k : Whole w b t cs) (hg : (w.alloc o).grownBy w' (Value.slice (some ⟨w.heap.size, 0, none⟩) n c).ownBlock) : Whole w' b t cs := by
  have hlt := k.lt
  refine (hg.block b (by simp; omega) ?_).trans (k.alloc o)
  intro e
  simp [Value.ownBlock] at e
  omega
theorem below_past {B : Nat} {a w w' : World} {o : Obj} {n c : Nat} (k : Below B a w) (hB : B ≤ w.heap.size) (hg : (w.alloc o).grownBy w' (Value.slice (some ⟨w.heap.size, 0, none⟩) n c).ownBlock) : Below B a w' := by
  refine (k.alloc hB o).grown hg (by simp; omega) (fun j hj => ?_)
  simp [Value.ownBlock] at hj
  omega

theorem loads_of_own' {w : World} {base n g cap : Nat} {xs : List Ld} (h : w.ownsRow base 33 7 (.slice (some ⟨g, 0, none⟩) n cap) n (xs.flatMap Ld.cells)) : LoadsIn w w.heap.size (some ⟨g, 0, none⟩) xs := by
  obtain ⟨A, c, e, hl⟩ := loads_of_own h
  cases e
  exact hl

theorem up_law {s : Shp} {xs : List Ld} (k : Nat) (x : Ld) (hx : xs[k]? = some x) (h : fitB s xs = true) (h' : fitB s (xs.set k { x with tier := x.tier + 1 }) = true) :
    mLong s (xs.set k { x with tier := x.tier + 1 }) = mLong s xs ∧ mCross s (xs.set k { x with tier := x.tier + 1 }) = mCross s xs ∧ mUp s (xs.set k { x with tier := x.tier + 1 }) = mUp s xs + x.wt ∧ mWeight s (xs.set k { x with tier := x.tier + 1 }) = mWeight s xs := by
  obtain ⟨a1, a2, a3, a4⟩ := mom_fit h
  obtain ⟨b1, b2, b3, b4⟩ := mom_fit h'
  have hk : k < xs.length := (List.getElem?_eq_some_iff.1 hx).1
  have e : ∀ (f : Ld → Int) (x' : Ld), ((xs.set k x').map f).sum = (xs.map f).sum + f x' - f x := fun f x' => by
    have h1 : xs.set k x' = xs.take k ++ x' :: xs.drop (k + 1) := by rw [List.set_eq_take_append_cons_drop]; simp [hk]
    have h2 : xs = xs.take k ++ x :: xs.drop (k + 1) := by rw [← drop_at xs k x hx, List.take_append_drop]
    rw [h1]
    conv => rhs; rw [h2]
    simp only [List.map_append, List.map_cons, List.sum_append, List.sum_cons]
    omega
  rw [a1, a2, a3, a4, b1, b2, b3, b4]
  unfold longOf crossOf upOf weightOf
  simp only [e]
  refine ⟨by omega, by omega, ?_, by omega⟩
  rw [Int.mul_add]
  omega

set_option maxHeartbeats 4000000 in
theorem TrimUp_any (s : Shp) (hs : s.Came) (A : Option Addr) (xs : List Ld) (c : Nat) (at' : Int) (w : World) (hl : LoadsIn w w.heap.size A xs) (hc : xs.length ≤ c) (hc' : c ≤ maxLen) (hat : I64 at') :
    Calls Try.prog 4 #[s.val, .slice A xs.length c, .int .i64 at'] w fun e w' => e = .returned (.bool true) ∧ Below w.heap.size w w' := by
  have hnm := hs.name
  obtain ⟨nm, a1, a2, a3, a4, a5, a6, a7, a8⟩ := s
  obtain ⟨sv, hsv⟩ : ∃ sv : Shp, sv = ⟨nm, a1, a2, a3, a4, a5, a6, a7, a8⟩ := ⟨_, rfl⟩
  have hv : Shp.val ⟨nm, a1, a2, a3, a4, a5, a6, a7, a8⟩ = .agg #[.string nm, .int .i64 a1, .int .i64 a2, .int .i64 a3, .int .i64 a4, .int .i64 a5, .int .i64 a6, .int .i64 a7, .int .i64 a8] := rfl
  have hsn : sv.name = nm := by rw [hsv]
  have hv' : sv.val = .agg #[.string nm, .int .i64 a1, .int .i64 a2, .int .i64 a3, .int .i64 a4, .int .i64 a5, .int .i64 a6, .int .i64 a7, .int .i64 a8] := by rw [hsv]; exact hv
  have hnm' : nm.size ≤ maxLen := hnm
  have hM : ∀ A (ys : List Ld) c (m : Nat) W, ys.length = m → LoadsIn W W.heap.size A ys → Calls Try.prog 9 #[sv.val, .slice A m c] W
      fun e w' => e = .returned (.tuple #[.int .i64 (mLong sv ys), .int .i64 (mCross sv ys), .int .i64 (mUp sv ys), .int .i64 (mWeight sv ys)]) ∧ Below W.heap.size W w' :=
    fun A ys c m W hm hl => by subst hm; exact Moments_any sv A ys c W (by rw [hsn]; exact hnm') hl
  have hF := fun c W hl => Fit_any sv A xs c W (by rw [hsn]; exact hnm') hl
  have hF2 : ∀ A (ys : List Ld) c (m : Nat) W, ys.length = m → LoadsIn W W.heap.size A ys → Calls Try.prog 8 #[sv.val, .slice A m c] W
      fun e w' => e = .returned (.bool (fitB sv ys)) ∧ Below W.heap.size W w' :=
    fun A ys c m W hm hl => by subst hm; exact Fit_any sv A ys c W (by rw [hsn]; exact hnm') hl
  have hS2 : ∀ A (ys : List Ld) c (m : Nat) W, ys.length = m → LoadsIn W W.heap.size A ys → Calls Try.prog 10 #[sv.val, .slice A m c] W
      fun e w' => e = .returned (.int .i64 (safeE sv ys)) ∧ Below W.heap.size W w' :=
    fun A ys c m W hm hl => by subst hm; exact Safe_any sv A ys c W (by rw [hsn]; exact hnm') hl
  rw [hv'] at hM hF hF2 hS2
  rw [hv]
  clear hv hv' hsv hnm hs hsn
  obtain ⟨n, hn⟩ : ∃ n, n = xs.length := ⟨_, rfl⟩
  rw [← hn] at hc hF ⊢
  have HN := Lib.hid hn; clear hn
  have HM := hide hM; clear hM
  have HF := hide hF; clear hF
  have HF2 := hide hF2; clear hF2
  have HS2 := hide hS2; clear hS2
  have HL := hide hl; clear hl
  unfold maxLen at hc' hnm'
  obtain ⟨ha1, ha2⟩ := hat
  have b0 := (Below.refl w.heap.size w).alloc (Nat.le_refl _) (.cells #[.string nm, .int .i64 a1, .int .i64 a2, .int .i64 a3, .int .i64 a4, .int .i64 a5, .int .i64 a6, .int .i64 a7, .int .i64 a8] 23)
  have HB := hide b0; clear b0
  go_enter Try.func4, Try.ntmps4
  go_wp2_with fail
  refine (awake_any _).mono ?_; rintro e w1 ⟨rfl, hb⟩
  have k1 := (Whole.made w 23 #[.string nm, .int .i64 a1, .int .i64 a2, .int .i64 a3, .int .i64 a4, .int .i64 a5, .int .i64 a6, .int .i64 a7, .int .i64 a8]).after hb
  have b1 := (unhide HB).trans (hb.mono (unhide HB).size)
  have hc1 := k1.cells
  have B1 := hide b1; clear b1 hb
  have K1 := hide k1; clear k1
  by_cases h1 : 60 < n
  · have h1' : decide ((60 : Int) < (n : Int)) = true := by simp; omega
    go_wp2_with fail
    go_ret
    exact ⟨rfl, unhide B1⟩
  have h1' : decide ((60 : Int) < (n : Int)) = false := by simp; omega
  by_cases h2 : 100 < nm.size
  · have h2' : decide ((100 : Int) < (nm.size : Int)) = true := by simp; omega
    go_wp2_with fail
    go_ret
    exact ⟨rfl, unhide B1⟩
  have h2' : decide ((100 : Int) < (nm.size : Int)) = false := by simp; omega
  by_cases h3 : at' < 0
  · have h3' : decide (at' < 0) = true := by simp; omega
    go_wp2_with fail
    go_ret
    exact ⟨rfl, unhide B1⟩
  have h3' : decide (at' < 0) = false := by simp; omega
  by_cases h4 : (n : Int) ≤ at'
  · have h4' : decide ((n : Int) ≤ at') = true := by simp; omega
    go_wp2_with fail
    go_ret
    exact ⟨rfl, unhide B1⟩
  have h4' : decide ((n : Int) ≤ at') = false := by simp; omega
  go_wp2_with fail
  (with_reducible refine (unhide HF _ _ ((unhide HL).after (unhide B1))).mono ?_); rintro e w2 ⟨rfl, hb⟩
  have k2 := (unhide K1).after hb
  have b2 := (unhide B1).trans (hb.mono (unhide B1).size)
  have hc2 := k2.cells
  have B2 := hide b2; clear b2 hb
  have K2 := hide k2; clear k2
  cases hfit : fitB sv xs
  · go_wp2_with fail
    go_ret
    exact ⟨rfl, unhide B2⟩
  have HFit := Lib.hid hfit; clear hfit hc1
  obtain ⟨k, rfl⟩ : ∃ k : Nat, at' = k := ⟨at'.toNat, by omega⟩
  have hkn : k < n := by omega
  clear ha1 ha2 h3 h4 h3' h4'
  have i0 : (0 : Int) ≤ (k : Int) := by omega
  have i1 : (k : Int) < (n : Int) := by omega
  obtain ⟨x, hx⟩ : ∃ x, xs[k]? = some x := ⟨xs[k]'(by rw [← HN.out]; exact hkn), List.getElem?_eq_getElem _⟩
  obtain ⟨_, _, _, _, b5, b6, b7, b8⟩ := onOk_bounds ((fitB_iff sv xs).1 HFit.out |>.2.2.1 x (List.mem_of_getElem? hx))
  have htier : x.tier ≤ 1000 := by have := shipOk_bounds ((fitB_iff sv xs).1 HFit.out).1; omega
  clear b6
  have own0 : (w2.alloc (.cells #[] 33)).ownsRow w.heap.size 33 7 (.slice (some ⟨w2.heap.size, 0, none⟩) 0 0) 0 [] := World.ownsRow_lit (base := w.heap.size) (e := 33) (size := 7) w2 #[] 0 (unhide B2).size (by unfold maxLen; omega) (by simp)
  have src1 : Src (w2.alloc (.cells #[] 33)) 7 A n (xs.flatMap Ld.cells) := by
    have := ((unhide HL).after ((unhide B2).alloc (unhide B2).size (.cells #[] 33))).src
    rw [← HN.out] at this; exact this
  have one1 : ∀ u ∈ xs.flatMap Ld.cells, u.oneCell' = true := one_flat _
  have own0' := hide own0; clear own0
  have src1' := hide src1; clear src1
  have HX := Lib.hid hx; clear hx
  obtain ⟨i0', hi, hz0, hz1, hz2⟩ := info_parts info_load
  go_wp2_with (at_builtin; go_must (refine wpList_append_src _ rfl (.tmp 43) (.tmp 44) 24 rfl w.heap.size 33 i0' _ 7 64 Try.underlying24 hi hz0 hz1 hz2 rfl (by omega) rfl (unhide own0') rfl (unhide src1') one1 (by unfold maxLen; omega) (by omega) (by have := (unhide B2).size; simp; omega) ?_; intro v3 w3 own1 hg1 hat1; simp only [Nat.zero_add, List.nil_append] at own1; obtain ⟨g, cap, hv3, hbg, hglt⟩ := own1.form (by omega); rw [hv3] at own1 hat1 ⊢; have hct := own1.cellAt (k * 7 + 2) (by omega); rw [flat_at xs k 2 x _ HX.out rfl] at hct; have hcf := own1.frozenAt (k * 7 + 2); have hncap : n ≤ cap := own_cap own1; have hgn := up_row (unhide K2).lt hat1; obtain ⟨hgn1, hgn2, hgn3⟩ := hgn; have k3 := whole_past (unhide K2) hg1; have hc3 := k3.cells; have K3 := hide k3; have b3 := below_past (unhide B2) (unhide B2).size hg1; have B3 := hide b3; have O1 := hide own1; clear own1 hg1 hat1 hv3 b3 k3))
  have i2 : (n : Int) ≤ (cap : Int) := by omega
  obtain ⟨x', hx'⟩ : ∃ x' : Ld, x' = { x with tier := x.tier + 1 } := ⟨_, rfl⟩
  have hset := flat_set xs k x HX.out x' 2 (by omega) (.int .i64 (x.tier + 1)) (by rw [hx']; rfl)
  have own2 := ((unhide O1).stored (k * 7 + 2) (.int .i64 (x.tier + 1))).1
  rw [hset] at own2
  have hl4 := loads_of_own' own2
  have hn4 : (xs.set k x').length = n := by rw [List.length_set, HN.out]
  have k4 := (unhide K3).putFar (p := ⟨g, k * 7 + 2, none⟩) hgn3 (.int .i64 (x.tier + 1))
  have b4 := (unhide B3).setCell (p := ⟨g, k * 7 + 2, none⟩) (Nat.le_of_lt hgn1) (.int .i64 (x.tier + 1))
  have hlaw := fun hf => up_law k x HX.out HFit.out (by rw [← hx']; exact hf)
  rw [← hx'] at hlaw
  have hsafe : fitB sv (xs.set k x') = false → safeE sv (xs.set k x') = 1 := fun h => by simp [safeE, h]
  have HLAW := hide hlaw; clear hlaw hx' hset own2
  have HSAFE := hide hsafe; clear hsafe
  have HL4 := hide hl4; clear hl4
  have HN4 := Lib.hid hn4; clear hn4
  have B4 := hide b4; clear b4
  have K4 := hide k4; clear k4
  (with_reducible refine (unhide HF2 _ _ _ _ _ HN4.out (unhide HL4)).mono ?_); rintro e w5 ⟨rfl, hb⟩
  have k5 := (unhide K4).after hb
  have b5 := (unhide B4).trans (hb.mono (unhide B4).size)
  have hl5 := (unhide HL4).after hb
  have hc5 := k5.cells
  have B5 := hide b5; clear b5 hb
  have K5 := hide k5; clear k5
  have HL5 := hide hl5; clear hl5 hct hcf hc3 hc2
  cases hfo : fitB sv (xs.set k x')
  · have hse := (unhide HSAFE) hfo
    clear hfo
    go_wp2_with fail
    (with_reducible refine (unhide HS2 _ _ _ _ _ HN4.out (unhide HL5)).mono ?_); rintro e w6 ⟨rfl, hb⟩
    have b6 := (unhide B5).trans (hb.mono (unhide B5).size)
    have B6 := hide b6; clear b6 hb
    rw [hse]
    clear hse
    go_wp2_with fail
    go_ret
    exact ⟨rfl, unhide B6⟩
  · obtain ⟨e1, e2, e3, e4⟩ := (unhide HLAW) hfo
    have E := Lib.hid (And.intro e1 (And.intro e2 (And.intro e3 e4))); clear e1 e2 e3 e4 hfo
    go_wp2_with fail
    (with_reducible refine (unhide HM _ xs _ _ _ HN.out.symm ((unhide HL).after (unhide B5))).mono ?_); rintro e w6 ⟨rfl, hb⟩
    have k6 := (unhide K5).after hb
    have b6 := (unhide B5).trans (hb.mono (unhide B5).size)
    have hl6 := (unhide HL5).after hb
    have hc6 := k6.cells
    have B6 := hide b6; clear b6 hb
    have K6 := hide k6; clear k6 hc5
    have HL6 := hide hl6; clear hl6
    go_wp2_with fail
    (with_reducible refine (unhide HM _ _ _ _ _ HN4.out (unhide HL6)).mono ?_); rintro e w7 ⟨rfl, hb⟩
    have b7 := (unhide B6).trans (hb.mono (unhide B6).size)
    have B7 := hide b7; clear b7 hb
    obtain ⟨e1, e2, e3, e4⟩ := E.out
    obtain ⟨_, _, _, _, m5, m6, _, _⟩ := mom_bd HFit.out
    rw [e1, e2, e3, e4]
    clear e1 e2 e3 e4 E
    obtain ⟨b, off, rfl, hbb, c0, c1, c2, c3, c4, c5, c6⟩ := ((unhide HL).after (unhide B7)).at HX.out
    generalize mLong sv xs = p1 at *
    generalize mCross sv xs = p2 at *
    generalize mUp sv xs = p3 at *
    generalize mWeight sv xs = p4 at *
    have i3 : (n : Int) ≤ (c : Int) := by omega
    go_wp2_with fail
    go_ret
    exact ⟨rfl, unhide B7⟩
end Go.Proofs.Ytcdjljcmhbipiaa
