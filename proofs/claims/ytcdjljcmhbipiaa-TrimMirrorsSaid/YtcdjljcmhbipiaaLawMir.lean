/- Walks: the law TrimMirrors. -/
import Derived.Test.YtcdjljcmhbipiaaLoadsC
import Derived.Test.YtcdjljcmhbipiaaFitA
import Derived.Test.YtcdjljcmhbipiaaOpenTrim
import Derived.Test.YtcdjljcmhbipiaaWorstA
import Derived.Deep.RegionHeld3
namespace Go.Proofs.Ytcdjljcmhbipiaa
open Go.RowKit

theorem LoadsIn.drew {w : World} {A : Option Addr} {xs : List Ld} (h : LoadsIn w w.heap.size A xs) : LoadsIn w.drew w.drew.heap.size A xs := h

def mirA (acr : Bool) (a1 a2 : Int) (x : Ld) : Ld := if acr then { x with row := a2 - 1 - x.row } else { x with bay := a1 - 1 - x.bay }

theorem mirA_cf (a1 a2 : Int) (x : Ld) : (mirA false a1 a2 x).cells = [.int .i64 (a1 - 1 - x.bay), .int .i64 x.row, .int .i64 x.tier, .string x.box, .int .i64 x.wt, .int .i64 x.cls, .int .i64 x.port] := rfl
theorem mirA_ct (a1 a2 : Int) (x : Ld) : (mirA true a1 a2 x).cells = [.int .i64 x.bay, .int .i64 (a2 - 1 - x.row), .int .i64 x.tier, .string x.box, .int .i64 x.wt, .int .i64 x.cls, .int .i64 x.port] := rfl
theorem bal_row' {w : World} {B e n : Nat} {v : Value} {xs : List Value} (h : w.ownsRow (B + 1) e 7 v n xs) (j : Nat) (hj : some j = v.ownBlock) : B < j := by
  rcases h.2 with ⟨rfl, _⟩ | ⟨g, cap, cur, rfl, hb, _⟩
  · simp [Value.ownBlock] at hj
  · simp [Value.ownBlock] at hj; omega
theorem mir_below {w wr w4 : World} {o1 o2 : Obj} {e n : Nat} {v : Value} {xs : List Value} (h : Below w.heap.size w wr) (ho : wr.ownsRow (w.heap.size + 1) e 7 v n xs) (hg : ((wr.alloc o1).alloc o2).grownBy w4 v.ownBlock) : Below w.heap.size w w4 :=
  (((h.alloc h.size o1).alloc (by have := h.size; simp; omega) o2)).grown hg (by have := h.size; simp; omega) fun j hj => by have := bal_row' ho j hj.symm; omega
theorem mir_whole {w wr w4 : World} {o1 o2 : Obj} {e n : Nat} {v : Value} {xs : List Value} {t : TypeId} {cs : Array Value} (h : Whole wr w.heap.size t cs) (ho : wr.ownsRow (w.heap.size + 1) e 7 v n xs) (hg : ((wr.alloc o1).alloc o2).grownBy w4 v.ownBlock) : Whole w4 w.heap.size t cs :=
  (hg.block _ (by have := h.lt; simp; omega) (fun e => by have := bal_row' ho _ e; omega)).trans ((h.alloc o1).alloc o2)

theorem absI_neg (n : Int) : absI (-n) = absI n := by unfold absI; split <;> split <;> omega
theorem mirA_on {s : Shp} (acr : Bool) {x : Ld} (h : onOk s x = true) : onOk s (mirA acr s.bays s.rows x) = true := by
  have hb := onOk_bounds h
  unfold onOk inB mirA
  cases acr
  all_goals simp only [Bool.false_eq_true, if_false, if_true, Bool.and_eq_true, decide_eq_true_eq]; omega
theorem mirA_same (s : Shp) (acr : Bool) (x y : Ld) : sameSlot (mirA acr s.bays s.rows x) (mirA acr s.bays s.rows y) = sameSlot x y := by
  unfold sameSlot mirA
  cases acr
  all_goals simp only [Bool.false_eq_true, if_false, if_true]; rw [Bool.eq_iff_iff]; simp only [Bool.and_eq_true, decide_eq_true_eq]; omega
theorem mirA_fit {s : Shp} (acr : Bool) {xs : List Ld} (h : fitB s xs = true) : fitB s (xs.map (mirA acr s.bays s.rows)) = true := by
  rw [fitB_iff] at h ⊢
  refine ⟨h.1, by rw [List.length_map]; exact h.2.1, fun x hx => ?_, ?_⟩
  · obtain ⟨y, hy, rfl⟩ := List.mem_map.1 hx
    exact mirA_on acr (h.2.2.1 y hy)
  · rw [List.pairwise_map]
    exact h.2.2.2.imp fun {a b} hab => by rw [mirA_same]; exact hab
theorem mirA_sums (s : Shp) (acr : Bool) : ∀ xs : List Ld, longOf s (xs.map (mirA acr s.bays s.rows)) = (if acr then longOf s xs else -longOf s xs) ∧ crossOf s (xs.map (mirA acr s.bays s.rows)) = (if acr then -crossOf s xs else crossOf s xs) ∧
    upOf (xs.map (mirA acr s.bays s.rows)) = upOf xs ∧ weightOf (xs.map (mirA acr s.bays s.rows)) = weightOf xs
  | [] => by cases acr <;> exact ⟨rfl, rfl, rfl, rfl⟩
  | x :: r => by
    obtain ⟨i1, i2, i3, i4⟩ := mirA_sums s acr r
    unfold longOf crossOf upOf weightOf at *
    simp only [List.map_cons, List.sum_cons]
    rw [i1, i2, i3, i4]
    have p : ∀ w m b : Int, w * (2 * (m - 1 - b) - m + 1) = -(w * (2 * b - m + 1)) := fun w m b => by
      rw [← Int.mul_neg]; congr 1; omega
    cases acr
    · simp only [Bool.false_eq_true, if_false, mirA]
      rw [p]
      refine ⟨?_, ?_, ?_, ?_⟩ <;> first | trivial | omega
    · simp only [if_true, mirA]
      rw [p]
      refine ⟨?_, ?_, ?_, ?_⟩ <;> first | trivial | omega
theorem mir_law {s : Shp} {xs : List Ld} (acr : Bool) (h : fitB s xs = true) :
    mLong s (xs.map (mirA acr s.bays s.rows)) = (if acr then mLong s xs else -mLong s xs) ∧ mCross s (xs.map (mirA acr s.bays s.rows)) = (if acr then -mCross s xs else mCross s xs) ∧ mUp s (xs.map (mirA acr s.bays s.rows)) = mUp s xs ∧ mWeight s (xs.map (mirA acr s.bays s.rows)) = mWeight s xs ∧
    worstN s (xs.map (mirA acr s.bays s.rows)) = worstN s xs ∧ worstV s (xs.map (mirA acr s.bays s.rows)) = worstV s xs ∧ safeE s (xs.map (mirA acr s.bays s.rows)) = safeE s xs := by
  have h' := mirA_fit acr h
  obtain ⟨a1, a2, a3, a4⟩ := mom_fit h
  obtain ⟨b1, b2, b3, b4⟩ := mom_fit h'
  obtain ⟨i1, i2, i3, i4⟩ := mirA_sums s acr xs
  rw [a1, a2, a3, a4, b1, b2, b3, b4, i1, i2, i3, i4]
  unfold worstN worstV safeE
  rw [h, h', i1, i2, i3, i4]
  cases acr <;> simp [absI_neg]

set_option maxRecDepth 100000 in
set_option maxHeartbeats 4000000 in
theorem TrimMirrors_any (s : Shp) (hs : s.Came) (A : Option Addr) (xs : List Ld) (c : Nat) (acr : Bool) (w : World) (hl : LoadsIn w w.heap.size A xs) (hc : xs.length ≤ c) (hc' : c ≤ maxLen) :
    Calls Try.prog 6 #[s.val, .slice A xs.length c, .bool acr] w fun e w' => e = .returned (.bool true) ∧ Below w.heap.size w w' := by
  have hnm := hs.name
  obtain ⟨nm, a1, a2, a3, a4, a5, a6, a7, a8⟩ := s
  obtain ⟨sv, hsv⟩ : ∃ sv : Shp, sv = ⟨nm, a1, a2, a3, a4, a5, a6, a7, a8⟩ := ⟨_, rfl⟩
  have hv : Shp.val ⟨nm, a1, a2, a3, a4, a5, a6, a7, a8⟩ = .agg #[.string nm, .int .i64 a1, .int .i64 a2, .int .i64 a3, .int .i64 a4, .int .i64 a5, .int .i64 a6, .int .i64 a7, .int .i64 a8] := rfl
  have hsn : sv.name = nm := by rw [hsv]
  have es : sv.bays = a1 ∧ sv.rows = a2 := by rw [hsv]; exact ⟨rfl, rfl⟩
  have ES := Lib.hid es; clear es
  have hv' : sv.val = .agg #[.string nm, .int .i64 a1, .int .i64 a2, .int .i64 a3, .int .i64 a4, .int .i64 a5, .int .i64 a6, .int .i64 a7, .int .i64 a8] := by rw [hsv]; exact hv
  have hnm' : nm.size ≤ maxLen := hnm
  have hM : ∀ A (ys : List Ld) c (m : Nat) W, ys.length = m → LoadsIn W W.heap.size A ys → Calls Try.prog 9 #[sv.val, .slice A m c] W
      fun e w' => e = .returned (.tuple #[.int .i64 (mLong sv ys), .int .i64 (mCross sv ys), .int .i64 (mUp sv ys), .int .i64 (mWeight sv ys)]) ∧ Below W.heap.size W w' :=
    fun A ys c m W hm hl => by subst hm; exact Moments_any sv A ys c W (by rw [hsn]; exact hnm') hl
  have hF := fun c W hl => Fit_any sv A xs c W (by rw [hsn]; exact hnm') hl
  have hW2 : ∀ A (ys : List Ld) c (m : Nat) W, ys.length = m → LoadsIn W W.heap.size A ys → Calls Try.prog 11 #[sv.val, .slice A m c] W
      fun e w' => e = .returned (.tuple #[.string (worstN sv ys), .int .i64 (worstV sv ys)]) ∧ Below W.heap.size W w' :=
    fun A ys c m W hm hl => by subst hm; exact Worst_any sv A ys c W (by rw [hsn]; exact hnm') hl
  have hF2 : ∀ A (ys : List Ld) c (m : Nat) W, ys.length = m → LoadsIn W W.heap.size A ys → Calls Try.prog 8 #[sv.val, .slice A m c] W
      fun e w' => e = .returned (.bool (fitB sv ys)) ∧ Below W.heap.size W w' :=
    fun A ys c m W hm hl => by subst hm; exact Fit_any sv A ys c W (by rw [hsn]; exact hnm') hl
  have hS2 : ∀ A (ys : List Ld) c (m : Nat) W, ys.length = m → LoadsIn W W.heap.size A ys → Calls Try.prog 10 #[sv.val, .slice A m c] W
      fun e w' => e = .returned (.int .i64 (safeE sv ys)) ∧ Below W.heap.size W w' :=
    fun A ys c m W hm hl => by subst hm; exact Safe_any sv A ys c W (by rw [hsn]; exact hnm') hl
  rw [hv'] at hM hF hF2 hS2 hW2
  rw [hv]
  clear hv hv' hsv hnm hs hsn
  obtain ⟨n, hn⟩ : ∃ n, n = xs.length := ⟨_, rfl⟩
  rw [← hn] at hc hF ⊢
  have HN := Lib.hid hn; clear hn
  have HM := hide hM; clear hM
  have HF := hide hF; clear hF
  have HF2 := hide hF2; clear hF2
  have HS2 := hide hS2; clear hS2
  have HW2 := hide hW2; clear hW2
  have HL := hide hl; clear hl
  unfold maxLen at hc' hnm'
  have b0 := (Below.refl w.heap.size w).alloc (Nat.le_refl _) (.cells #[.string nm, .int .i64 a1, .int .i64 a2, .int .i64 a3, .int .i64 a4, .int .i64 a5, .int .i64 a6, .int .i64 a7, .int .i64 a8] 23)
  have HB := hide b0; clear b0
  go_enter Try.func6, Try.ntmps6
  go_wp2_with fail
  refine (awake_any _).mono ?_; rintro e w1 ⟨rfl, hb⟩
  have k1 := (Whole.made w 23 #[.string nm, .int .i64 a1, .int .i64 a2, .int .i64 a3, .int .i64 a4, .int .i64 a5, .int .i64 a6, .int .i64 a7, .int .i64 a8]).after hb
  have b1 := (unhide HB).trans (hb.mono (unhide HB).size)
  have hc1 := k1.cells
  have B1 := hide b1; clear b1 hb
  have K1 := hide k1; clear k1
  by_cases h1 : 60 < n
  · have h1' : decide ((60 : Int) < (n : Int)) = true := by simp; omega
    go_wp2_with fail
    go_ret
    exact ⟨rfl, unhide B1⟩
  have h1' : decide ((60 : Int) < (n : Int)) = false := by simp; omega
  by_cases h2 : 100 < nm.size
  · have h2' : decide ((100 : Int) < (nm.size : Int)) = true := by simp; omega
    go_wp2_with fail
    go_ret
    exact ⟨rfl, unhide B1⟩
  have h2' : decide ((100 : Int) < (nm.size : Int)) = false := by simp; omega
  go_wp2_with fail
  (with_reducible refine (unhide HF _ _ ((unhide HL).after (unhide B1))).mono ?_); rintro e w2 ⟨rfl, hb⟩
  have k2 := (unhide K1).after hb
  have b2 := (unhide B1).trans (hb.mono (unhide B1).size)
  have hc2 := k2.cells
  have B2 := hide b2; clear b2 hb hc1
  have K2 := hide k2; clear k2
  cases hfit : fitB sv xs
  · go_wp2_with fail
    go_ret
    exact ⟨rfl, unhide B2⟩
  have HFit := Lib.hid hfit; clear hfit
  have hbd := shipOk_bounds ((fitB_iff sv xs).1 HFit.out).1
  rw [ES.out.1, ES.out.2] at hbd
  obtain ⟨z1, z2, z3, z4, _⟩ := hbd
  have own0 : (w2.alloc (.cells #[] 33)).ownsRow (w.heap.size + 1) 33 7 (.slice (some ⟨w2.heap.size, 0, none⟩) 0 0) 0 [] := World.ownsRow_lit (base := w.heap.size + 1) (e := 33) (size := 7) w2 #[] 0 (unhide K2).lt (by unfold maxLen; omega) (by simp)
  have own0' := hide own0; clear own0
  obtain ⟨i0', hi, hz0, hz1, hz2⟩ := info_parts info_load
  go_wp2_with fail
  go_loopw [7, 8] (fun v i wr => ∃ k : Nat, k ≤ n ∧ i = .int .i64 k ∧ Below w.heap.size w wr ∧ Whole wr w.heap.size 23 #[.string nm, .int .i64 a1, .int .i64 a2, .int .i64 a3, .int .i64 a4, .int .i64 a5, .int .i64 a6, .int .i64 a7, .int .i64 a8] ∧
      wr.ownsRow (w.heap.size + 1) 33 7 v k (((xs.take k).map (mirA acr a1 a2)).flatMap Ld.cells)) (fun _ i _ => n - (intOf i).toNat)
  case atStart => exact ⟨0, by omega, rfl, (unhide B2).alloc (unhide B2).size _, (unhide K2).alloc _, by simpa using unhide own0'⟩
  case round =>
    obtain ⟨k, hk, rfl, hbw, hkw, how⟩ := hrel
    by_cases hlt : k < n
    · obtain ⟨x, hx⟩ : ∃ x, xs[k]? = some x := ⟨xs[k]'(by rw [← HN.out]; exact hlt), List.getElem?_eq_getElem _⟩
      obtain ⟨b, off, rfl, hbb, c0, c1, c2, c3, c4, c5, c6⟩ := ((unhide HL).below hbw).at hx
      have hxb := onOk_bounds ((fitB_iff sv xs).1 HFit.out |>.2.2.1 x (List.mem_of_getElem? hx))
      rw [ES.out.1, ES.out.2] at hxb
      obtain ⟨y1, y2, y3, y4, _⟩ := hxb
      have HX := Lib.hid hx; clear hx
      have hsz := hkw.lt
      have hsc := hkw.cells
      have i3 : (n : Int) ≤ (c : Int) := by omega
      have HBW := hide hbw; clear hbw
      have HKW := hide hkw; clear hkw
      have HOW := hide how; clear how hc2
      obtain ⟨x', hx'⟩ : ∃ x', x' = mirA acr a1 a2 x := ⟨_, rfl⟩
      have hnext := congrArg (List.map (mirA acr a1 a2)) (take_at xs k x HX.out)
      rw [List.map_append, List.map_cons, List.map_nil, ← hx'] at hnext
      cases acr
      all_goals
        have hcx := congrArg Ld.cells hx'
        first | rw [mirA_cf] at hcx | rw [mirA_ct] at hcx
        have src2 := src_one (wr.alloc (.cells x'.cells.toArray 33)) x' 33 (wr.heap.size + 1) (by simp)
        have one2 := one_cells x'
        rw [hcx] at src2 one2
        have HNX := Lib.hid (And.intro hcx hnext); clear hcx hnext hx'
        have SRC2 := hide src2; clear src2
        go_wp2_with (at_builtin; go_must (refine wpList_append_src _ rfl (.tmp 69) (.tmp 71) 24 rfl (w.heap.size + 1) 33 i0' _ 7 64 Try.underlying24 hi hz0 hz1 hz2 rfl (by omega) rfl (((unhide HOW).alloc _).alloc _) rfl (unhide SRC2) one2 (by unfold maxLen; omega) (by omega) (by simp; omega) ?_; intro v4 w4 own4 hg4 hat4; have b4 := mir_below (unhide HBW) (unhide HOW) hg4; have k4 := mir_whole (unhide HKW) (unhide HOW) hg4; have B4 := hide b4; have K4 := hide k4; have O4 := hide own4; clear own4 hg4 hat4 b4 k4))
        go_roundw
        case rel =>
          refine ⟨k + 1, by omega, by go_num, unhide B4, unhide K4, ?_⟩
          have o4 := unhide O4
          rw [HNX.out.2, ← flat_snoc, HNX.out.1]
          exact o4
        case measure => simp [intOf]; omega
    · obtain rfl : k = n := by omega
      have hkn : xs.take k = xs := by rw [List.take_of_length_le (by rw [← HN.out]; omega)]
      rw [hkn] at how
      clear hkn hc2
      obtain ⟨A7, c7, hv7, hl7⟩ := loads_of_own how
      rw [hv7]
      clear hv7 how
      have hn7 : (xs.map (mirA acr a1 a2)).length = k := by rw [List.length_map, HN.out]
      have hlaw := mir_law (s := sv) (xs := xs) acr HFit.out
      rw [ES.out.1, ES.out.2] at hlaw
      have hmb := mom_bd HFit.out
      have HLAW := Lib.hid hlaw; clear hlaw
      have HMB := Lib.hid hmb; clear hmb
      have hcw := hkw.cells
      have HN7 := Lib.hid hn7; clear hn7
      have HL7 := hide hl7; clear hl7
      have HBW := hide hbw; clear hbw
      have HKW := hide hkw; clear hkw
      generalize xs.map (mirA acr a1 a2) = ys at *
      go_wp2_with fail
      (with_reducible refine (unhide HM _ xs _ _ _ HN.out.symm ((unhide HL).after (unhide HBW))).mono ?_); rintro e w5 ⟨rfl, hb⟩
      have k5 := (unhide HKW).after hb
      have b5 := (unhide HBW).trans (hb.mono (unhide HBW).size)
      have hl5 := (unhide HL7).after hb
      have hc5 := k5.cells
      have B5 := hide b5; clear b5 hb
      have K5 := hide k5; clear k5
      have HL5 := hide hl5; clear hl5 hcw
      go_wp2_with fail
      (with_reducible refine (unhide HM _ ys _ _ _ HN7.out (unhide HL5)).mono ?_); rintro e w6 ⟨rfl, hb⟩
      have k6 := (unhide K5).after hb
      have b6 := (unhide B5).trans (hb.mono (unhide B5).size)
      have hl6 := (unhide HL5).after hb
      have hc6 := k6.cells
      have B6 := hide b6; clear b6 hb
      have K6 := hide k6; clear k6 hc5
      have HL6 := hide hl6; clear hl6
      go_wp2_with fail
      (with_reducible refine (unhide HW2 _ xs _ _ _ HN.out.symm ((unhide HL).after (unhide B6))).mono ?_); rintro e w7 ⟨rfl, hb⟩
      have k7 := (unhide K6).after hb
      have b7 := (unhide B6).trans (hb.mono (unhide B6).size)
      have hl7 := (unhide HL6).after hb
      have hc7 := k7.cells
      have B7 := hide b7; clear b7 hb
      have K7 := hide k7; clear k7 hc6
      have HL7 := hide hl7; clear hl7
      go_wp2_with fail
      (with_reducible refine (unhide HW2 _ ys _ _ _ HN7.out (unhide HL7)).mono ?_); rintro e w8 ⟨rfl, hb⟩
      have k8 := (unhide K7).after hb
      have b8 := (unhide B7).trans (hb.mono (unhide B7).size)
      have hl8 := (unhide HL7).after hb
      have hc8 := k8.cells
      have B8 := hide b8; clear b8 hb
      have K8 := hide k8; clear k8 hc7
      have HL8 := hide hl8; clear hl8
      obtain ⟨m1, m2, m3, m4, m5, m6, m7, m8⟩ := HMB.out
      clear HMB
      cases acr
      all_goals
        obtain ⟨e1, e2, e3, e4, e5, e6, e7⟩ := HLAW.out
        simp only [Bool.false_eq_true, if_false, if_true] at e1 e2
        rw [e1, e2, e3, e4, e5, e6]
        have E7 := Lib.hid e7
        clear e1 e2 e3 e4 e5 e6 e7 HLAW
        generalize mLong sv xs = ml at *
        generalize mCross sv xs = mc at *
        generalize mUp sv xs = mu at *
        generalize mWeight sv xs = mw at *
        generalize worstN sv xs = wn at *
        generalize worstV sv xs = wv at *
        go_wp2_with fail
        go_region_held3 (fun w' => w'.cell? ⟨w.heap.size, 0, none⟩ = some (.string nm) ∧ w'.cell? ⟨w.heap.size, 1, none⟩ = some (.int .i64 a1) ∧ w'.cell? ⟨w.heap.size, 2, none⟩ = some (.int .i64 a2) ∧ w'.cell? ⟨w.heap.size, 3, none⟩ = some (.int .i64 a3) ∧ w'.cell? ⟨w.heap.size, 4, none⟩ = some (.int .i64 a4) ∧ w'.cell? ⟨w.heap.size, 5, none⟩ = some (.int .i64 a5) ∧ w'.cell? ⟨w.heap.size, 6, none⟩ = some (.int .i64 a6) ∧ w'.cell? ⟨w.heap.size, 7, none⟩ = some (.int .i64 a7) ∧ w'.cell? ⟨w.heap.size, 8, none⟩ = some (.int .i64 a8))
          (go_keep)
          ((first
            | (go_at_call 10; with_reducible refine (unhide HS2 A xs _ _ _ HN.out.symm ((unhide HL).after (unhide B8).drew)).mono ?_; rintro e w9 ⟨rfl, hb⟩; have hc9 := ((unhide K8).drew.after hb).cells; have HB9 := hide hb; clear hb)
            | (go_at_call 10; with_reducible refine (unhide HS2 A7 ys _ _ _ HN7.out ((unhide HL8).drew.after (unhide HB9))).mono ?_; rintro e w10 ⟨rfl, hb⟩; have hc10 := (((unhide K8).drew.after (unhide HB9)).after hb).cells; have HB10 := hide hb; clear hb)))
        go_wp2_with fail
        go_ret
        have b9 := (unhide B8).drew.trans ((unhide HB9).mono (unhide B8).size)
        exact ⟨ret_bool (by rw [E7.out]; simp), b9.trans ((unhide HB10).mono b9.size)⟩
end Go.Proofs.Ytcdjljcmhbipiaa
