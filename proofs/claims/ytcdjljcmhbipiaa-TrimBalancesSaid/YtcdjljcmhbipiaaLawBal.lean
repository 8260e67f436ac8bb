/- Walks: the law TrimBalances. -/
import Derived.Test.YtcdjljcmhbipiaaLoadsC
import Derived.Test.YtcdjljcmhbipiaaFitA
import Derived.Test.YtcdjljcmhbipiaaOpenTrim
import Derived.Test.YtcdjljcmhbipiaaSafeA
import Derived.BigRegion
namespace Go.Proofs.Ytcdjljcmhbipiaa
open Go.RowKit

theorem bal_row {w : World} {B e n : Nat} {v : Value} {xs : List Value} (h : w.ownsRow (B + 1) e 7 v n xs) (j : Nat) (hj : some j = v.ownBlock) : B < j := by
  rcases h.2 with ⟨rfl, _⟩ | ⟨g, cap, cur, rfl, hb, _⟩
  · simp [Value.ownBlock] at hj
  · simp [Value.ownBlock] at hj; omega
theorem bal_below {w wr w4 : World} {o1 o2 : Obj} {e n : Nat} {v : Value} {xs : List Value} (h : Below w.heap.size w wr) (ho : wr.ownsRow (w.heap.size + 1) e 7 v n xs) (hg : ((wr.alloc o1).alloc o2).drew.grownBy w4 v.ownBlock) : Below w.heap.size w w4 :=
  (((h.alloc h.size o1).alloc (by have := h.size; simp; omega) o2).drew).grown hg (by have := h.size; simp; omega) fun j hj => by have := bal_row ho j hj.symm; omega
theorem bal_whole {w wr w4 : World} {o1 o2 : Obj} {e n : Nat} {v : Value} {xs : List Value} {t : TypeId} {cs : Array Value} (h : Whole wr w.heap.size t cs) (ho : wr.ownsRow (w.heap.size + 1) e 7 v n xs) (hg : ((wr.alloc o1).alloc o2).drew.grownBy w4 v.ownBlock) : Whole w4 w.heap.size t cs :=
  (hg.block _ (by have := h.lt; simp; omega) (fun e => by have := bal_row ho _ e; omega)).trans ((h.alloc o1).alloc o2).drew

theorem mir_in {s : Shp} {q1 q2 : Int} (h1 : q1 = IntKind.i64.wrap (s.bays - 1)) (h2 : q2 = IntKind.i64.wrap (s.rows - 1)) (hs : shipOk s = true) {x : Ld} (hx : onOk s x = true) : mir q1 q2 x = { x with bay := s.bays - 1 - x.bay, row := s.rows - 1 - x.row } := by
  have hb := shipOk_bounds hs
  have hx := onOk_bounds hx
  rw [IntWalk.i64_in _ (by omega)] at h1 h2
  unfold mir
  rw [h1, h2, IntWalk.i64_in (s.bays - 1 - x.bay) (by omega), IntWalk.i64_in (s.rows - 1 - x.row) (by omega)]
theorem bal_sum {s : Shp} {q1 q2 : Int} (h1 : q1 = IntKind.i64.wrap (s.bays - 1)) (h2 : q2 = IntKind.i64.wrap (s.rows - 1)) (hs : shipOk s = true) : ∀ xs : List Ld, (∀ x ∈ xs, onOk s x = true) → longOf s xs + longOf s (xs.map (mir q1 q2)) = 0 ∧ crossOf s xs + crossOf s (xs.map (mir q1 q2)) = 0
  | [], _ => ⟨rfl, rfl⟩
  | x :: r, h => by
    obtain ⟨i1, i2⟩ := bal_sum h1 h2 hs r fun y hy => h y (by simp [hy])
    have e := mir_in h1 h2 hs (h x (by simp))
    simp only [longOf, crossOf, List.map_cons, List.sum_cons, List.map_map] at i1 i2 ⊢
    rw [e]
    have p1 : x.wt * (2 * x.bay - s.bays + 1) + x.wt * (2 * (s.bays - 1 - x.bay) - s.bays + 1) = 0 := by rw [← Int.mul_add]; have : 2 * x.bay - s.bays + 1 + (2 * (s.bays - 1 - x.bay) - s.bays + 1) = 0 := by omega
                                                                                                         rw [this, Int.mul_zero]
    have p2 : x.wt * (2 * x.row - s.rows + 1) + x.wt * (2 * (s.rows - 1 - x.row) - s.rows + 1) = 0 := by rw [← Int.mul_add]; have : 2 * x.row - s.rows + 1 + (2 * (s.rows - 1 - x.row) - s.rows + 1) = 0 := by omega
                                                                                                         rw [this, Int.mul_zero]
    simp only []
    constructor <;> omega
theorem bal_zero {s : Shp} {xs : List Ld} {q1 q2 : Int} (h1 : q1 = IntKind.i64.wrap (s.bays - 1)) (h2 : q2 = IntKind.i64.wrap (s.rows - 1)) (hf : fitB s (xs ++ xs.map (mir q1 q2)) = true) : longOf s (xs ++ xs.map (mir q1 q2)) = 0 ∧ crossOf s (xs ++ xs.map (mir q1 q2)) = 0 := by
  have hf' := (fitB_iff _ _).1 hf
  obtain ⟨i1, i2⟩ := bal_sum h1 h2 hf'.1 xs fun x hx => hf'.2.2.1 x (by simp [hx])
  unfold longOf crossOf at *
  rw [sum_app, sum_app]
  exact ⟨i1, i2⟩
theorem bal_law {s : Shp} {xs : List Ld} {q1 q2 : Int} (h1 : q1 = IntKind.i64.wrap (s.bays - 1)) (h2 : q2 = IntKind.i64.wrap (s.rows - 1)) (hf : fitB s (xs ++ xs.map (mir q1 q2)) = true) : mLong s (xs ++ xs.map (mir q1 q2)) = 0 ∧ mCross s (xs ++ xs.map (mir q1 q2)) = 0 := by
  obtain ⟨e1, e2, _, _⟩ := mom_fit hf
  rw [e1, e2]
  exact bal_zero h1 h2 hf
theorem weight_nonneg {s : Shp} : ∀ {ys : List Ld}, (∀ x ∈ ys, onOk s x = true) → 0 ≤ weightOf ys
  | [], _ => Int.le_refl _
  | y :: r, hon => by
    have h1 := onOk_bounds (hon y (by simp))
    have h2 := weight_nonneg (s := s) (ys := r) fun z hz => hon z (List.mem_cons_of_mem _ hz)
    unfold weightOf at h2 ⊢
    simp only [List.map_cons, List.sum_cons]; omega
theorem bal_safe {s : Shp} {xs : List Ld} {q1 q2 : Int} (h1 : q1 = IntKind.i64.wrap (s.bays - 1)) (h2 : q2 = IntKind.i64.wrap (s.rows - 1)) (hf : fitB s (xs ++ xs.map (mir q1 q2)) = true) :
    safeE s (xs ++ xs.map (mir q1 q2)) = if s.most < mWeight s (xs ++ xs.map (mir q1 q2)) then 7 else if mUp s (xs ++ xs.map (mir q1 q2)) ≤ s.up * mWeight s (xs ++ xs.map (mir q1 q2)) then 0 else 3 := by
  obtain ⟨z1, z2⟩ := bal_zero h1 h2 hf
  obtain ⟨_, _, e3, e4⟩ := mom_fit hf
  have hb := shipOk_bounds ((fitB_iff _ _).1 hf).1
  rw [e3, e4]
  unfold safeE
  rw [hf, z1, z2]
  generalize xs ++ xs.map (mir q1 q2) = ys at *
  have hw : 0 ≤ weightOf ys := weight_nonneg ((fitB_iff s ys).1 hf).2.2.1
  have p1 : 0 ≤ s.trim * weightOf ys := Int.mul_nonneg (by omega) hw
  have p2 : 0 ≤ s.list * weightOf ys := Int.mul_nonneg (by omega) hw
  have a0 : absI 0 = 0 := rfl
  rw [a0]
  simp only [if_true]
  repeat' split
  all_goals omega

set_option maxHeartbeats 4000000 in
theorem TrimBalances_any (s : Shp) (hs : s.Came) (A : Option Addr) (xs : List Ld) (c : Nat) (w : World) (hl : LoadsIn w w.heap.size A xs) (hc : xs.length ≤ c) (hc' : c ≤ maxLen) :
    Calls Try.prog 5 #[s.val, .slice A xs.length c] w fun e w' => e = .returned (.bool true) ∧ Below w.heap.size w w' := by
  have hnm := hs.name
  obtain ⟨nm, a1, a2, a3, a4, a5, a6, a7, a8⟩ := s
  obtain ⟨sv, hsv⟩ : ∃ sv : Shp, sv = ⟨nm, a1, a2, a3, a4, a5, a6, a7, a8⟩ := ⟨_, rfl⟩
  have hv : Shp.val ⟨nm, a1, a2, a3, a4, a5, a6, a7, a8⟩ = .agg #[.string nm, .int .i64 a1, .int .i64 a2, .int .i64 a3, .int .i64 a4, .int .i64 a5, .int .i64 a6, .int .i64 a7, .int .i64 a8] := rfl
  have hsn : sv.name = nm := by rw [hsv]
  have es : sv.bays = a1 ∧ sv.rows = a2 ∧ sv.up = a7 ∧ sv.most = a8 := by rw [hsv]; exact ⟨rfl, rfl, rfl, rfl⟩
  have ES := Lib.hid es; clear es
  have hv' : sv.val = .agg #[.string nm, .int .i64 a1, .int .i64 a2, .int .i64 a3, .int .i64 a4, .int .i64 a5, .int .i64 a6, .int .i64 a7, .int .i64 a8] := by rw [hsv]; exact hv
  have hnm' : nm.size ≤ maxLen := hnm
  have hM : ∀ A (ys : List Ld) c (m : Nat) W, ys.length = m → LoadsIn W W.heap.size A ys → Calls Try.prog 9 #[sv.val, .slice A m c] W
      fun e w' => e = .returned (.tuple #[.int .i64 (mLong sv ys), .int .i64 (mCross sv ys), .int .i64 (mUp sv ys), .int .i64 (mWeight sv ys)]) ∧ Below W.heap.size W w' :=
    fun A ys c m W hm hl => by subst hm; exact Moments_any sv A ys c W (by rw [hsn]; exact hnm') hl
  have hF2 : ∀ A (ys : List Ld) c (m : Nat) W, ys.length = m → LoadsIn W W.heap.size A ys → Calls Try.prog 8 #[sv.val, .slice A m c] W
      fun e w' => e = .returned (.bool (fitB sv ys)) ∧ Below W.heap.size W w' :=
    fun A ys c m W hm hl => by subst hm; exact Fit_any sv A ys c W (by rw [hsn]; exact hnm') hl
  have hS2 : ∀ A (ys : List Ld) c (m : Nat) W, ys.length = m → LoadsIn W W.heap.size A ys → Calls Try.prog 10 #[sv.val, .slice A m c] W
      fun e w' => e = .returned (.int .i64 (safeE sv ys)) ∧ Below W.heap.size W w' :=
    fun A ys c m W hm hl => by subst hm; exact Safe_any sv A ys c W (by rw [hsn]; exact hnm') hl
  rw [hv'] at hM hF2 hS2
  rw [hv]
  clear hv hv' hsv hnm hs hsn
  obtain ⟨n, hn⟩ : ∃ n, n = xs.length := ⟨_, rfl⟩
  rw [← hn] at hc ⊢
  have HN := Lib.hid hn; clear hn
  have HM := hide hM; clear hM
  have HF2 := hide hF2; clear hF2
  have HS2 := hide hS2; clear hS2
  have HL := hide hl; clear hl
  unfold maxLen at hc' hnm'
  have b0 := (Below.refl w.heap.size w).alloc (Nat.le_refl _) (.cells #[.string nm, .int .i64 a1, .int .i64 a2, .int .i64 a3, .int .i64 a4, .int .i64 a5, .int .i64 a6, .int .i64 a7, .int .i64 a8] 23)
  have HB := hide b0; clear b0
  go_enter Try.func5, Try.ntmps5
  go_wp2_with fail
  refine (awake_any _).mono ?_; rintro e w1 ⟨rfl, hb⟩
  have k1 := (Whole.made w 23 #[.string nm, .int .i64 a1, .int .i64 a2, .int .i64 a3, .int .i64 a4, .int .i64 a5, .int .i64 a6, .int .i64 a7, .int .i64 a8]).after hb
  have b1 := (unhide HB).trans (hb.mono (unhide HB).size)
  have hc1 := k1.cells
  have B1 := hide b1; clear b1 hb
  have K1 := hide k1; clear k1
  by_cases h1 : 20 < n
  · have h1' : decide ((20 : Int) < (n : Int)) = true := by simp; omega
    go_wp2_with fail
    go_ret
    exact ⟨rfl, unhide B1⟩
  have h1' : decide ((20 : Int) < (n : Int)) = false := by simp; omega
  by_cases h2 : 100 < nm.size
  · have h2' : decide ((100 : Int) < (nm.size : Int)) = true := by simp; omega
    go_wp2_with fail
    go_ret
    exact ⟨rfl, unhide B1⟩
  have h2' : decide ((100 : Int) < (nm.size : Int)) = false := by simp; omega
  have own0 : (w1.alloc (.cells #[] 33)).ownsRow (w.heap.size + 1) 33 7 (.slice (some ⟨w1.heap.size, 0, none⟩) 0 0) 0 [] := World.ownsRow_lit (base := w.heap.size + 1) (e := 33) (size := 7) w1 #[] 0 (unhide K1).lt (by unfold maxLen; omega) (by simp)
  have src1 : Src (w1.alloc (.cells #[] 33)) 7 A n (xs.flatMap Ld.cells) := by
    have := ((unhide HL).after ((unhide B1).alloc (unhide B1).size (.cells #[] 33))).src
    rw [← HN.out] at this; exact this
  have one1 : ∀ u ∈ xs.flatMap Ld.cells, u.oneCell' = true := one_flat _
  have own0' := hide own0; clear own0
  have src1' := hide src1; clear src1
  obtain ⟨i0', hi, hz0, hz1, hz2⟩ := info_parts info_load
  go_wp2_with (at_builtin; go_must (refine wpList_append_src _ rfl (.tmp 24) (.tmp 25) 24 rfl (w.heap.size + 1) 33 i0' _ 7 64 Try.underlying24 hi hz0 hz1 hz2 rfl (by omega) rfl (unhide own0') rfl (unhide src1') one1 (by unfold maxLen; omega) (by omega) (by have := (unhide K1).lt; simp; omega) ?_; intro v3 w3 own1 hg1 hat1; simp only [Nat.zero_add, List.nil_append] at own1; have k3 := whole_past (unhide K1) hg1; have K3 := hide k3; have b3 := below_past (unhide B1) (unhide B1).size hg1; have B3 := hide b3; have O1 := hide own1; clear own1 hg1 hat1 b3 k3))
  have hb3 := (unhide K3).lt
  obtain ⟨q1, hq1⟩ : ∃ q, IntKind.i64.wrap (a1 - 1) = q := ⟨_, rfl⟩
  obtain ⟨q2, hq2⟩ : ∃ q, IntKind.i64.wrap (a2 - 1) = q := ⟨_, rfl⟩
  go_loopw [5, 6] (fun v i wr => ∃ k : Nat, k ≤ n ∧ i = .int .i64 k ∧ Below w.heap.size w wr ∧ Whole wr w.heap.size 23 #[.string nm, .int .i64 a1, .int .i64 a2, .int .i64 a3, .int .i64 a4, .int .i64 a5, .int .i64 a6, .int .i64 a7, .int .i64 a8] ∧
      wr.ownsRow (w.heap.size + 1) 33 7 v (n + k) ((xs ++ (xs.take k).map (mir q1 q2)).flatMap Ld.cells)) (fun _ i _ => n - (intOf i).toNat)
  case atStart => exact ⟨0, by omega, rfl, unhide B3, unhide K3, by simpa using unhide O1⟩
  case round =>
    obtain ⟨k, hk, rfl, hbw, hkw, how⟩ := hrel
    by_cases hlt : k < n
    · obtain ⟨x, hx⟩ : ∃ x, xs[k]? = some x := ⟨xs[k]'(by rw [← HN.out]; exact hlt), List.getElem?_eq_getElem _⟩
      obtain ⟨b, off, rfl, hbb, c0, c1, c2, c3, c4, c5, c6⟩ := ((unhide HL).below hbw).at hx
      have HX := Lib.hid hx; clear hx
      obtain ⟨y1, hy1⟩ : ∃ y, IntKind.i64.wrap (q1 - x.bay) = y := ⟨_, rfl⟩
      obtain ⟨y2, hy2⟩ : ∃ y, IntKind.i64.wrap (q2 - x.row) = y := ⟨_, rfl⟩
      have hsz := hkw.lt
      have hsc := hkw.cells
      have i3 : (n : Int) ≤ (c : Int) := by omega
      have HBW := hide hbw; clear hbw
      have HKW := hide hkw; clear hkw
      have HOW := hide how; clear how
      go_wp2_with fail
      go_region
      obtain ⟨x', hx'⟩ : ∃ x', x' = mir q1 q2 x := ⟨_, rfl⟩
      have hcx : x'.cells = [.int .i64 y1, .int .i64 y2, .int .i64 x.tier, .string x.box, .int .i64 x.wt, .int .i64 x.cls, .int .i64 x.port] := by rw [hx', ← hy1, ← hy2]; rfl
      have src2 := src_one (wr.alloc (.cells x'.cells.toArray 33)) x' 33 (wr.heap.size + 1) (by simp)
      have one2 := one_cells x'
      have hnext := (congrArg (fun l => xs ++ l) (congrArg (List.map (mir q1 q2)) (take_at xs k x HX.out)))
      rw [List.map_append, List.map_cons, List.map_nil, ← List.append_assoc, ← hx'] at hnext
      rw [hcx] at src2 one2
      have HNX := Lib.hid (And.intro hcx hnext); clear hcx hnext hx'
      have SRC2 := hide src2; clear src2
      go_wp2_with (at_builtin; go_must (refine wpList_append_src _ rfl (.tmp 55) (.tmp 57) 24 rfl (w.heap.size + 1) 33 i0' _ 7 64 Try.underlying24 hi hz0 hz1 hz2 rfl (by omega) rfl ((((unhide HOW).alloc _).alloc _).drew) rfl (unhide SRC2) one2 (by unfold maxLen; omega) (by omega) (by simp; omega) ?_; intro v4 w4 own4 hg4 hat4; have b4 := bal_below (unhide HBW) (unhide HOW) hg4; have k4 := bal_whole (unhide HKW) (unhide HOW) hg4; have B4 := hide b4; have K4 := hide k4; have O4 := hide own4; clear own4 hg4 hat4 b4 k4))
      go_roundw
      case rel =>
        refine ⟨k + 1, by omega, by go_num, unhide B4, unhide K4, ?_⟩
        have o4 := unhide O4
        rw [HNX.out.2, ← flat_snoc, HNX.out.1]
        exact o4
      case measure => simp [intOf]; omega
    · have hkn : xs.take k = xs := by rw [List.take_of_length_le (by rw [← HN.out]; omega)]
      rw [hkn] at how
      have hk2 : n + k = n + n := by omega
      rw [hk2] at how
      clear hkn hk2
      obtain ⟨A7, c7, hv7, hl7⟩ := loads_of_own how
      rw [hv7]
      clear hv7 how
      have hn7 : (xs ++ xs.map (mir q1 q2)).length = n + n := by rw [List.length_append, List.length_map, HN.out]
      have hlaw := fun hf => bal_law (s := sv) (xs := xs) (q1 := q1) (q2 := q2) (by rw [ES.out.1]; exact hq1.symm) (by rw [ES.out.2.1]; exact hq2.symm) hf
      have hsaf := fun hf => bal_safe (s := sv) (xs := xs) (q1 := q1) (q2 := q2) (by rw [ES.out.1]; exact hq1.symm) (by rw [ES.out.2.1]; exact hq2.symm) hf
      rw [ES.out.2.2.1, ES.out.2.2.2] at hsaf
      have hbds := fun hf => And.intro (shipOk_bounds ((fitB_iff sv (xs ++ xs.map (mir q1 q2))).1 hf).1) (mom_bd hf)
      rw [ES.out.2.2.1, ES.out.2.2.2] at hbds
      have hcw := hkw.cells
      have HLAW := hide hlaw; clear hlaw
      have HSAF := hide hsaf; clear hsaf
      have HBDS := hide hbds; clear hbds
      have HN7 := Lib.hid hn7; clear hn7
      have HL7 := hide hl7; clear hl7
      have HBW := hide hbw; clear hbw
      have HKW := hide hkw; clear hkw
      generalize xs ++ xs.map (mir q1 q2) = ys at *
      go_wp2_with fail
      (with_reducible refine (unhide HF2 _ _ _ _ _ HN7.out (unhide HL7)).mono ?_); rintro e w5 ⟨rfl, hb⟩
      have k5 := (unhide HKW).after hb
      have b5 := (unhide HBW).trans (hb.mono (unhide HBW).size)
      have hl5 := (unhide HL7).after hb
      have hc5 := k5.cells
      have B5 := hide b5; clear b5 hb
      have K5 := hide k5; clear k5
      have HL5 := hide hl5; clear hl5 hcw
      cases hfo : fitB sv ys
      · clear hfo
        go_wp2_with fail
        go_ret
        exact ⟨rfl, unhide B5⟩
      obtain ⟨e1, e2⟩ := (unhide HLAW) hfo
      have e3 := (unhide HSAF) hfo
      obtain ⟨⟨_, _, _, _, _, _, _, _, _, _, _, _, t7, t7', t8, t8'⟩, _, _, _, _, u1, u2, g1, g2⟩ := (unhide HBDS) hfo
      clear hfo
      have E := Lib.hid (And.intro e1 e2); clear e1 e2
      have E3 := Lib.hid e3; clear e3
      go_wp2_with fail
      (with_reducible refine (unhide HM _ _ _ _ _ HN7.out (unhide HL5)).mono ?_); rintro e w6 ⟨rfl, hb⟩
      have k6 := (unhide K5).after hb
      have b6 := (unhide B5).trans (hb.mono (unhide B5).size)
      have hl6 := (unhide HL5).after hb
      have hc6 := k6.cells
      have B6 := hide b6; clear b6 hb
      have K6 := hide k6; clear k6 hc5
      have HL6 := hide hl6; clear hl6
      rw [E.out.1, E.out.2]
      clear E
      generalize mUp sv ys = up at *
      generalize mWeight sv ys = we at *
      go_wp2_with fail
      (with_reducible refine (unhide HS2 _ _ _ _ _ HN7.out (unhide HL6)).mono ?_); rintro e w7 ⟨rfl, hb⟩
      have k7 := (unhide K6).after hb
      have b7 := (unhide B6).trans (hb.mono (unhide B6).size)
      have hc7 := k7.cells
      have B7 := hide b7; clear b7 hb k7 hc6
      obtain ⟨m1, m2⟩ := prod_bd2 a7 we t7 t7' g1 g2
      have m3 : IntKind.i64.wrap (a7 * we) = a7 * we := IntWalk.i64_in _ (by omega)
      have e3 := E3.out
      clear E3
      rw [e3]
      clear e3
      by_cases hm : a8 < we
      · rw [if_pos hm]
        go_wp2_with fail
        go_ret
        exact ⟨rfl, unhide B7⟩
      · rw [if_neg hm]
        by_cases hu : up ≤ a7 * we
        · rw [if_pos hu]
          go_wp2_with fail
          go_ret
          exact ⟨ret_bool (by simp [hu]), unhide B7⟩
        · rw [if_neg hu]
          go_wp2_with fail
          go_ret
          exact ⟨ret_bool (by simp [hu]), unhide B7⟩
end Go.Proofs.Ytcdjljcmhbipiaa
