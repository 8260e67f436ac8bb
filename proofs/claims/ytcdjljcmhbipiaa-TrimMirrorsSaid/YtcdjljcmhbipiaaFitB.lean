/- Walks: the program's 'fit'. -/
import Derived.Test.YtcdjljcmhbipiaaTrimP
import Derived.Test.YtcdjljcmhbipiaaSlotA
namespace Go.Proofs.Ytcdjljcmhbipiaa
open Go.RowKit Go.Maps

theorem belowB_inB (n m : Int) : belowB n m = inB n 0 (m - 1) := by unfold belowB inB; rw [Bool.eq_iff_iff]; simp; omega

set_option maxHeartbeats 1000000 in
theorem on_any (nm : ByteArray) (a1 a2 a3 a4 a5 a6 a7 a8 b r t : Int) (w : World) :
    Calls Try.prog 19 #[.agg #[.string nm, .int .i64 a1, .int .i64 a2, .int .i64 a3, .int .i64 a4, .int .i64 a5, .int .i64 a6, .int .i64 a7, .int .i64 a8], .agg #[.int .i64 b, .int .i64 r, .int .i64 t]] w
      fun e w' => e = .returned (.bool (inB b 0 (a1 - 1) && inB r 0 (a2 - 1) && inB t 0 (a3 - 1))) ∧ Below w.heap.size w w' := by
  simp only [← belowB_inB]
  go_enter Try.func19, Try.ntmps19
  go_wp2_with (go_at_call 24; refine (on1_any _ _ _).mono ?_; rintro e w' ⟨rfl, rfl⟩)
  all_goals
    go_ret
    refine ⟨ret_bool (by simp_all), ((Below.refl _ _).alloc (Nat.le_refl _) _).alloc (by simp) _⟩

theorem zeroBool (w : World) : (zeroValue 4).run Try.prog w = .ok (.bool false) w := by kernel_rfl

/-- which slots have been seen -/
def seenF (ys : List Ld) (y : Int × Int × Int) : Option Value := if ys.any (fun x => decide ((x.bay, x.row, x.tier) = y)) then some (.bool true) else none
theorem seenF_free (ys : List Ld) (x : Ld) : seenF ys (x.bay, x.row, x.tier) = if free ys x then none else some (.bool true) := by
  have e : ys.any (fun z => decide ((z.bay, z.row, z.tier) = (x.bay, x.row, x.tier))) = !free ys x := by
    unfold free
    rw [List.all_eq_not_any_not, Bool.not_not]
    congr 1
    funext z
    unfold sameSlot
    rw [Bool.eq_iff_iff]; simp [and_assoc]
  unfold seenF
  rw [e]
  cases free ys x <;> rfl
theorem seenF_snoc (ys : List Ld) (x : Ld) (y : Int × Int × Int) : (if y = (x.bay, x.row, x.tier) then some (.bool true) else seenF ys y) = seenF (ys ++ [x]) y := by
  unfold seenF
  by_cases h : y = (x.bay, x.row, x.tier)
  · subst h; simp
  · have h' : ¬ (x.bay, x.row, x.tier) = y := fun e => h e.symm
    simp [h, h']

set_option maxHeartbeats 2000000 in
theorem fit_any (s : Shp) (A : Option Addr) (xs : List Ld) (c : Nat) (w : World) (hs : s.name.size ≤ maxLen) (hl : LoadsIn w w.heap.size A xs) :
    Calls Try.prog 14 #[s.val, .slice A xs.length c] w
      fun e w' => e = .returned (.bool (fitB s xs)) ∧ Below w.heap.size w w' := by
  obtain ⟨nm, a1, a2, a3, a4, a5, a6, a7, a8⟩ := s
  obtain ⟨sv, hsv⟩ : ∃ sv : Shp, sv = ⟨nm, a1, a2, a3, a4, a5, a6, a7, a8⟩ := ⟨_, rfl⟩
  have e1 : sv.bays = a1 := by rw [hsv]
  have e2 : sv.rows = a2 := by rw [hsv]
  have e3 : sv.tiers = a3 := by rw [hsv]
  have hbd : shipOk sv = true → 1 ≤ a1 ∧ a1 ≤ 32 ∧ 1 ≤ a2 ∧ a2 ≤ 32 ∧ 1 ≤ a3 ∧ a3 ≤ 32 := fun h => by have := shipOk_bounds h; omega
  have hon : ∀ x, onOk sv x = (inB x.bay 0 (a1 - 1) && inB x.row 0 (a2 - 1) && inB x.tier 0 (a3 - 1) && inB x.wt 1 1048576) := fun x => by rw [← e1, ← e2, ← e3]; rfl
  have h1 := fun W => May_any nm a1 a2 a3 a4 a5 a6 a7 a8 W hs
  rw [← hsv] at h1 ⊢
  have hdef : fitB sv xs = (shipOk sv && decide (xs.length ≤ 4096) && fitGo sv [] xs) := rfl
  obtain ⟨n, hn⟩ : ∃ n, n = xs.length := ⟨_, rfl⟩
  rw [← hn] at hdef ⊢
  have HN := Lib.hid hn; clear hn
  have hv : Shp.val ⟨nm, a1, a2, a3, a4, a5, a6, a7, a8⟩ = .agg #[.string nm, .int .i64 a1, .int .i64 a2, .int .i64 a3, .int .i64 a4, .int .i64 a5, .int .i64 a6, .int .i64 a7, .int .i64 a8] := rfl
  rw [hsv] at hdef hbd hon h1 ⊢
  rw [hv]
  rw [← hsv] at hdef hbd hon h1 ⊢
  clear hsv hv e1 e2 e3
  have H1 := hide h1; clear h1
  have HL := hide hl; clear hl
  have HO := Lib.hid hon; clear hon
  generalize hr : shipOk sv = r at *
  have HD := Lib.hid hdef; clear hdef hr
  have hmm := @run_makeMap Try.prog
  go_enter Try.func14, Try.ntmps14
  go_wp2_with fail
  refine (unhide H1 _).mono ?_; rintro e w1 ⟨rfl, hb⟩
  have hw1 := (Whole.made w 23 _).after hb
  have hb1 := ((Below.refl w.heap.size w).alloc (Nat.le_refl _) (.cells #[.string nm, .int .i64 a1, .int .i64 a2, .int .i64 a3, .int .i64 a4, .int .i64 a5, .int .i64 a6, .int .i64 a7, .int .i64 a8] 23)).trans (hb.mono (by simp))
  have HB := hide hb1; clear hb1 hb
  have HW := hide hw1; clear hw1
  cases r
  · clear hbd
    go_wp2_with fail
    all_goals (go_ret; exact ⟨ret_bool (by rw [HD.out]; simp), unhide HB⟩)
  · obtain ⟨b1, b2, b3, b4, b5, b6⟩ := hbd rfl
    by_cases hlen : n ≤ 4096
    · have hlen' : decide ((4096 : Int) < (n : Int)) = false := by simp; omega
      have hd2 : fitB sv xs = fitGo sv [] xs := by rw [HD.out]; simp [hlen]
      have HD := Lib.hid hd2; clear hd2 hbd
      have hwm := (unhide HW).lt
      go_wp2_with fail
      go_loopw [19] (fun i wr => ∃ k : Nat, k ≤ n ∧ i = .int .i64 k ∧ Below w.heap.size w wr ∧ Whole wr w.heap.size 23 #[.string nm, .int .i64 a1, .int .i64 a2, .int .i64 a3, .int .i64 a4, .int .i64 a5, .int .i64 a6, .int .i64 a7, .int .i64 a8] ∧
          MapAt slotKeys wr w1.heap.size k (seenF (xs.take k)) ∧ Hid (fitB sv xs = fitGo sv (xs.take k) (xs.drop k))) (fun i _ => n - (intOf i).toNat)
      case atStart => exact ⟨0, by omega, rfl, (unhide HB).alloc (unhide HB).size _, (unhide HW).alloc _, MapAt.made slotKeys w1, Lib.hid HD.out⟩
      case round =>
        obtain ⟨k, hk, rfl, hbw, hww, hmw, HF⟩ := hrel
        obtain ⟨wo, rfl⟩ : ∃ wo : World, wo = wr := ⟨_, rfl⟩
        by_cases hlt : k < n
        · obtain ⟨x, hx⟩ : ∃ x, xs[k]? = some x := ⟨xs[k]'(by rw [← HN.out]; exact hlt), List.getElem?_eq_getElem _⟩
          obtain ⟨b, off, rfl, hbb, c0, c1, c2, c3, c4, c5, c6⟩ := ((unhide HL).below hbw).at hx
          have HX := Lib.hid hx; clear hx
          have hsz := hww.lt
          have hsc := hww.cells
          have hst : fitB sv xs = (onOk sv x && free (xs.take k) x && fitGo sv (xs.take (k + 1)) (xs.drop (k + 1))) := by rw [HF.out]; exact fitGo_at sv xs k x HX.out
          rw [HO.out x] at hst
          have HS := Lib.hid hst; clear hst
          have HBW := hide hbw; clear hbw
          have HWW := hide hww; clear hww
          have HMW := hide hmw; clear hmw
          go_wp2_with fail
          refine (on_any _ _ _ _ _ _ _ _ _ _ _ _ _).mono ?_; rintro e w2 ⟨rfl, hb⟩
          have hx2 := (Whole.made wo 33 #[.int .i64 x.bay, .int .i64 x.row, .int .i64 x.tier, .string x.box, .int .i64 x.wt, .int .i64 x.cls, .int .i64 x.port]).after hb
          have hb2 := ((unhide HBW).alloc (unhide HBW).size (.cells #[.int .i64 x.bay, .int .i64 x.row, .int .i64 x.tier, .string x.box, .int .i64 x.wt, .int .i64 x.cls, .int .i64 x.port] 33)).trans (hb.mono (by have := (unhide HBW).size; simp; omega))
          have hw2 := ((unhide HWW).alloc (.cells #[.int .i64 x.bay, .int .i64 x.row, .int .i64 x.tier, .string x.box, .int .i64 x.wt, .int .i64 x.cls, .int .i64 x.port] 33)).after hb
          have hm2 := ((unhide HMW).alloc (.cells #[.int .i64 x.bay, .int .i64 x.row, .int .i64 x.tier, .string x.box, .int .i64 x.wt, .int .i64 x.cls, .int .i64 x.port] 33)).after hb
          clear hb hsc c0 c1 c2 c3 c4 c5 c6
          have hsc := hx2.cells
          have HB2 := hide hb2; clear hb2
          have HW2 := hide hw2; clear hw2
          have HM2 := hide hm2; clear hm2 hx2
          cases hro : (inB x.bay 0 (a1 - 1) && inB x.row 0 (a2 - 1) && inB x.tier 0 (a3 - 1))
          · have hst : fitB sv xs = false := by rw [HS.out, hro]; rfl
            have HS := Lib.hid hst; clear hst hro
            go_wp2_with fail
            go_ret
            exact ⟨ret_bool HS.out.symm, unhide HB2⟩
          · by_cases hwt : inB x.wt 1 1048576 = true
            · have hst : fitB sv xs = (free (xs.take k) x && fitGo sv (xs.take (k + 1)) (xs.drop (k + 1))) := by rw [HS.out, hro, hwt]; rfl
              have HS := Lib.hid hst; clear hst
              obtain ⟨hwt1, hwt2⟩ := inB_true hwt
              simp only [Bool.and_eq_true] at hro
              obtain ⟨⟨hr1, hr2⟩, hr3⟩ := hro
              have hr1 := inB_true hr1
              have hr2 := inB_true hr2
              have hr3 := inB_true hr3
              have g1 : I64 x.bay := ⟨by omega, by omega⟩
              have g2 : I64 x.row := ⟨by omega, by omega⟩
              have g3 : I64 x.tier := ⟨by omega, by omega⟩
              have hgood : slotKeys.good (x.bay, x.row, x.tier) := ⟨g1, g2, g3⟩
              clear g1 g2 g3
              clear hwt hr1 hr2 hr3
              have HG := hide hgood; clear hgood
              cases hfr : free (xs.take k) x
              · have hlook := (unhide HM2).look_some (t := 49) (e := 4) Try.underlying49 (zeroBool _) (unhide HG) (by rw [seenF_free, hfr]; rfl) false
                simp only [slotKeys, Bool.false_eq_true, if_false] at hlook
                have hst : fitB sv xs = false := by rw [HS.out, hfr]; rfl
                have HS := Lib.hid hst; clear hst hfr
                go_wp2_with fail
                go_ret
                exact ⟨ret_bool HS.out.symm, unhide HB2⟩
              · have hlook := (unhide HM2).look_none (t := 49) (e := 4) Try.underlying49 (zeroBool _) (unhide HG) (by rw [seenF_free, hfr]; rfl) false
                simp only [slotKeys, Bool.false_eq_true, if_false] at hlook
                have hst : fitB sv xs = fitGo sv (xs.take (k + 1)) (xs.drop (k + 1)) := by rw [HS.out, hfr]; rfl
                have HS := Lib.hid hst; clear hst hfr
                go_wp2_with (at_mapUpdate; refine wpList_put _ rfl _ _ _ 49 rfl (J := slotKeys) Try.underlying49 rfl (unhide HM2) (by unfold maxLen; omega) (unhide HG) rfl rfl ?_; intro w3 hm3 hg3)
                go_roundw
                case rel =>
                  refine ⟨k + 1, by omega, by go_num, (unhide HB2).grown hg3 (unhide HB2).size (fun j hj => by cases hj; have := (unhide HB).size; omega), ?_, hm3.congr fun y _ => ?_, Lib.hid HS.out⟩
                  · exact (hg3.block _ (unhide HW2).lt (by have := (unhide HW).lt; intro e; injection e with e; omega)).trans (unhide HW2)
                  · rw [take_at xs k x HX.out]; exact seenF_snoc _ _ _
                case measure => simp [intOf]; omega
            · have hst : fitB sv xs = false := by rw [HS.out]; simp [hwt]
              have HS := Lib.hid hst; clear hst hro
              have hwt' : x.wt < 1 ∨ 1048576 < x.wt := by unfold inB at hwt; simp at hwt; omega
              clear hwt
              rcases hwt' with hwt | hwt
              all_goals
                go_wp2_with fail
                all_goals (go_ret; exact ⟨ret_bool HS.out.symm, unhide HB2⟩)
        · have hst : fitB sv xs = true := by rw [HF.out, List.drop_eq_nil_of_le (by rw [← HN.out]; omega)]; rfl
          have HS := Lib.hid hst; clear hst
          have HBW := hide hbw; clear hbw
          go_wp2_with fail
          go_ret
          exact ⟨ret_bool HS.out.symm, unhide HBW⟩
    · have hst : fitB sv xs = false := by rw [HD.out]; simp [hlen]
      have HS := Lib.hid hst; clear hst hbd HD
      have hlen' : decide ((4096 : Int) < (n : Int)) = true := by simp; omega
      go_wp2_with fail
      all_goals (go_ret; exact ⟨ret_bool HS.out.symm, unhide HB⟩)
end Go.Proofs.Ytcdjljcmhbipiaa
