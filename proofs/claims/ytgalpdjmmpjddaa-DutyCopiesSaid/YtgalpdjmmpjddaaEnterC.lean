/- Walk: a box entered, whose duty and day are in their bounds. -/
import Derived.Test.YtgalpdjmmpjddaaEnterA
import Derived.Test.YtgalpdjmmpjddaaTDutyA
namespace Go.Proofs.Ytgalpdjmmpjddaa
set_option linter.unusedVariables false
set_option linter.unusedSimpArgs false
open Go.RowKit Go.Maps

theorem zeroBox (w : World) : (zeroValue 93).run Try.prog w = .ok (.agg #[.int .i64 0, .int .i64 0, .int .i64 0]) w := by kernel_rfl
theorem grown_of_below {w w' : World} {row : Option Nat} (h : Below w.heap.size w w') : w.grownBy w' row := ⟨h.os, h.tape, h.output, h.size, fun i hi _ => h.block i hi⟩

/-- how many entries, told by len -/
theorem MapAt.len {P : Program} {k t e : TypeId} {κ : Type} {J : Keying P k κ} {w : World} {b n : Nat} {f : κ → Option Value} (h : MapAt J w b n f) (ht : P.underlying t = some (.map k e)) (ty : TypeId) :
    ∃ z : Nat, z ≤ n ∧ ∀ W : World, W.heap[b]? = w.heap[b]? → (Builtin.len_ #[t] ty #[.map (some b)]).run P W = .ok (.int .i64 (z : Int)) W := by
  obtain ⟨D, hD, hf⟩ := h
  have h1 : Maps.size D ≤ n := by
    obtain ⟨es, clock, hb, F, hs, rfl⟩ := hD
    simpa [Maps.size, length_sorted] using hs
  refine ⟨Maps.size D, h1, fun W hW => ?_⟩
  obtain ⟨es, clock, hb, h2⟩ := hD
  have hD' : W.ownsMap P k raw b n D := ⟨es, clock, hW.trans hb, h2⟩
  exact hD'.len ht ty

/-- a look-up among boxes -/
theorem look_box {W : World} {m n : Nat} {bs : List Bx} (hm : MapAt strKeys W m n (boxF bs)) (s : ByteArray) (hs : s.size ≤ maxLen) :
    ∃ a1 a2 a3 : Int, (∀ x, bs.find? (fun x => decide (x.name = s)) = some x → a1 = x.duty ∧ a2 = x.day ∧ a3 = x.state) ∧
      (Instr.lookup 94 (.map (some m)) (.string s) true).run Try.prog W = .ok (.tuple #[.agg #[.int .i64 a1, .int .i64 a2, .int .i64 a3], .bool (bs.find? (fun x => decide (x.name = s))).isSome]) W := by
  cases hff : bs.find? (fun x => decide (x.name = s)) with
  | none => exact ⟨0, 0, 0, fun x hx => (by cases hx), hm.look_none (t := 94) (e := 93) Try.underlying94 (zeroBox _) (x := s) hs (by rw [boxF, hff]; rfl) true⟩
  | some y => exact ⟨y.duty, y.day, y.state, fun x hx => (by cases hx; exact ⟨rfl, rfl, rfl⟩), hm.look_some (t := 94) (e := 93) Try.underlying94 (zeroBox _) (x := s) hs (by rw [boxF, hff]; rfl) true⟩

theorem whenF_any (b : Bool) (e : Int) (w : World) :
    Calls Try.prog 43 #[.bool b, .int .i64 e] w fun en w' => ∃ fn caps, en = .returned (.func (.func fn) #[] caps) ∧ Cond w' (.func (.func fn) #[] caps) b e ∧ Below w.heap.size w w' :=
  (when_any b e w).mono fun en w' ⟨v, he, hc, hb⟩ => by
    obtain ⟨fn, caps, hv, h⟩ := id hc
    subst hv
    exact ⟨fn, caps, he, hc, hb⟩

/-- five conditions, laid out as a row -/
theorem first5_any (W : World) (v1 v2 v3 v4 v5 : Value) (b1 b2 b3 b4 b5 : Bool) (e1 e2 e3 e4 e5 : Int) (h1 : Cond W v1 b1 e1) (h2 : Cond W v2 b2 e2) (h3 : Cond W v3 b3 e3) (h4 : Cond W v4 b4 e4) (h5 : Cond W v5 b5 e5) :
    Calls Try.prog 45 #[.slice (some ⟨W.heap.size, 0, none⟩) 5 5] (W.alloc (.cells #[v1, v2, v3, v4, v5] 90)) fun en w' => en = .returned (.int .i64 (firstE [(b1, e1), (b2, e2), (b3, e3), (b4, e4), (b5, e5)])) ∧ Below W.heap.size W w' := by
  have hal : Below W.heap.size W (W.alloc (.cells #[v1, v2, v3, v4, v5] 90)) := (Below.refl _ _).alloc (Nat.le_refl _) _
  have hc := (Whole.made W 90 #[v1, v2, v3, v4, v5]).cells
  refine (first_any [(b1, e1), (b2, e2), (b3, e3), (b4, e4), (b5, e5)] W.heap.size 5 5 _ rfl (by omega) (by simp) ?_).mono fun en w' ⟨he, hb⟩ => ⟨he, hal.trans (hb.mono (by simp))⟩
  intro k b e hk
  match k, hk with
  | 0, hk => simp at hk; obtain ⟨rfl, rfl⟩ := hk; exact ⟨v1, hc 0, h1.after hal⟩
  | 1, hk => simp at hk; obtain ⟨rfl, rfl⟩ := hk; exact ⟨v2, hc 1, h2.after hal⟩
  | 2, hk => simp at hk; obtain ⟨rfl, rfl⟩ := hk; exact ⟨v3, hc 2, h3.after hal⟩
  | 3, hk => simp at hk; obtain ⟨rfl, rfl⟩ := hk; exact ⟨v4, hc 3, h4.after hal⟩
  | 4, hk => simp at hk; obtain ⟨rfl, rfl⟩ := hk; exact ⟨v5, hc 4, h5.after hal⟩
  | k + 5, hk => simp at hk

def known (bs : List Bx) (s : ByteArray) : Bool := (bs.find? (fun x => decide (x.name = s))).isSome
def rngB (d day : Int) : Bool := !inA d || decide (day < 0) || decide (1048576 < day)
/-- the error of Enter, if the bond isn't full -/
def enterE (lim : Int) (bs : List Bx) (s : ByteArray) (d day : Int) : Int := firstE [(!okName s, 1), (rngB d day, 3), (known bs s, 5), (false, 7), (overB lim bs d, 10)]
theorem boxF_new (bs : List Bx) (x : Bx) (h : known bs x.name = false) (y : ByteArray) : (if y = x.name then some x.val else boxF bs y) = boxF (bs ++ [x]) y := by
  unfold known at h
  unfold boxF
  rw [List.find?_append]
  split
  · rename_i he
    subst he
    have h0 : bs.find? (fun z => decide (z.name = x.name)) = none := by simpa using h
    rw [h0]; simp
  · rename_i he
    have : x.name ≠ y := fun e => he e.symm
    simp [this]
def newBox (s : ByteArray) (d day : Int) : Bx := ⟨s, d, day, if d = 0 then 1 else 0⟩

theorem boxF_snoc {bs : List Bx} {s : ByteArray} {d day : Int} (h : known bs s = false) (y : ByteArray) : (if y = s then some (newBox s d day).val else boxF bs y) = boxF (bs ++ [newBox s d day]) y := boxF_new bs (newBox s d day) h y

set_option maxHeartbeats 8000000 in
set_option maxRecDepth 100000 in
theorem Enter_in (p m n : Nat) (lim d day : Int) (s : ByteArray) (bs : List Bx) (w : World) (hs : s.size ≤ maxLen) (hB : BondAt w p lim m n bs) (hn : n ≤ 4000) (hpm : p ≠ m) (hok : BsOk bs) (hrg : rngB d day = false) :
    Calls Try.prog 24 #[.pointer (some ⟨p, 0, none⟩), .string s, .int .i64 d, .int .i64 day] w fun e w' => e = .returned (.int .i64 (enterE lim bs s d day)) ∧
      BondAt w' p lim m (n + 1) (if enterE lim bs s d day = 0 then bs ++ [newBox s d day] else bs) ∧ w.grownBy w' (some m) := by
  have hW := hB.1
  have hM := hB.2
  obtain ⟨z, hz, hlen⟩ := hM.len (t := 94) (e := 93) Try.underlying94 3
  have hml := hM.lt
  have hpl := hW.lt
  have HNM := hide (fun W => name_any s W hs)
  -- the world ahead of the lookup
  have hb0 := ((Below.refl w.heap.size w).alloc (Nat.le_refl _) (.cells #[.pointer (some ⟨p, 0, none⟩)] 39)).alloc (by simp) (.cells #[.int .i64 d] 2)
  obtain ⟨a1, a2, a3, hax, hlook⟩ := look_box ((hM.alloc (.cells #[.pointer (some ⟨p, 0, none⟩)] 39)).alloc (.cells #[.int .i64 d] 2)) s hs
  have cB := ((hW.alloc (.cells #[.pointer (some ⟨p, 0, none⟩)] 39)).alloc (.cells #[.int .i64 d] 2)).cells
  obtain ⟨kn, hkn⟩ : ∃ b, b = known bs s := ⟨_, rfl⟩
  have hk' : (bs.find? (fun x => decide (x.name = s))).isSome = kn := hkn.symm
  rw [hk'] at hlook
  obtain ⟨o1, ho1⟩ : ∃ b, b = okName s := ⟨_, rfl⟩
  rw [← ho1] at HNM
  obtain ⟨er, her⟩ : ∃ e, e = enterE lim bs s d day := ⟨_, rfl⟩
  rw [← her]
  have HE : Hid (er = firstE [(!o1, 1), (rngB d day, 3), (kn, 5), (false, 7), (overB lim bs d, 10)]) := by rw [her, ho1, hkn]; exact rfl
  have HKN := hide hkn
  clear her
  have HBB := hide hB
  have HOK := hide hok
  have HLEN := hide hlen
  have HB0 := hide hb0
  clear ho1 hkn hax hB hok hW hM hk' hb0
  go_enter Try.func24, Try.ntmps24
  go_wp2_with fail
  have hc1 := ((Whole.made w 39 #[.pointer (some ⟨p, 0, none⟩)]).alloc (.cells #[.int .i64 d] 2)).alloc (.cells #[.int .i64 a1, .int .i64 a2, .int .i64 a3] 93)
  have hc2 := (Whole.made_at (w.alloc (.cells #[.pointer (some ⟨p, 0, none⟩)] 39)) 2 #[.int .i64 d] (w.heap.size + 1) (by simp)).alloc (.cells #[.int .i64 a1, .int .i64 a2, .int .i64 a3] 93)
  have hb0 := (unhide HB0).alloc (unhide HB0).size (.cells #[.int .i64 a1, .int .i64 a2, .int .i64 a3] 93)
  have hz0 : w.heap.size + 1 < (((w.alloc (.cells #[.pointer (some ⟨p, 0, none⟩)] 39)).alloc (.cells #[.int .i64 d] 2)).alloc (.cells #[.int .i64 a1, .int .i64 a2, .int .i64 a3] 93)).heap.size := by simp
  generalize ((w.alloc (.cells #[.pointer (some ⟨p, 0, none⟩)] 39)).alloc (.cells #[.int .i64 d] 2)).alloc (.cells #[.int .i64 a1, .int .i64 a2, .int .i64 a3] 93) = W0 at *
  clear cB hlook hlen
  have hsf : ∀ W, Below W0.heap.size W0 W → W.cell? ⟨w.heap.size, 0, none⟩ = some (.pointer (some ⟨p, 0, none⟩)) ∧ W.cell? ⟨w.heap.size + 1, 0, none⟩ = some (.int .i64 d) ∧ W.cell? ⟨p, 1, none⟩ = some (.map (some m)) ∧
      (Builtin.len_ #[94] 3 #[.map (some m)]).run Try.prog W = .ok (.int .i64 (z : Int)) W := by
    intro W hW
    refine ⟨(hc1.after hW).cells 0, (hc2.after hW).cells 0, ((unhide HBB).1.after (hb0.trans (hW.mono hb0.size))).cells 1, unhide HLEN W ((hb0.trans (hW.mono hb0.size)).block m hml)⟩
  obtain ⟨f1, f2, f3, f4⟩ := hsf W0.drew (Below.refl _ _).drew
  have hlast : ∀ W, Below w.heap.size w W → Below W0.heap.size W0 W → Cond W (.func (.func 46) #[] #[.pointer (some ⟨w.heap.size, 0, none⟩), .pointer (some ⟨w.heap.size + 1, 0, none⟩)]) (overB lim bs d) 10 := by
    intro W hW hW0
    refine ⟨_, _, rfl, fun W' => enters_of Try.func46 (by kernel_rfl) rfl _ _, fun W' hW' => ?_⟩
    have e1 := (hc1.after hW0).after hW'
    have e2 := (hc2.after hW0).after hW'
    exact Enter1_any _ _ p m n lim d bs W' (e1.cells 0) (e2.cells 0) e1.lt e2.lt (((unhide HBB).after hW).after hW') (unhide HOK)
  have HLAST := hide hlast
  clear hlast
  have HSF := hide hsf
  have HC1 := hide hc1; have HC2 := hide hc2; have HBW0 := hide hb0
  clear hsf hc1 hc2 hb0 hz0 HB0 HLEN
  have HAM := hide (fun W => amount_any d W)
  have h123 : inA d = true ∧ decide (day < 0) = false ∧ decide (1048576 < day) = false := by
    unfold rngB at hrg
    cases h0 : inA d <;> cases h1 : decide (day < 0) <;> cases h2 : decide (1048576 < day) <;> simp_all
  rw [hrg] at HE
  obtain ⟨h0, t1, t2⟩ := h123
  rw [h0] at HAM
  have hfl : decide ((4096 : Int) ≤ (z : Int)) = false := by rw [decide_eq_false_iff_not]; omega
  clear hrg h0
  go_region_held3 (fun w' => w'.cell? ⟨w.heap.size, 0, none⟩ = some (.pointer (some ⟨p, 0, none⟩)) ∧ w'.cell? ⟨w.heap.size + 1, 0, none⟩ = some (.int .i64 d) ∧ w'.cell? ⟨p, 1, none⟩ = some (.map (some m)) ∧ (Builtin.len_ #[94] 3 #[.map (some m)]).run Try.prog w' = .ok (.int .i64 (z : Int)) w')
      (first | exact unhide HAL _ | go_keep)
      ((first
        | (go_at_call 30; (with_reducible refine (unhide HNM _).mono ?_); rintro en w2 ⟨rfl, hb⟩; have hb2 := ((Below.refl W0.heap.size W0).drew).trans hb; obtain ⟨f1, f2, f3, f4⟩ := unhide HSF _ hb2; have HB2 := hide hb2; clear hb hb2)
        | (go_at_call 43; (with_reducible refine (whenF_any _ 1 _).mono ?_); rintro en w3 ⟨fn1, cp1, rfl, k1, hb⟩; have hb3 := (unhide HB2).trans (hb.mono (unhide HB2).size); obtain ⟨f1, f2, f3, f4⟩ := unhide HSF _ hb3; have HB3 := hide hb3; have HK1 := hide k1; clear hb hb3 k1)
        | (go_at_call 34; (with_reducible refine (unhide HAM _).mono ?_); rintro en w4 ⟨rfl, rfl⟩)
        | (go_at_call 43; (with_reducible refine (whenF_any _ 3 _).mono ?_); rintro en w4 ⟨fn2, cp2, rfl, k2, hb⟩; have hb4 := (unhide HB3).trans (hb.mono (unhide HB3).size); obtain ⟨f1, f2, f3, f4⟩ := unhide HSF _ hb4; have HB4 := hide hb4; have HK2 := hide k2; have HK1' := hide ((unhide HK1).after hb); clear hb hb4 k2)
        | (go_at_call 43; (with_reducible refine (whenF_any _ 5 _).mono ?_); rintro en w5 ⟨fn3, cp3, rfl, k3, hb⟩; have hb5 := (unhide HB4).trans (hb.mono (unhide HB4).size); obtain ⟨f1, f2, f3, f4⟩ := unhide HSF _ hb5; have HB5 := hide hb5; have HK3 := hide k3; have HK1'' := hide ((unhide HK1').after hb); have HK2' := hide ((unhide HK2).after hb); clear hb hb5 k3)
        | (go_at_call 43; (with_reducible refine (whenF_any _ 7 _).mono ?_); rintro en w6 ⟨fn4, cp4, rfl, k4, hb⟩; have hb6 := (unhide HB5).trans (hb.mono (unhide HB5).size); obtain ⟨f1, f2, f3, f4⟩ := unhide HSF _ hb6; have HAL := hide (fun o => unhide HSF (w6.alloc o) (hb6.alloc hb6.size o)); have HB6 := hide hb6; have HK4 := hide k4; have HK1a := hide ((unhide HK1'').after hb); have HK2a := hide ((unhide HK2').after hb); have HK3a := hide ((unhide HK3).after hb); have HFI := hide (first5_any w6 _ _ _ _ _ _ _ _ _ _ _ _ _ _ _ (unhide HK1a) (unhide HK2a) (unhide HK3a) k4 (unhide HLAST w6 (unhide HBW0 |>.trans (hb6.mono (unhide HBW0).size)) hb6)); clear hb hb6 k4)
        | (go_at_call 45; (with_reducible refine (unhide HFI).mono ?_); rintro en w8 ⟨rfl, hb⟩; have hb8 := (unhide HB6).trans (hb.mono (unhide HB6).size); obtain ⟨f1, f2, f3, f4⟩ := unhide HSF _ hb8; have HB8 := hide hb8; clear hb hb8)))
  all_goals
    rw [← unhide HE]
    have hbb := (unhide HBW0).trans ((unhide HB8).mono (unhide HBW0).size)
    have hfin := (unhide HBB).after hbb
    have hgr := grown_of_below (row := some m) hbb
    by_cases he0 : er = 0
    · have hkf : known bs s = false := by
        have h1 := unhide HE
        rw [he0] at h1
        cases hk : known bs s
        · rfl
        · exfalso
          rw [unhide HKN, hk] at h1
          cases o1 <;> simp [firstE] at h1
      have HKF := hide hkf
      subst he0
      have HMID := hide hbb
      have hB8 : Below W0.heap.size W0 w8 := unhide HB8
      have cD := ((unhide HC2).after hB8).cells
      have cD2 := ((unhide HC2).after hB8).drew.cells
      have cP2 := ((unhide HC1).after hB8).drew.cells
      have cM2 := hfin.1.drew.cells
      have HM8 := hide hfin.2
      have HW8 := hide hfin.1
      have hpz := hfin.1.lt
      clear f1 f2 f3 f4 hbb hfin hgr hkf
      by_cases hd0 : d = 0
      · subst hd0
        go_wp2_with fail
        refine wp_tail 9 (by kernel_rfl) (by kernel_rfl) ?_
        simp only [List.take_succ_cons, List.take_zero, List.drop_succ_cons, List.drop_zero]
        repeat still_step
        refine wpStill_nil ?_
        clear cD cD2 cP2 cM2
        go_wp2_with (at_mapUpdate; refine wpList_put _ rfl _ _ _ 94 rfl (J := strKeys) Try.underlying94 rfl (unhide HM8).drew (by unfold maxLen; omega) hs rfl rfl ?_; intro w9 hm9 hg9)
        go_ret
        refine ⟨rfl, ⟨?_, hm9.congr fun y _ => ?_⟩, (grown_of_below (row := some m) (unhide HMID).drew).andThen hg9 (fun j hj => Or.inr hj)⟩
        · exact (hg9.block p (unhide HW8).drew.lt (by intro e; injection e with e; exact hpm e)).trans (unhide HW8).drew
        · have hsn := boxF_snoc (bs := bs) (s := s) (d := 0) (day := day) (unhide HKF) y
          have hvv : (newBox s 0 day).val = .agg #[.int .i64 0, .int .i64 day, .int .i64 1] := by simp [newBox, Bx.val]
          rw [hvv] at hsn
          exact hsn
      · have hd0' : decide (d = 0) = false := by rw [decide_eq_false_iff_not]; exact hd0
        go_wp2_with fail
        refine wp_tail 9 (by kernel_rfl) (by kernel_rfl) ?_
        simp only [List.take_succ_cons, List.take_zero, List.drop_succ_cons, List.drop_zero]
        repeat still_step
        refine wpStill_nil ?_
        clear cD cD2 cP2 cM2
        go_wp2_with (at_mapUpdate; refine wpList_put _ rfl _ _ _ 94 rfl (J := strKeys) Try.underlying94 rfl (unhide HM8).drew (by unfold maxLen; omega) hs rfl rfl ?_; intro w9 hm9 hg9)
        go_ret
        refine ⟨rfl, ⟨?_, hm9.congr fun y _ => ?_⟩, (grown_of_below (row := some m) (unhide HMID).drew).andThen hg9 (fun j hj => Or.inr hj)⟩
        · exact (hg9.block p (unhide HW8).drew.lt (by intro e; injection e with e; exact hpm e)).trans (unhide HW8).drew
        · have hsn := boxF_snoc (bs := bs) (s := s) (d := d) (day := day) (unhide HKF) y
          have hvv : (newBox s d day).val = .agg #[.int .i64 d, .int .i64 day, .int .i64 0] := by simp [newBox, Bx.val, hd0]
          rw [hvv] at hsn
          exact hsn
    · have HFIN := hide hfin
      have HGR := hide hgr
      clear hbb hfin hgr f1 f2 f3 f4
      have hne : (er != 0) = true := by simpa using he0
      go_wp2_with fail
      go_ret
      refine ⟨rfl, ?_, unhide HGR⟩
      try rw [if_neg he0]
      exact ⟨(unhide HFIN).1, (unhide HFIN).2.mono (by omega)⟩
end Go.Proofs.Ytgalpdjmmpjddaa
