/- Walk: what leaves a bond. -/
import Derived.Test.YtgalpdjmmpjddaaBoxP
namespace Go.Proofs.Ytgalpdjmmpjddaa
set_option linter.unusedVariables false
set_option linter.unusedSimpArgs false
open Go.RowKit Go.Maps

/-- a look-up among boxes: what it tells -/
theorem look_at {W : World} {m n : Nat} {bs : List Bx} (hm : MapAt strKeys W m n (boxF bs)) (s : ByteArray) (hs : s.size ≤ maxLen) :
    (Instr.lookup 94 (.map (some m)) (.string s) true).run Try.prog W = .ok (.tuple #[.agg #[.int .i64 (dutyAt bs s), .int .i64 (dayAt bs s), .int .i64 (stateAt bs s)], .bool (known bs s)]) W := by
  unfold dutyAt dayAt stateAt known named
  cases hff : bs.find? (fun x => decide (x.name = s)) with
  | none => exact hm.look_none (t := 94) (e := 93) Try.underlying94 (zeroBox _) (x := s) hs (by rw [boxF, hff]; rfl) true
  | some y => exact hm.look_some (t := 94) (e := 93) Try.underlying94 (zeroBox _) (x := s) hs (by rw [boxF, hff]; rfl) true
theorem look_at' {W : World} {m n : Nat} {bs : List Bx} (hm : MapAt strKeys W m n (boxF bs)) (s : ByteArray) (hs : s.size ≤ maxLen) :
    (Instr.lookup 94 (.map (some m)) (.string s) false).run Try.prog W = .ok (.agg #[.int .i64 (dutyAt bs s), .int .i64 (dayAt bs s), .int .i64 (stateAt bs s)]) W := by
  unfold dutyAt dayAt stateAt named
  cases hff : bs.find? (fun x => decide (x.name = s)) with
  | none => exact hm.look_none (t := 94) (e := 93) Try.underlying94 (zeroBox _) (x := s) hs (by rw [boxF, hff]; rfl) false
  | some y => exact hm.look_some (t := 94) (e := 93) Try.underlying94 (zeroBox _) (x := s) hs (by rw [boxF, hff]; rfl) false

/-- conditions, each with its value -/
def Conds (w : World) (vs : List (Value × Bool × Int)) : Prop := ∀ t ∈ vs, Cond w t.1 t.2.1 t.2.2
theorem Conds.after {w w' : World} {vs : List (Value × Bool × Int)} (h : Conds w vs) (hb : Below w.heap.size w w') : Conds w' vs := fun t ht => (h t ht).after hb
theorem Conds.one {w : World} {vs : List (Value × Bool × Int)} (h : Conds w vs) : ∀ u ∈ vs.map (·.1), u.oneCell' = true := by
  intro u hu
  obtain ⟨t, ht, rfl⟩ := List.mem_map.1 hu
  obtain ⟨fn, caps, hv, _⟩ := h t ht
  rw [hv]; rfl
theorem first_list {w : World} {base g n cap : Nat} {vs : List (Value × Bool × Int)} (h : w.ownsRow base 90 1 (.slice (some ⟨g, 0, none⟩) n cap) n (vs.map (·.1))) (hc : Conds w vs) (hn : n ≤ 100) :
    Calls Try.prog 45 #[.slice (some ⟨g, 0, none⟩) n cap] w fun en w' => en = .returned (.int .i64 (firstE (vs.map (·.2)))) ∧ Below w.heap.size w w' := by
  have hl : n = vs.length := by have := h.1; simpa using this.symm
  refine first_any (vs.map (·.2)) g n cap w (by rw [hl]; simp) hn (h.lt g rfl).2 fun k b e hk => ?_
  rw [List.getElem?_map] at hk
  obtain ⟨t, ht, he⟩ := Option.map_eq_some_iff.1 hk
  have hkl : k < n := by rw [hl]; exact (List.getElem?_eq_some_iff.1 ht).1
  refine ⟨t.1, ?_, ?_⟩
  · rw [h.cellAt k (by omega), List.getElem?_map, ht]; rfl
  · have := hc t (List.mem_of_getElem? ht)
    rw [he] at this
    exact this
theorem conds_cons {w : World} {v : Value} {b : Bool} {e : Int} {vs : List (Value × Bool × Int)} (h : Cond w v b e) (hc : Conds w vs) : Conds w ((v, b, e) :: vs) := by
  intro t ht
  rcases List.mem_cons.1 ht with rfl | h'
  · exact h
  · exact hc t h'
theorem Src.after {w w' : World} {size m : Nat} {A : Option Addr} {news : List Value} (h : Src w size A m news) (hA : ∀ a, A = some a → a.block < w.heap.size) (hb : Below w.heap.size w w') : Src w' size A m news :=
  ⟨h.1, fun hm => by
    obtain ⟨ad, e, hc⟩ := h.2 hm
    refine ⟨ad, e, fun j u hu => ?_⟩
    have hblk : (ad.add j).block = ad.block := by unfold Addr.add; split <;> rfl
    rw [hb.cell (by rw [hblk]; exact hA ad e)]
    exact hc j u hu⟩
theorem info_cond : (Try.prog.info? 90).map (fun i => (i.zero, i.size, i.bytes)) = some (some .nilFunc, 1, 8) := by kernel_rfl

/-- what is wrong with what should leave: first with the box, then what else is asked -/
def leaveE (bs : List Bx) (s : ByteArray) (vs : List (Value × Bool × Int)) : Int := firstE ((!known bs s, 4) :: (stateAt bs s != 0, 9) :: vs.map (·.2))
theorem leaveE_op (bs : List Bx) (s : ByteArray) (vs : List (Value × Bool × Int)) : leaveE bs s vs = thenE (opE bs s) (firstE (vs.map (·.2))) := by
  unfold leaveE opE thenE known stateAt named
  cases hff : bs.find? (fun x => decide (x.name = s)) with
  | none => simp [firstE]
  | some y =>
    by_cases h : y.state = 0
    · simp [firstE, h]
    · simp [firstE, h]
theorem leaveE_zero {bs : List Bx} {s : ByteArray} {vs : List (Value × Bool × Int)} (h : leaveE bs s vs = 0) : ∃ x, bs.find? (named s) = some x ∧ dutyAt bs s = x.duty ∧ dayAt bs s = x.day := by
  rw [leaveE_op] at h
  unfold opE thenE at h
  unfold dutyAt dayAt
  cases hff : bs.find? (named s) with
  | none => rw [hff] at h; simp at h
  | some y => exact ⟨y, rfl, rfl, rfl⟩

set_option maxHeartbeats 8000000 in
set_option maxRecDepth 100000 in
theorem leave_any (p m n : Nat) (lim st : Int) (s : ByteArray) (bs : List Bx) (MA : Option Addr) (mn mc : Nat) (vs : List (Value × Bool × Int)) (w : World) (hs : s.size ≤ maxLen) (hB : BondAt w p lim m n bs) (hn : n ≤ 4000) (hpm : p ≠ m)
    (hvs : mn = vs.length) (hmn : mn ≤ 2) (hsrc : Src w 1 MA mn (vs.map (·.1))) (hsb : ∀ a, MA = some a → a.block < w.heap.size) (hc : Conds w vs) :
    Calls Try.prog 42 #[.pointer (some ⟨p, 0, none⟩), .string s, .int .i64 st, .slice MA mn mc] w fun e w' => e = .returned (.int .i64 (leaveE bs s vs)) ∧
      BondAt w' p lim m (n + 1) (left bs s st (leaveE bs s vs)) ∧ w.grownBy w' (some m) := by
  obtain ⟨i0, hi0, hz0, hz1, hz2⟩ := info_parts info_cond
  have hW := hB.1
  have hM := hB.2
  have hlook := look_at hM s hs
  have cB := hW.cells
  have hpl := hW.lt
  have hml := hM.lt
  obtain ⟨a1, ha1⟩ : ∃ a, a = dutyAt bs s := ⟨_, rfl⟩
  obtain ⟨a2, ha2⟩ : ∃ a, a = dayAt bs s := ⟨_, rfl⟩
  obtain ⟨a3, ha3⟩ : ∃ a, a = stateAt bs s := ⟨_, rfl⟩
  obtain ⟨kn, hkn⟩ : ∃ b, b = known bs s := ⟨_, rfl⟩
  rw [← ha1, ← ha2, ← ha3, ← hkn] at hlook
  obtain ⟨er, her⟩ : ∃ e, e = leaveE bs s vs := ⟨_, rfl⟩
  rw [← her]
  have HE : Hid (er = firstE ((!kn, 4) :: (a3 != 0, 9) :: vs.map (·.2))) := by rw [her, ha3, hkn]; exact rfl
  have HEL := hide her
  have HA := hide (And.intro ha1 (And.intro ha2 ha3))
  have HBB := hide hB
  have HSRC := hide hsrc; have HSB := hide hsb; have HC := hide hc
  have HVS := hide hvs; have HI := hide (And.intro hi0 (And.intro hz0 (And.intro hz1 hz2)))
  have hbx : BondAt (w.alloc (.cells #[.int .i64 a1, .int .i64 a2, .int .i64 a3] 93)) p lim m n bs := hB.after ((Below.refl _ _).alloc (Nat.le_refl _) _)
  have HBX := hide hbx
  clear her ha1 ha2 ha3 hkn hB hW hM hsrc hsb hc hvs hi0 hz0 hz1 hz2 hbx
  go_enter Try.func42, Try.ntmps42
  go_wp2_with fail
  have hk := (Whole.made w 93 #[.int .i64 a1, .int .i64 a2, .int .i64 a3])
  have hb0 := (Below.refl w.heap.size w).alloc (Nat.le_refl _) (.cells #[.int .i64 a1, .int .i64 a2, .int .i64 a3] 93)
  generalize w.alloc (.cells #[.int .i64 a1, .int .i64 a2, .int .i64 a3] 93) = W0 at *
  clear cB hlook
  have hsf : ∀ W, Below W0.heap.size W0 W → W.cell? ⟨w.heap.size, 2, none⟩ = some (.int .i64 a3) := fun W hW => (hk.after hW).cells 2
  have f1 := hsf W0.drew (Below.refl _ _).drew
  have HSF := hide hsf
  have HK := hide hk; have HB0 := hide hb0
  clear hsf hk hb0
  obtain ⟨hi0, hz0, hz1, hz2⟩ := unhide HI
  go_region_held3 (fun w' => w'.cell? ⟨w.heap.size, 2, none⟩ = some (.int .i64 a3))
      (first | go_keep)
      ((first
        | (go_at_call 43; (with_reducible refine (whenF_any _ 4 _).mono ?_); rintro en w3 ⟨fn1, cp1, rfl, k1, hb⟩; have hb3 := ((Below.refl W0.heap.size W0).drew).trans hb; have f1 := unhide HSF _ hb3; have HB3 := hide hb3; have HK1 := hide k1; clear hb hb3 k1)
        | (go_at_call 43; (with_reducible refine (whenF_any _ 9 _).mono ?_); rintro en w4 ⟨fn2, cp2, rfl, k2, hb⟩; have hb4 := (unhide HB3).trans (hb.mono (unhide HB3).size); have f1 := unhide HSF _ hb4; have HAL := hide (fun o => unhide HSF (w4.alloc o) (hb4.alloc hb4.size o)); have HB4 := hide hb4; have hcs : Conds w4 ((.func (.func fn1) #[] cp1, !kn, 4) :: (.func (.func fn2) #[] cp2, a3 != 0, 9) :: vs) := conds_cons ((unhide HK1).after hb) (conds_cons k2 ((unhide HC).after ((unhide HB0).trans (hb4.mono (unhide HB0).size)))); have HCS := hide hcs; have hsr := (unhide HSRC).after (unhide HSB) (((unhide HB0).trans (hb4.mono (unhide HB0).size)).alloc ((unhide HB0).trans (hb4.mono (unhide HB0).size)).size (.cells #[.func (.func fn1) #[] cp1, .func (.func fn2) #[] cp2] 90)); have HSR := hide hsr; have how : (w4.alloc (.cells #[.func (.func fn1) #[] cp1, .func (.func fn2) #[] cp2] 90)).ownsRow w4.heap.size 90 1 (.slice (some ⟨w4.heap.size, 0, none⟩) 2 2) 2 [.func (.func fn1) #[] cp1, .func (.func fn2) #[] cp2] := World.ownsRow_lit (base := w4.heap.size) (e := 90) (size := 1) w4 #[.func (.func fn1) #[] cp1, .func (.func fn2) #[] cp2] 2 (Nat.le_refl _) (by unfold maxLen; omega) (by simp); have HOW := hide how; clear hb hb4 k2 hcs hsr how)
        | (refine step_append_src _ (by rfl) (.tmp 28) (.tmp 29) 116 (by rfl) w4.heap.size 90 i0 _ 1 8 Try.underlying116 hi0 hz0 hz1 hz2 rfl (by omega) (by rfl) (unhide HOW) (by rfl) (unhide HSR) (unhide HC).one (by unfold maxLen; omega) (by omega) (by simp) ?_
           intro v5 w5 own5 hg5 hat5
           have hb45 : Below w4.heap.size w4 w5 := below_grown ((Below.refl _ _).alloc (Nat.le_refl _) _) (unhide HOW) (Nat.le_refl _) hg5
           have hb5 := (unhide HB4).trans (hb45.mono (unhide HB4).size)
           have f1 := unhide HSF _ hb5
           obtain ⟨g, cap, rfl, hbg, hlt⟩ := own5.form (by omega)
           have hcs5 := (unhide HCS).after hb45
           have HFI := hide (first_list (vs := (.func (.func fn1) #[] cp1, !kn, 4) :: (.func (.func fn2) #[] cp2, a3 != 0, 9) :: vs) own5 hcs5 (by omega))
           have HB5 := hide hb5
           clear own5 hg5 hat5 hcs5 hb5 hb45)
        | (go_at_call 45; (with_reducible refine (unhide HFI).mono ?_); rintro en w8 ⟨rfl, hb⟩; have hb8 := (unhide HB5).trans (hb.mono (unhide HB5).size); have f1 := unhide HSF _ hb8; have HB8 := hide hb8; clear hb hb8)))
  all_goals
    try simp only [List.map_cons]
    try rw [← unhide HE]
    have hbb := (unhide HB0).trans ((unhide HB8).mono (unhide HB0).size)
    have hfin := (unhide HBB).after hbb
    have hgr := grown_of_below (row := some m) hbb
    by_cases he0 : er = 0
    · have hz := unhide HEL
      rw [he0] at hz
      obtain ⟨x, hx, hd1, hd2⟩ := leaveE_zero hz.symm
      have hev := fun y => boxF_setS bs s st x hx y
      rw [← hd1, ← hd2, ← (unhide HA).1, ← (unhide HA).2.1] at hev
      subst he0
      have kx := (unhide HK).after (unhide HB8)
      have hcx := kx.cells
      have hfx := kx.soft
      have kx2 := (kx.put 2 (.int .i64 st)).drew.cells
      have hW9 := (hfin.1.putFar (p := ⟨w.heap.size, 2, none⟩) (by show p ≠ w.heap.size; omega) (.int .i64 st)).drew
      have hM9 := (hfin.2.setCell (a := ⟨w.heap.size, 2, none⟩) (by show m ≠ w.heap.size; omega) (.int .i64 st)).drew
      have cP := hW9.cells
      have hbb9 := (hbb.setCell (p := ⟨w.heap.size, 2, none⟩) (Nat.le_refl _) (.int .i64 st)).drew
      have HW9 := hide hW9; have HM9 := hide hM9; have HB9 := hide hbb9; have HEV := hide hev
      clear hz hx hd1 hd2 hev kx hW9 hM9 hbb hfin hgr hbb9 f1
      go_wp2_with fail
      refine wp_tail 6 (by kernel_rfl) (by kernel_rfl) ?_
      simp only [List.take_succ_cons, List.take_zero, List.drop_succ_cons, List.drop_zero]
      repeat still_step
      refine wpStill_nil ?_
      clear cP kx2 hcx hfx
      go_wp2_with (at_mapUpdate; refine wpList_put _ rfl _ _ _ 94 rfl (J := strKeys) Try.underlying94 rfl (unhide HM9) (by unfold maxLen; omega) hs rfl rfl ?_; intro w9 hm9 hg9)
      go_ret
      refine ⟨rfl, ⟨?_, hm9.congr fun y _ => ?_⟩, (grown_of_below (row := some m) (unhide HB9)).andThen hg9 (fun j hj => Or.inr hj)⟩
      · exact (hg9.block p (unhide HW9).lt (by intro e; injection e with e; exact hpm e)).trans (unhide HW9)
      · rw [left, if_pos rfl]; exact unhide HEV y
    · have HFIN := hide hfin
      have HGR := hide hgr
      clear hbb hfin hgr f1
      have hne : (er == 0) = false := by simpa using he0
      have hne2 : decide (er = 0) = false := by simpa using he0
      go_wp2_with fail
      go_ret
      refine ⟨rfl, ?_, unhide HGR⟩
      rw [left, if_neg he0]
      exact ⟨(unhide HFIN).1, (unhide HFIN).2.mono (by omega)⟩
end Go.Proofs.Ytgalpdjmmpjddaa
