/- Walk: a box entered, at any numbers. (printed by gen_entd.py) -/
import Derived.Test.YtgalpdjmmpjddaaEnterC
namespace Go.Proofs.Ytgalpdjmmpjddaa
set_option linter.unusedVariables false
set_option linter.unusedSimpArgs false
open Go.RowKit Go.Maps

set_option maxHeartbeats 8000000 in
set_option maxRecDepth 100000 in
theorem Enter_out1 (p m n : Nat) (lim d day : Int) (s : ByteArray) (bs : List Bx) (w : World) (hs : s.size ≤ maxLen) (hB : BondAt w p lim m n bs) (hn : n ≤ 4000) (hpm : p ≠ m) (hok : BsOk bs) (hia : inA d = false)  :
    Calls Try.prog 24 #[.pointer (some ⟨p, 0, none⟩), .string s, .int .i64 d, .int .i64 day] w fun e w' => e = .returned (.int .i64 (enterE lim bs s d day)) ∧
      BondAt w' p lim m (n + 1) (if enterE lim bs s d day = 0 then bs ++ [newBox s d day] else bs) ∧ w.grownBy w' (some m) := by
  have hW := hB.1
  have hM := hB.2
  obtain ⟨z, hz, hlen⟩ := hM.len (t := 94) (e := 93) Try.underlying94 3
  have hml := hM.lt
  have hpl := hW.lt
  have HNM := hide (fun W => name_any s W hs)
  -- the world ahead of the lookup
  have hb0 := ((Below.refl w.heap.size w).alloc (Nat.le_refl _) (.cells #[.pointer (some ⟨p, 0, none⟩)] 39)).alloc (by simp) (.cells #[.int .i64 d] 2)
  obtain ⟨a1, a2, a3, hax, hlook⟩ := look_box ((hM.alloc (.cells #[.pointer (some ⟨p, 0, none⟩)] 39)).alloc (.cells #[.int .i64 d] 2)) s hs
  have cB := ((hW.alloc (.cells #[.pointer (some ⟨p, 0, none⟩)] 39)).alloc (.cells #[.int .i64 d] 2)).cells
  obtain ⟨kn, hkn⟩ : ∃ b, b = known bs s := ⟨_, rfl⟩
  have hk' : (bs.find? (fun x => decide (x.name = s))).isSome = kn := hkn.symm
  rw [hk'] at hlook
  obtain ⟨o1, ho1⟩ : ∃ b, b = okName s := ⟨_, rfl⟩
  rw [← ho1] at HNM
  obtain ⟨er, her⟩ : ∃ e, e = enterE lim bs s d day := ⟨_, rfl⟩
  rw [← her]
  have HE : Hid (er = firstE [(!o1, 1), (rngB d day, 3), (kn, 5), (false, 7), (overB lim bs d, 10)]) := by rw [her, ho1, hkn]; exact rfl
  have HKN := hide hkn
  clear her
  have HBB := hide hB
  have HOK := hide hok
  have HLEN := hide hlen
  have HB0 := hide hb0
  clear ho1 hkn hax hB hok hW hM hk' hb0
  go_enter Try.func24, Try.ntmps24
  go_wp2_with fail
  have hc1 := ((Whole.made w 39 #[.pointer (some ⟨p, 0, none⟩)]).alloc (.cells #[.int .i64 d] 2)).alloc (.cells #[.int .i64 a1, .int .i64 a2, .int .i64 a3] 93)
  have hc2 := (Whole.made_at (w.alloc (.cells #[.pointer (some ⟨p, 0, none⟩)] 39)) 2 #[.int .i64 d] (w.heap.size + 1) (by simp)).alloc (.cells #[.int .i64 a1, .int .i64 a2, .int .i64 a3] 93)
  have hb0 := (unhide HB0).alloc (unhide HB0).size (.cells #[.int .i64 a1, .int .i64 a2, .int .i64 a3] 93)
  have hz0 : w.heap.size + 1 < (((w.alloc (.cells #[.pointer (some ⟨p, 0, none⟩)] 39)).alloc (.cells #[.int .i64 d] 2)).alloc (.cells #[.int .i64 a1, .int .i64 a2, .int .i64 a3] 93)).heap.size := by simp
  generalize ((w.alloc (.cells #[.pointer (some ⟨p, 0, none⟩)] 39)).alloc (.cells #[.int .i64 d] 2)).alloc (.cells #[.int .i64 a1, .int .i64 a2, .int .i64 a3] 93) = W0 at *
  clear cB hlook hlen
  have hsf : ∀ W, Below W0.heap.size W0 W → W.cell? ⟨w.heap.size, 0, none⟩ = some (.pointer (some ⟨p, 0, none⟩)) ∧ W.cell? ⟨w.heap.size + 1, 0, none⟩ = some (.int .i64 d) ∧ W.cell? ⟨p, 1, none⟩ = some (.map (some m)) ∧
      (Builtin.len_ #[94] 3 #[.map (some m)]).run Try.prog W = .ok (.int .i64 (z : Int)) W := by
    intro W hW
    refine ⟨(hc1.after hW).cells 0, (hc2.after hW).cells 0, ((unhide HBB).1.after (hb0.trans (hW.mono hb0.size))).cells 1, unhide HLEN W ((hb0.trans (hW.mono hb0.size)).block m hml)⟩
  obtain ⟨f1, f2, f3, f4⟩ := hsf W0.drew (Below.refl _ _).drew
  have hlast : ∀ W, Below w.heap.size w W → Below W0.heap.size W0 W → Cond W (.func (.func 46) #[] #[.pointer (some ⟨w.heap.size, 0, none⟩), .pointer (some ⟨w.heap.size + 1, 0, none⟩)]) (overB lim bs d) 10 := by
    intro W hW hW0
    refine ⟨_, _, rfl, fun W' => enters_of Try.func46 (by kernel_rfl) rfl _ _, fun W' hW' => ?_⟩
    have e1 := (hc1.after hW0).after hW'
    have e2 := (hc2.after hW0).after hW'
    exact Enter1_any _ _ p m n lim d bs W' (e1.cells 0) (e2.cells 0) e1.lt e2.lt (((unhide HBB).after hW).after hW') (unhide HOK)
  have HLAST := hide hlast
  clear hlast
  have HSF := hide hsf
  have HC1 := hide hc1; have HC2 := hide hc2; have HBW0 := hide hb0
  clear hsf hc1 hc2 hb0 hz0 HB0 HLEN
  have HAM := hide (fun W => amount_any d W)
  have hrg : rngB d day = true := (by unfold rngB; rw [hia]; rfl)
  rw [hrg] at HE
  rw [hia] at HAM
  clear hia
  have hfl : decide ((4096 : Int) ≤ (z : Int)) = false := by rw [decide_eq_false_iff_not]; omega
  clear hrg
  refine wp_region_noPanic ?_
  refine wp_region_held_drew (S := (fun w' => w'.cell? ⟨w.heap.size, 0, none⟩ = some (.pointer (some ⟨p, 0, none⟩)) ∧ w'.cell? ⟨w.heap.size + 1, 0, none⟩ = some (.int .i64 d) ∧ w'.cell? ⟨p, 1, none⟩ = some (.map (some m)) ∧ (Builtin.len_ #[94] 3 #[.map (some m)]).run Try.prog w' = .ok (.int .i64 (z : Int)) w')) (by kernel_rfl) ?_ (fun hHeld => ?_)
  · first | exact ⟨f1, f2, f3, f4⟩ | exact unhide HAL _ | go_keep
  refine wpAnyH_take (i := 0) (oi := _) (v := ?_) rfl (by kernel_rfl) (by kernel_rfl) (by kernel_rfl) (fun _ _ _ h => h) (Or.inl ⟨by rfl, ?_⟩) (by assumption) ?_
  rotate_left
  · intro W hSw; (try dsimp only at hSw); go_simp; (try with_reducible rfl)
  try simp only [Act.put, List.setIfInBounds_toArray, List.set_cons_zero, List.set_cons_succ]
  refine wpAnyH_take (i := 4) (oi := _) (v := ?_) rfl (by kernel_rfl) (by kernel_rfl) (by kernel_rfl) (fun _ _ _ h => h) (Or.inl ⟨by rfl, ?_⟩) (by assumption) ?_
  rotate_left
  · intro W hSw; (try dsimp only at hSw); go_simp; (try with_reducible rfl)
  try simp only [Act.put, List.setIfInBounds_toArray, List.set_cons_zero, List.set_cons_succ]
  refine wpAnyH_take (i := 16) (oi := _) (v := ?_) rfl (by kernel_rfl) (by kernel_rfl) (by kernel_rfl) (fun _ _ _ h => h) (Or.inl ⟨by rfl, ?_⟩) (by assumption) ?_
  rotate_left
  · intro W hSw; (try dsimp only at hSw); go_simp; (try with_reducible rfl)
  try simp only [Act.put, List.setIfInBounds_toArray, List.set_cons_zero, List.set_cons_succ]
  refine wpAnyH_take (i := 18) (oi := _) (v := ?_) rfl (by kernel_rfl) (by kernel_rfl) (by kernel_rfl) (fun _ _ _ h => h) (Or.inl ⟨by rfl, ?_⟩) (by assumption) ?_
  rotate_left
  · intro W hSw; (try dsimp only at hSw); go_simp; (try with_reducible rfl)
  try simp only [Act.put, List.setIfInBounds_toArray, List.set_cons_zero, List.set_cons_succ]
  refine wpAnyH_take (i := 19) (oi := _) (v := ?_) rfl (by kernel_rfl) (by kernel_rfl) (by kernel_rfl) (fun _ _ _ h => h) (Or.inl ⟨by rfl, ?_⟩) (by assumption) ?_
  rotate_left
  · intro W hSw; (try dsimp only at hSw); go_simp; (try with_reducible rfl)
  try simp only [Act.put, List.setIfInBounds_toArray, List.set_cons_zero, List.set_cons_succ]
  refine wpAnyH_take (i := 20) (oi := _) (v := ?_) rfl (by kernel_rfl) (by kernel_rfl) (by kernel_rfl) (fun _ _ _ h => h) (Or.inl ⟨by rfl, ?_⟩) (by assumption) ?_
  rotate_left
  · intro W hSw; (try dsimp only at hSw); go_simp; (try with_reducible rfl)
  try simp only [Act.put, List.setIfInBounds_toArray, List.set_cons_zero, List.set_cons_succ]
  refine wpAnyH_take (i := 21) (oi := _) (v := ?_) rfl (by kernel_rfl) (by kernel_rfl) (by kernel_rfl) (fun _ _ _ h => h) (Or.inl ⟨by rfl, ?_⟩) (by assumption) ?_
  rotate_left
  · intro W hSw; (try dsimp only at hSw); go_simp; (try with_reducible rfl)
  try simp only [Act.put, List.setIfInBounds_toArray, List.set_cons_zero, List.set_cons_succ]
  refine wpAnyH_take (i := 25) (oi := _) (v := ?_) rfl (by kernel_rfl) (by kernel_rfl) (by kernel_rfl) (fun _ _ _ h => h) (Or.inl ⟨by rfl, ?_⟩) (by assumption) ?_
  rotate_left
  · intro W hSw; (try dsimp only at hSw); go_simp; (try with_reducible rfl)
  try simp only [Act.put, List.setIfInBounds_toArray, List.set_cons_zero, List.set_cons_succ]
  refine wpAnyH_ready (rs := [1]) (by kernel_rfl) (by simp) ?_
  refine AllReadyH.cons (o := _) rfl (fun K hK => ?_) AllReadyH.nil
  go_simp
  go_at_call 30; (with_reducible refine (unhide HNM _).mono ?_); rintro en w2 ⟨rfl, hb⟩; have hb2 := ((Below.refl W0.heap.size W0).drew).trans hb; obtain ⟨f1, f2, f3, f4⟩ := unhide HSF _ hb2; have HB2 := hide hb2; clear hb hb2
  try go_wp2_with fail
  refine hK.out _ _ ?_ (fun hHeld => ?_)
  · first | exact ⟨f1, f2, f3, f4⟩ | exact unhide HAL _ | go_keep
  clear hK K
  try simp only [Act.put, List.setIfInBounds_toArray, List.set_cons_zero, List.set_cons_succ]
  refine wpAnyH_take (i := 2) (oi := _) (v := ?_) rfl (by kernel_rfl) (by kernel_rfl) (by kernel_rfl) (fun _ _ _ h => h) (Or.inl ⟨by rfl, ?_⟩) (by assumption) ?_
  rotate_left
  · intro W hSw; (try dsimp only at hSw); go_simp; (try with_reducible rfl)
  try simp only [Act.put, List.setIfInBounds_toArray, List.set_cons_zero, List.set_cons_succ]
  refine wpAnyH_ready (rs := [3]) (by kernel_rfl) (by simp) ?_
  refine AllReadyH.cons (o := _) rfl (fun K hK => ?_) AllReadyH.nil
  go_simp
  go_at_call 43; (with_reducible refine (whenF_any _ 1 _).mono ?_); rintro en w3 ⟨fn1, cp1, rfl, k1, hb⟩; have hb3 := (unhide HB2).trans (hb.mono (unhide HB2).size); obtain ⟨f1, f2, f3, f4⟩ := unhide HSF _ hb3; have HB3 := hide hb3; have HK1 := hide k1; clear hb hb3 k1
  try go_wp2_with fail
  refine hK.out _ _ ?_ (fun hHeld => ?_)
  · first | exact ⟨f1, f2, f3, f4⟩ | exact unhide HAL _ | go_keep
  clear hK K
  try simp only [Act.put, List.setIfInBounds_toArray, List.set_cons_zero, List.set_cons_succ]
  refine wpAnyH_ready (rs := [5]) (by kernel_rfl) (by simp) ?_
  refine AllReadyH.cons (o := _) rfl (fun K hK => ?_) AllReadyH.nil
  go_simp
  go_at_call 34; (with_reducible refine (unhide HAM _).mono ?_); rintro en w4 ⟨rfl, rfl⟩
  try go_wp2_with fail
  refine hK.out _ _ ?_ (fun hHeld => ?_)
  · first | exact ⟨f1, f2, f3, f4⟩ | exact unhide HAL _ | go_keep
  clear hK K
  try simp only [Act.put, List.setIfInBounds_toArray, List.set_cons_zero, List.set_cons_succ]
  refine wpAnyH_take (i := 6) (oi := _) (v := ?_) rfl (by kernel_rfl) (by kernel_rfl) (by kernel_rfl) (fun _ _ _ h => h) (Or.inl ⟨by rfl, ?_⟩) (by assumption) ?_
  rotate_left
  · intro W hSw; (try dsimp only at hSw); go_simp; (try with_reducible rfl)
  try simp only [Act.put, List.setIfInBounds_toArray, List.set_cons_zero, List.set_cons_succ]
  refine wpAnyH_take (i := 7) (oi := _) (v := ?_) rfl (by kernel_rfl) (by kernel_rfl) (by kernel_rfl) (fun _ _ _ h => h) (Or.inl ⟨by rfl, ?_⟩) (by assumption) ?_
  rotate_left
  · intro W hSw; (try dsimp only at hSw); go_simp; (try with_reducible rfl)
  try simp only [Act.put, List.setIfInBounds_toArray, List.set_cons_zero, List.set_cons_succ]
  refine wpAnyH_take (i := 8) (oi := _) (v := undef) rfl (by kernel_rfl) (by kernel_rfl) (by kernel_rfl) (fun _ _ _ h => h) (Or.inr ⟨by rfl, rfl⟩) (by assumption) ?_
  try simp only [Act.put, List.setIfInBounds_toArray, List.set_cons_zero, List.set_cons_succ]
  refine wpAnyH_take (i := 9) (oi := _) (v := undef) rfl (by kernel_rfl) (by kernel_rfl) (by kernel_rfl) (fun _ _ _ h => h) (Or.inr ⟨by rfl, rfl⟩) (by assumption) ?_
  try simp only [Act.put, List.setIfInBounds_toArray, List.set_cons_zero, List.set_cons_succ]
  refine wpAnyH_take (i := 10) (oi := _) (v := ?_) rfl (by kernel_rfl) (by kernel_rfl) (by kernel_rfl) (fun _ _ _ h => h) (Or.inl ⟨by rfl, ?_⟩) (by assumption) ?_
  rotate_left
  · intro W hSw; (try dsimp only at hSw); go_simp; (try with_reducible rfl)
  try simp only [Act.put, List.setIfInBounds_toArray, List.set_cons_zero, List.set_cons_succ]
  refine wpAnyH_take (i := 11) (oi := _) (v := ?_) rfl (by kernel_rfl) (by kernel_rfl) (by kernel_rfl) (fun _ _ _ h => h) (Or.inl ⟨by rfl, ?_⟩) (by assumption) ?_
  rotate_left
  · intro W hSw; (try dsimp only at hSw); go_simp; (try with_reducible rfl)
  try simp only [Act.put, List.setIfInBounds_toArray, List.set_cons_zero, List.set_cons_succ]
  refine wpAnyH_take (i := 12) (oi := _) (v := undef) rfl (by kernel_rfl) (by kernel_rfl) (by kernel_rfl) (fun _ _ _ h => h) (Or.inr ⟨by rfl, rfl⟩) (by assumption) ?_
  try simp only [Act.put, List.setIfInBounds_toArray, List.set_cons_zero, List.set_cons_succ]
  refine wpAnyH_take (i := 13) (oi := _) (v := undef) rfl (by kernel_rfl) (by kernel_rfl) (by kernel_rfl) (fun _ _ _ h => h) (Or.inr ⟨by rfl, rfl⟩) (by assumption) ?_
  try simp only [Act.put, List.setIfInBounds_toArray, List.set_cons_zero, List.set_cons_succ]
  refine wpAnyH_take (i := 14) (oi := _) (v := ?_) rfl (by kernel_rfl) (by kernel_rfl) (by kernel_rfl) (fun _ _ _ h => h) (Or.inl ⟨by rfl, ?_⟩) (by assumption) ?_
  rotate_left
  · intro W hSw; (try dsimp only at hSw); go_simp; (try with_reducible rfl)
  try simp only [Act.put, List.setIfInBounds_toArray, List.set_cons_zero, List.set_cons_succ]
  refine wpAnyH_ready (rs := [15]) (by kernel_rfl) (by simp) ?_
  refine AllReadyH.cons (o := _) rfl (fun K hK => ?_) AllReadyH.nil
  go_simp
  go_at_call 43; (with_reducible refine (whenF_any _ 3 _).mono ?_); rintro en w4 ⟨fn2, cp2, rfl, k2, hb⟩; have hb4 := (unhide HB3).trans (hb.mono (unhide HB3).size); obtain ⟨f1, f2, f3, f4⟩ := unhide HSF _ hb4; have HB4 := hide hb4; have HK2 := hide k2; have HK1' := hide ((unhide HK1).after hb); clear hb hb4 k2
  try go_wp2_with fail
  refine hK.out _ _ ?_ (fun hHeld => ?_)
  · first | exact ⟨f1, f2, f3, f4⟩ | exact unhide HAL _ | go_keep
  clear hK K
  try simp only [Act.put, List.setIfInBounds_toArray, List.set_cons_zero, List.set_cons_succ]
  refine wpAnyH_ready (rs := [17]) (by kernel_rfl) (by simp) ?_
  refine AllReadyH.cons (o := _) rfl (fun K hK => ?_) AllReadyH.nil
  go_simp
  go_at_call 43; (with_reducible refine (whenF_any _ 5 _).mono ?_); rintro en w5 ⟨fn3, cp3, rfl, k3, hb⟩; have hb5 := (unhide HB4).trans (hb.mono (unhide HB4).size); obtain ⟨f1, f2, f3, f4⟩ := unhide HSF _ hb5; have HB5 := hide hb5; have HK3 := hide k3; have HK1'' := hide ((unhide HK1').after hb); have HK2' := hide ((unhide HK2).after hb); clear hb hb5 k3
  try go_wp2_with fail
  refine hK.out _ _ ?_ (fun hHeld => ?_)
  · first | exact ⟨f1, f2, f3, f4⟩ | exact unhide HAL _ | go_keep
  clear hK K
  try simp only [Act.put, List.setIfInBounds_toArray, List.set_cons_zero, List.set_cons_succ]
  refine wpAnyH_take (i := 22) (oi := _) (v := ?_) rfl (by kernel_rfl) (by kernel_rfl) (by kernel_rfl) (fun _ _ _ h => h) (Or.inl ⟨by rfl, ?_⟩) (by assumption) ?_
  rotate_left
  · intro W hSw; (try dsimp only at hSw); go_simp; (try with_reducible rfl)
  try simp only [Act.put, List.setIfInBounds_toArray, List.set_cons_zero, List.set_cons_succ]
  refine wpAnyH_take (i := 23) (oi := _) (v := ?_) rfl (by kernel_rfl) (by kernel_rfl) (by kernel_rfl) (fun _ _ _ h => h) (Or.inl ⟨by rfl, ?_⟩) (by assumption) ?_
  rotate_left
  · intro W hSw; (try dsimp only at hSw); go_simp; (try with_reducible rfl)
  try simp only [Act.put, List.setIfInBounds_toArray, List.set_cons_zero, List.set_cons_succ]
  refine wpAnyH_ready (rs := [24]) (by kernel_rfl) (by simp) ?_
  refine AllReadyH.cons (o := _) rfl (fun K hK => ?_) AllReadyH.nil
  go_simp
  go_at_call 43; (with_reducible refine (whenF_any _ 7 _).mono ?_); rintro en w6 ⟨fn4, cp4, rfl, k4, hb⟩; have hb6 := (unhide HB5).trans (hb.mono (unhide HB5).size); obtain ⟨f1, f2, f3, f4⟩ := unhide HSF _ hb6; have HAL := hide (fun o => unhide HSF (w6.alloc o) (hb6.alloc hb6.size o)); have HB6 := hide hb6; have HK4 := hide k4; have HK1a := hide ((unhide HK1'').after hb); have HK2a := hide ((unhide HK2').after hb); have HK3a := hide ((unhide HK3).after hb); have HFI := hide (first5_any w6 _ _ _ _ _ _ _ _ _ _ _ _ _ _ _ (unhide HK1a) (unhide HK2a) (unhide HK3a) k4 (unhide HLAST w6 (unhide HBW0 |>.trans (hb6.mono (unhide HBW0).size)) hb6)); clear hb hb6 k4
  try go_wp2_with fail
  refine hK.out _ _ ?_ (fun hHeld => ?_)
  · first | exact ⟨f1, f2, f3, f4⟩ | exact unhide HAL _ | go_keep
  clear hK K
  try simp only [Act.put, List.setIfInBounds_toArray, List.set_cons_zero, List.set_cons_succ]
  refine wpAnyH_ready (rs := [26]) (by kernel_rfl) (by simp) ?_
  refine AllReadyH.cons (o := _) rfl (fun K hK => ?_) AllReadyH.nil
  go_simp
  skip
  try go_wp2_with fail
  refine hK.out _ _ ?_ (fun hHeld => ?_)
  · first | exact ⟨f1, f2, f3, f4⟩ | exact unhide HAL _ | go_keep
  clear hK K
  try simp only [Act.put, List.setIfInBounds_toArray, List.set_cons_zero, List.set_cons_succ]
  refine wpAnyH_ready (rs := [27]) (by kernel_rfl) (by simp) ?_
  refine AllReadyH.cons (o := _) rfl (fun K hK => ?_) AllReadyH.nil
  go_simp
  go_at_call 45; (with_reducible refine (unhide HFI).mono ?_); rintro en w8 ⟨rfl, hb⟩; have hb8 := (unhide HB6).trans (hb.mono (unhide HB6).size); obtain ⟨f1, f2, f3, f4⟩ := unhide HSF _ hb8; have HB8 := hide hb8; clear hb hb8
  try go_wp2_with fail
  refine hK.out _ _ ?_ (fun hHeld => ?_)
  · first | exact ⟨f1, f2, f3, f4⟩ | exact unhide HAL _ | go_keep
  clear hK K
  try simp only [Act.put, List.setIfInBounds_toArray, List.set_cons_zero, List.set_cons_succ]
  refine wpAnyH_take (i := 28) (oi := _) (v := ?_) rfl (by kernel_rfl) (by kernel_rfl) (by kernel_rfl) (fun _ _ _ h => h) (Or.inl ⟨by rfl, ?_⟩) (by assumption) ?_
  rotate_left
  · intro W hSw; (try dsimp only at hSw); go_simp; (try with_reducible rfl)
  try simp only [Act.put, List.setIfInBounds_toArray, List.set_cons_zero, List.set_cons_succ]
  refine wpAnyH_done (by kernel_rfl) ?_ _
  refine NoPanic.normal ?_
  rw [← unhide HE]
  have her0 : er ≠ 0 := by
    rw [unhide HE]
    cases o1 <;> simp [firstE]
  have hbb := (unhide HBW0).trans ((unhide HB8).mono (unhide HBW0).size)
  have hfin := (unhide HBB).after hbb
  have hgr := grown_of_below (row := some m) hbb
  have HFIN := hide hfin
  have HGR := hide hgr
  clear hbb hfin hgr f1 f2 f3 f4
  have hne : (er != 0) = true := by simpa using her0
  go_wp2_with fail
  go_ret
  refine ⟨rfl, ?_, unhide HGR⟩
  try rw [if_neg her0]
  exact ⟨(unhide HFIN).1, (unhide HFIN).2.mono (by omega)⟩

set_option maxHeartbeats 8000000 in
set_option maxRecDepth 100000 in
theorem Enter_out2 (p m n : Nat) (lim d day : Int) (s : ByteArray) (bs : List Bx) (w : World) (hs : s.size ≤ maxLen) (hB : BondAt w p lim m n bs) (hn : n ≤ 4000) (hpm : p ≠ m) (hok : BsOk bs) (hia : inA d = true) (t1 : decide (day < 0) = true)  :
    Calls Try.prog 24 #[.pointer (some ⟨p, 0, none⟩), .string s, .int .i64 d, .int .i64 day] w fun e w' => e = .returned (.int .i64 (enterE lim bs s d day)) ∧
      BondAt w' p lim m (n + 1) (if enterE lim bs s d day = 0 then bs ++ [newBox s d day] else bs) ∧ w.grownBy w' (some m) := by
  have hW := hB.1
  have hM := hB.2
  obtain ⟨z, hz, hlen⟩ := hM.len (t := 94) (e := 93) Try.underlying94 3
  have hml := hM.lt
  have hpl := hW.lt
  have HNM := hide (fun W => name_any s W hs)
  -- the world ahead of the lookup
  have hb0 := ((Below.refl w.heap.size w).alloc (Nat.le_refl _) (.cells #[.pointer (some ⟨p, 0, none⟩)] 39)).alloc (by simp) (.cells #[.int .i64 d] 2)
  obtain ⟨a1, a2, a3, hax, hlook⟩ := look_box ((hM.alloc (.cells #[.pointer (some ⟨p, 0, none⟩)] 39)).alloc (.cells #[.int .i64 d] 2)) s hs
  have cB := ((hW.alloc (.cells #[.pointer (some ⟨p, 0, none⟩)] 39)).alloc (.cells #[.int .i64 d] 2)).cells
  obtain ⟨kn, hkn⟩ : ∃ b, b = known bs s := ⟨_, rfl⟩
  have hk' : (bs.find? (fun x => decide (x.name = s))).isSome = kn := hkn.symm
  rw [hk'] at hlook
  obtain ⟨o1, ho1⟩ : ∃ b, b = okName s := ⟨_, rfl⟩
  rw [← ho1] at HNM
  obtain ⟨er, her⟩ : ∃ e, e = enterE lim bs s d day := ⟨_, rfl⟩
  rw [← her]
  have HE : Hid (er = firstE [(!o1, 1), (rngB d day, 3), (kn, 5), (false, 7), (overB lim bs d, 10)]) := by rw [her, ho1, hkn]; exact rfl
  have HKN := hide hkn
  clear her
  have HBB := hide hB
  have HOK := hide hok
  have HLEN := hide hlen
  have HB0 := hide hb0
  clear ho1 hkn hax hB hok hW hM hk' hb0
  go_enter Try.func24, Try.ntmps24
  go_wp2_with fail
  have hc1 := ((Whole.made w 39 #[.pointer (some ⟨p, 0, none⟩)]).alloc (.cells #[.int .i64 d] 2)).alloc (.cells #[.int .i64 a1, .int .i64 a2, .int .i64 a3] 93)
  have hc2 := (Whole.made_at (w.alloc (.cells #[.pointer (some ⟨p, 0, none⟩)] 39)) 2 #[.int .i64 d] (w.heap.size + 1) (by simp)).alloc (.cells #[.int .i64 a1, .int .i64 a2, .int .i64 a3] 93)
  have hb0 := (unhide HB0).alloc (unhide HB0).size (.cells #[.int .i64 a1, .int .i64 a2, .int .i64 a3] 93)
  have hz0 : w.heap.size + 1 < (((w.alloc (.cells #[.pointer (some ⟨p, 0, none⟩)] 39)).alloc (.cells #[.int .i64 d] 2)).alloc (.cells #[.int .i64 a1, .int .i64 a2, .int .i64 a3] 93)).heap.size := by simp
  generalize ((w.alloc (.cells #[.pointer (some ⟨p, 0, none⟩)] 39)).alloc (.cells #[.int .i64 d] 2)).alloc (.cells #[.int .i64 a1, .int .i64 a2, .int .i64 a3] 93) = W0 at *
  clear cB hlook hlen
  have hsf : ∀ W, Below W0.heap.size W0 W → W.cell? ⟨w.heap.size, 0, none⟩ = some (.pointer (some ⟨p, 0, none⟩)) ∧ W.cell? ⟨w.heap.size + 1, 0, none⟩ = some (.int .i64 d) ∧ W.cell? ⟨p, 1, none⟩ = some (.map (some m)) ∧
      (Builtin.len_ #[94] 3 #[.map (some m)]).run Try.prog W = .ok (.int .i64 (z : Int)) W := by
    intro W hW
    refine ⟨(hc1.after hW).cells 0, (hc2.after hW).cells 0, ((unhide HBB).1.after (hb0.trans (hW.mono hb0.size))).cells 1, unhide HLEN W ((hb0.trans (hW.mono hb0.size)).block m hml)⟩
  obtain ⟨f1, f2, f3, f4⟩ := hsf W0.drew (Below.refl _ _).drew
  have hlast : ∀ W, Below w.heap.size w W → Below W0.heap.size W0 W → Cond W (.func (.func 46) #[] #[.pointer (some ⟨w.heap.size, 0, none⟩), .pointer (some ⟨w.heap.size + 1, 0, none⟩)]) (overB lim bs d) 10 := by
    intro W hW hW0
    refine ⟨_, _, rfl, fun W' => enters_of Try.func46 (by kernel_rfl) rfl _ _, fun W' hW' => ?_⟩
    have e1 := (hc1.after hW0).after hW'
    have e2 := (hc2.after hW0).after hW'
    exact Enter1_any _ _ p m n lim d bs W' (e1.cells 0) (e2.cells 0) e1.lt e2.lt (((unhide HBB).after hW).after hW') (unhide HOK)
  have HLAST := hide hlast
  clear hlast
  have HSF := hide hsf
  have HC1 := hide hc1; have HC2 := hide hc2; have HBW0 := hide hb0
  clear hsf hc1 hc2 hb0 hz0 HB0 HLEN
  have HAM := hide (fun W => amount_any d W)
  have hrg : rngB d day = true := (by unfold rngB; rw [hia, t1]; rfl)
  rw [hrg] at HE
  rw [hia] at HAM
  clear hia
  have hfl : decide ((4096 : Int) ≤ (z : Int)) = false := by rw [decide_eq_false_iff_not]; omega
  clear hrg
  refine wp_region_noPanic ?_
  refine wp_region_held_drew (S := (fun w' => w'.cell? ⟨w.heap.size, 0, none⟩ = some (.pointer (some ⟨p, 0, none⟩)) ∧ w'.cell? ⟨w.heap.size + 1, 0, none⟩ = some (.int .i64 d) ∧ w'.cell? ⟨p, 1, none⟩ = some (.map (some m)) ∧ (Builtin.len_ #[94] 3 #[.map (some m)]).run Try.prog w' = .ok (.int .i64 (z : Int)) w')) (by kernel_rfl) ?_ (fun hHeld => ?_)
  · first | exact ⟨f1, f2, f3, f4⟩ | exact unhide HAL _ | go_keep
  refine wpAnyH_take (i := 0) (oi := _) (v := ?_) rfl (by kernel_rfl) (by kernel_rfl) (by kernel_rfl) (fun _ _ _ h => h) (Or.inl ⟨by rfl, ?_⟩) (by assumption) ?_
  rotate_left
  · intro W hSw; (try dsimp only at hSw); go_simp; (try with_reducible rfl)
  try simp only [Act.put, List.setIfInBounds_toArray, List.set_cons_zero, List.set_cons_succ]
  refine wpAnyH_take (i := 4) (oi := _) (v := ?_) rfl (by kernel_rfl) (by kernel_rfl) (by kernel_rfl) (fun _ _ _ h => h) (Or.inl ⟨by rfl, ?_⟩) (by assumption) ?_
  rotate_left
  · intro W hSw; (try dsimp only at hSw); go_simp; (try with_reducible rfl)
  try simp only [Act.put, List.setIfInBounds_toArray, List.set_cons_zero, List.set_cons_succ]
  refine wpAnyH_take (i := 16) (oi := _) (v := ?_) rfl (by kernel_rfl) (by kernel_rfl) (by kernel_rfl) (fun _ _ _ h => h) (Or.inl ⟨by rfl, ?_⟩) (by assumption) ?_
  rotate_left
  · intro W hSw; (try dsimp only at hSw); go_simp; (try with_reducible rfl)
  try simp only [Act.put, List.setIfInBounds_toArray, List.set_cons_zero, List.set_cons_succ]
  refine wpAnyH_take (i := 18) (oi := _) (v := ?_) rfl (by kernel_rfl) (by kernel_rfl) (by kernel_rfl) (fun _ _ _ h => h) (Or.inl ⟨by rfl, ?_⟩) (by assumption) ?_
  rotate_left
  · intro W hSw; (try dsimp only at hSw); go_simp; (try with_reducible rfl)
  try simp only [Act.put, List.setIfInBounds_toArray, List.set_cons_zero, List.set_cons_succ]
  refine wpAnyH_take (i := 19) (oi := _) (v := ?_) rfl (by kernel_rfl) (by kernel_rfl) (by kernel_rfl) (fun _ _ _ h => h) (Or.inl ⟨by rfl, ?_⟩) (by assumption) ?_
  rotate_left
  · intro W hSw; (try dsimp only at hSw); go_simp; (try with_reducible rfl)
  try simp only [Act.put, List.setIfInBounds_toArray, List.set_cons_zero, List.set_cons_succ]
  refine wpAnyH_take (i := 20) (oi := _) (v := ?_) rfl (by kernel_rfl) (by kernel_rfl) (by kernel_rfl) (fun _ _ _ h => h) (Or.inl ⟨by rfl, ?_⟩) (by assumption) ?_
  rotate_left
  · intro W hSw; (try dsimp only at hSw); go_simp; (try with_reducible rfl)
  try simp only [Act.put, List.setIfInBounds_toArray, List.set_cons_zero, List.set_cons_succ]
  refine wpAnyH_take (i := 21) (oi := _) (v := ?_) rfl (by kernel_rfl) (by kernel_rfl) (by kernel_rfl) (fun _ _ _ h => h) (Or.inl ⟨by rfl, ?_⟩) (by assumption) ?_
  rotate_left
  · intro W hSw; (try dsimp only at hSw); go_simp; (try with_reducible rfl)
  try simp only [Act.put, List.setIfInBounds_toArray, List.set_cons_zero, List.set_cons_succ]
  refine wpAnyH_take (i := 25) (oi := _) (v := ?_) rfl (by kernel_rfl) (by kernel_rfl) (by kernel_rfl) (fun _ _ _ h => h) (Or.inl ⟨by rfl, ?_⟩) (by assumption) ?_
  rotate_left
  · intro W hSw; (try dsimp only at hSw); go_simp; (try with_reducible rfl)
  try simp only [Act.put, List.setIfInBounds_toArray, List.set_cons_zero, List.set_cons_succ]
  refine wpAnyH_ready (rs := [1]) (by kernel_rfl) (by simp) ?_
  refine AllReadyH.cons (o := _) rfl (fun K hK => ?_) AllReadyH.nil
  go_simp
  go_at_call 30; (with_reducible refine (unhide HNM _).mono ?_); rintro en w2 ⟨rfl, hb⟩; have hb2 := ((Below.refl W0.heap.size W0).drew).trans hb; obtain ⟨f1, f2, f3, f4⟩ := unhide HSF _ hb2; have HB2 := hide hb2; clear hb hb2
  try go_wp2_with fail
  refine hK.out _ _ ?_ (fun hHeld => ?_)
  · first | exact ⟨f1, f2, f3, f4⟩ | exact unhide HAL _ | go_keep
  clear hK K
  try simp only [Act.put, List.setIfInBounds_toArray, List.set_cons_zero, List.set_cons_succ]
  refine wpAnyH_take (i := 2) (oi := _) (v := ?_) rfl (by kernel_rfl) (by kernel_rfl) (by kernel_rfl) (fun _ _ _ h => h) (Or.inl ⟨by rfl, ?_⟩) (by assumption) ?_
  rotate_left
  · intro W hSw; (try dsimp only at hSw); go_simp; (try with_reducible rfl)
  try simp only [Act.put, List.setIfInBounds_toArray, List.set_cons_zero, List.set_cons_succ]
  refine wpAnyH_ready (rs := [3]) (by kernel_rfl) (by simp) ?_
  refine AllReadyH.cons (o := _) rfl (fun K hK => ?_) AllReadyH.nil
  go_simp
  go_at_call 43; (with_reducible refine (whenF_any _ 1 _).mono ?_); rintro en w3 ⟨fn1, cp1, rfl, k1, hb⟩; have hb3 := (unhide HB2).trans (hb.mono (unhide HB2).size); obtain ⟨f1, f2, f3, f4⟩ := unhide HSF _ hb3; have HB3 := hide hb3; have HK1 := hide k1; clear hb hb3 k1
  try go_wp2_with fail
  refine hK.out _ _ ?_ (fun hHeld => ?_)
  · first | exact ⟨f1, f2, f3, f4⟩ | exact unhide HAL _ | go_keep
  clear hK K
  try simp only [Act.put, List.setIfInBounds_toArray, List.set_cons_zero, List.set_cons_succ]
  refine wpAnyH_ready (rs := [5]) (by kernel_rfl) (by simp) ?_
  refine AllReadyH.cons (o := _) rfl (fun K hK => ?_) AllReadyH.nil
  go_simp
  go_at_call 34; (with_reducible refine (unhide HAM _).mono ?_); rintro en w4 ⟨rfl, rfl⟩
  try go_wp2_with fail
  refine hK.out _ _ ?_ (fun hHeld => ?_)
  · first | exact ⟨f1, f2, f3, f4⟩ | exact unhide HAL _ | go_keep
  clear hK K
  try simp only [Act.put, List.setIfInBounds_toArray, List.set_cons_zero, List.set_cons_succ]
  refine wpAnyH_take (i := 6) (oi := _) (v := ?_) rfl (by kernel_rfl) (by kernel_rfl) (by kernel_rfl) (fun _ _ _ h => h) (Or.inl ⟨by rfl, ?_⟩) (by assumption) ?_
  rotate_left
  · intro W hSw; (try dsimp only at hSw); go_simp; (try with_reducible rfl)
  try simp only [Act.put, List.setIfInBounds_toArray, List.set_cons_zero, List.set_cons_succ]
  refine wpAnyH_take (i := 7) (oi := _) (v := ?_) rfl (by kernel_rfl) (by kernel_rfl) (by kernel_rfl) (fun _ _ _ h => h) (Or.inl ⟨by rfl, ?_⟩) (by assumption) ?_
  rotate_left
  · intro W hSw; (try dsimp only at hSw); go_simp; (try with_reducible rfl)
  try simp only [Act.put, List.setIfInBounds_toArray, List.set_cons_zero, List.set_cons_succ]
  refine wpAnyH_take (i := 8) (oi := _) (v := ?_) rfl (by kernel_rfl) (by kernel_rfl) (by kernel_rfl) (fun _ _ _ h => h) (Or.inl ⟨by rfl, ?_⟩) (by assumption) ?_
  rotate_left
  · intro W hSw; (try dsimp only at hSw); go_simp; (try with_reducible rfl)
  try simp only [Act.put, List.setIfInBounds_toArray, List.set_cons_zero, List.set_cons_succ]
  refine wpAnyH_take (i := 9) (oi := _) (v := ?_) rfl (by kernel_rfl) (by kernel_rfl) (by kernel_rfl) (fun _ _ _ h => h) (Or.inl ⟨by rfl, ?_⟩) (by assumption) ?_
  rotate_left
  · intro W hSw; (try dsimp only at hSw); go_simp; (try with_reducible rfl)
  try simp only [Act.put, List.setIfInBounds_toArray, List.set_cons_zero, List.set_cons_succ]
  refine wpAnyH_take (i := 10) (oi := _) (v := ?_) rfl (by kernel_rfl) (by kernel_rfl) (by kernel_rfl) (fun _ _ _ h => h) (Or.inl ⟨by rfl, ?_⟩) (by assumption) ?_
  rotate_left
  · intro W hSw; (try dsimp only at hSw); go_simp; (try with_reducible rfl)
  try simp only [Act.put, List.setIfInBounds_toArray, List.set_cons_zero, List.set_cons_succ]
  refine wpAnyH_take (i := 11) (oi := _) (v := ?_) rfl (by kernel_rfl) (by kernel_rfl) (by kernel_rfl) (fun _ _ _ h => h) (Or.inl ⟨by rfl, ?_⟩) (by assumption) ?_
  rotate_left
  · intro W hSw; (try dsimp only at hSw); go_simp; (try with_reducible rfl)
  try simp only [Act.put, List.setIfInBounds_toArray, List.set_cons_zero, List.set_cons_succ]
  refine wpAnyH_take (i := 12) (oi := _) (v := undef) rfl (by kernel_rfl) (by kernel_rfl) (by kernel_rfl) (fun _ _ _ h => h) (Or.inr ⟨by rfl, rfl⟩) (by assumption) ?_
  try simp only [Act.put, List.setIfInBounds_toArray, List.set_cons_zero, List.set_cons_succ]
  refine wpAnyH_take (i := 13) (oi := _) (v := undef) rfl (by kernel_rfl) (by kernel_rfl) (by kernel_rfl) (fun _ _ _ h => h) (Or.inr ⟨by rfl, rfl⟩) (by assumption) ?_
  try simp only [Act.put, List.setIfInBounds_toArray, List.set_cons_zero, List.set_cons_succ]
  refine wpAnyH_take (i := 14) (oi := _) (v := ?_) rfl (by kernel_rfl) (by kernel_rfl) (by kernel_rfl) (fun _ _ _ h => h) (Or.inl ⟨by rfl, ?_⟩) (by assumption) ?_
  rotate_left
  · intro W hSw; (try dsimp only at hSw); go_simp; (try with_reducible rfl)
  try simp only [Act.put, List.setIfInBounds_toArray, List.set_cons_zero, List.set_cons_succ]
  refine wpAnyH_ready (rs := [15]) (by kernel_rfl) (by simp) ?_
  refine AllReadyH.cons (o := _) rfl (fun K hK => ?_) AllReadyH.nil
  go_simp
  go_at_call 43; (with_reducible refine (whenF_any _ 3 _).mono ?_); rintro en w4 ⟨fn2, cp2, rfl, k2, hb⟩; have hb4 := (unhide HB3).trans (hb.mono (unhide HB3).size); obtain ⟨f1, f2, f3, f4⟩ := unhide HSF _ hb4; have HB4 := hide hb4; have HK2 := hide k2; have HK1' := hide ((unhide HK1).after hb); clear hb hb4 k2
  try go_wp2_with fail
  refine hK.out _ _ ?_ (fun hHeld => ?_)
  · first | exact ⟨f1, f2, f3, f4⟩ | exact unhide HAL _ | go_keep
  clear hK K
  try simp only [Act.put, List.setIfInBounds_toArray, List.set_cons_zero, List.set_cons_succ]
  refine wpAnyH_ready (rs := [17]) (by kernel_rfl) (by simp) ?_
  refine AllReadyH.cons (o := _) rfl (fun K hK => ?_) AllReadyH.nil
  go_simp
  go_at_call 43; (with_reducible refine (whenF_any _ 5 _).mono ?_); rintro en w5 ⟨fn3, cp3, rfl, k3, hb⟩; have hb5 := (unhide HB4).trans (hb.mono (unhide HB4).size); obtain ⟨f1, f2, f3, f4⟩ := unhide HSF _ hb5; have HB5 := hide hb5; have HK3 := hide k3; have HK1'' := hide ((unhide HK1').after hb); have HK2' := hide ((unhide HK2).after hb); clear hb hb5 k3
  try go_wp2_with fail
  refine hK.out _ _ ?_ (fun hHeld => ?_)
  · first | exact ⟨f1, f2, f3, f4⟩ | exact unhide HAL _ | go_keep
  clear hK K
  try simp only [Act.put, List.setIfInBounds_toArray, List.set_cons_zero, List.set_cons_succ]
  refine wpAnyH_take (i := 22) (oi := _) (v := ?_) rfl (by kernel_rfl) (by kernel_rfl) (by kernel_rfl) (fun _ _ _ h => h) (Or.inl ⟨by rfl, ?_⟩) (by assumption) ?_
  rotate_left
  · intro W hSw; (try dsimp only at hSw); go_simp; (try with_reducible rfl)
  try simp only [Act.put, List.setIfInBounds_toArray, List.set_cons_zero, List.set_cons_succ]
  refine wpAnyH_take (i := 23) (oi := _) (v := ?_) rfl (by kernel_rfl) (by kernel_rfl) (by kernel_rfl) (fun _ _ _ h => h) (Or.inl ⟨by rfl, ?_⟩) (by assumption) ?_
  rotate_left
  · intro W hSw; (try dsimp only at hSw); go_simp; (try with_reducible rfl)
  try simp only [Act.put, List.setIfInBounds_toArray, List.set_cons_zero, List.set_cons_succ]
  refine wpAnyH_ready (rs := [24]) (by kernel_rfl) (by simp) ?_
  refine AllReadyH.cons (o := _) rfl (fun K hK => ?_) AllReadyH.nil
  go_simp
  go_at_call 43; (with_reducible refine (whenF_any _ 7 _).mono ?_); rintro en w6 ⟨fn4, cp4, rfl, k4, hb⟩; have hb6 := (unhide HB5).trans (hb.mono (unhide HB5).size); obtain ⟨f1, f2, f3, f4⟩ := unhide HSF _ hb6; have HAL := hide (fun o => unhide HSF (w6.alloc o) (hb6.alloc hb6.size o)); have HB6 := hide hb6; have HK4 := hide k4; have HK1a := hide ((unhide HK1'').after hb); have HK2a := hide ((unhide HK2').after hb); have HK3a := hide ((unhide HK3).after hb); have HFI := hide (first5_any w6 _ _ _ _ _ _ _ _ _ _ _ _ _ _ _ (unhide HK1a) (unhide HK2a) (unhide HK3a) k4 (unhide HLAST w6 (unhide HBW0 |>.trans (hb6.mono (unhide HBW0).size)) hb6)); clear hb hb6 k4
  try go_wp2_with fail
  refine hK.out _ _ ?_ (fun hHeld => ?_)
  · first | exact ⟨f1, f2, f3, f4⟩ | exact unhide HAL _ | go_keep
  clear hK K
  try simp only [Act.put, List.setIfInBounds_toArray, List.set_cons_zero, List.set_cons_succ]
  refine wpAnyH_ready (rs := [26]) (by kernel_rfl) (by simp) ?_
  refine AllReadyH.cons (o := _) rfl (fun K hK => ?_) AllReadyH.nil
  go_simp
  skip
  try go_wp2_with fail
  refine hK.out _ _ ?_ (fun hHeld => ?_)
  · first | exact ⟨f1, f2, f3, f4⟩ | exact unhide HAL _ | go_keep
  clear hK K
  try simp only [Act.put, List.setIfInBounds_toArray, List.set_cons_zero, List.set_cons_succ]
  refine wpAnyH_ready (rs := [27]) (by kernel_rfl) (by simp) ?_
  refine AllReadyH.cons (o := _) rfl (fun K hK => ?_) AllReadyH.nil
  go_simp
  go_at_call 45; (with_reducible refine (unhide HFI).mono ?_); rintro en w8 ⟨rfl, hb⟩; have hb8 := (unhide HB6).trans (hb.mono (unhide HB6).size); obtain ⟨f1, f2, f3, f4⟩ := unhide HSF _ hb8; have HB8 := hide hb8; clear hb hb8
  try go_wp2_with fail
  refine hK.out _ _ ?_ (fun hHeld => ?_)
  · first | exact ⟨f1, f2, f3, f4⟩ | exact unhide HAL _ | go_keep
  clear hK K
  try simp only [Act.put, List.setIfInBounds_toArray, List.set_cons_zero, List.set_cons_succ]
  refine wpAnyH_take (i := 28) (oi := _) (v := ?_) rfl (by kernel_rfl) (by kernel_rfl) (by kernel_rfl) (fun _ _ _ h => h) (Or.inl ⟨by rfl, ?_⟩) (by assumption) ?_
  rotate_left
  · intro W hSw; (try dsimp only at hSw); go_simp; (try with_reducible rfl)
  try simp only [Act.put, List.setIfInBounds_toArray, List.set_cons_zero, List.set_cons_succ]
  refine wpAnyH_done (by kernel_rfl) ?_ _
  refine NoPanic.normal ?_
  rw [← unhide HE]
  have her0 : er ≠ 0 := by
    rw [unhide HE]
    cases o1 <;> simp [firstE]
  have hbb := (unhide HBW0).trans ((unhide HB8).mono (unhide HBW0).size)
  have hfin := (unhide HBB).after hbb
  have hgr := grown_of_below (row := some m) hbb
  have HFIN := hide hfin
  have HGR := hide hgr
  clear hbb hfin hgr f1 f2 f3 f4
  have hne : (er != 0) = true := by simpa using her0
  go_wp2_with fail
  go_ret
  refine ⟨rfl, ?_, unhide HGR⟩
  try rw [if_neg her0]
  exact ⟨(unhide HFIN).1, (unhide HFIN).2.mono (by omega)⟩

set_option maxHeartbeats 8000000 in
set_option maxRecDepth 100000 in
theorem Enter_out3 (p m n : Nat) (lim d day : Int) (s : ByteArray) (bs : List Bx) (w : World) (hs : s.size ≤ maxLen) (hB : BondAt w p lim m n bs) (hn : n ≤ 4000) (hpm : p ≠ m) (hok : BsOk bs) (hia : inA d = true) (t1 : decide (day < 0) = false) (t2 : decide (1048576 < day) = true)  :
    Calls Try.prog 24 #[.pointer (some ⟨p, 0, none⟩), .string s, .int .i64 d, .int .i64 day] w fun e w' => e = .returned (.int .i64 (enterE lim bs s d day)) ∧
      BondAt w' p lim m (n + 1) (if enterE lim bs s d day = 0 then bs ++ [newBox s d day] else bs) ∧ w.grownBy w' (some m) := by
  have hW := hB.1
  have hM := hB.2
  obtain ⟨z, hz, hlen⟩ := hM.len (t := 94) (e := 93) Try.underlying94 3
  have hml := hM.lt
  have hpl := hW.lt
  have HNM := hide (fun W => name_any s W hs)
  -- the world ahead of the lookup
  have hb0 := ((Below.refl w.heap.size w).alloc (Nat.le_refl _) (.cells #[.pointer (some ⟨p, 0, none⟩)] 39)).alloc (by simp) (.cells #[.int .i64 d] 2)
  obtain ⟨a1, a2, a3, hax, hlook⟩ := look_box ((hM.alloc (.cells #[.pointer (some ⟨p, 0, none⟩)] 39)).alloc (.cells #[.int .i64 d] 2)) s hs
  have cB := ((hW.alloc (.cells #[.pointer (some ⟨p, 0, none⟩)] 39)).alloc (.cells #[.int .i64 d] 2)).cells
  obtain ⟨kn, hkn⟩ : ∃ b, b = known bs s := ⟨_, rfl⟩
  have hk' : (bs.find? (fun x => decide (x.name = s))).isSome = kn := hkn.symm
  rw [hk'] at hlook
  obtain ⟨o1, ho1⟩ : ∃ b, b = okName s := ⟨_, rfl⟩
  rw [← ho1] at HNM
  obtain ⟨er, her⟩ : ∃ e, e = enterE lim bs s d day := ⟨_, rfl⟩
  rw [← her]
  have HE : Hid (er = firstE [(!o1, 1), (rngB d day, 3), (kn, 5), (false, 7), (overB lim bs d, 10)]) := by rw [her, ho1, hkn]; exact rfl
  have HKN := hide hkn
  clear her
  have HBB := hide hB
  have HOK := hide hok
  have HLEN := hide hlen
  have HB0 := hide hb0
  clear ho1 hkn hax hB hok hW hM hk' hb0
  go_enter Try.func24, Try.ntmps24
  go_wp2_with fail
  have hc1 := ((Whole.made w 39 #[.pointer (some ⟨p, 0, none⟩)]).alloc (.cells #[.int .i64 d] 2)).alloc (.cells #[.int .i64 a1, .int .i64 a2, .int .i64 a3] 93)
  have hc2 := (Whole.made_at (w.alloc (.cells #[.pointer (some ⟨p, 0, none⟩)] 39)) 2 #[.int .i64 d] (w.heap.size + 1) (by simp)).alloc (.cells #[.int .i64 a1, .int .i64 a2, .int .i64 a3] 93)
  have hb0 := (unhide HB0).alloc (unhide HB0).size (.cells #[.int .i64 a1, .int .i64 a2, .int .i64 a3] 93)
  have hz0 : w.heap.size + 1 < (((w.alloc (.cells #[.pointer (some ⟨p, 0, none⟩)] 39)).alloc (.cells #[.int .i64 d] 2)).alloc (.cells #[.int .i64 a1, .int .i64 a2, .int .i64 a3] 93)).heap.size := by simp
  generalize ((w.alloc (.cells #[.pointer (some ⟨p, 0, none⟩)] 39)).alloc (.cells #[.int .i64 d] 2)).alloc (.cells #[.int .i64 a1, .int .i64 a2, .int .i64 a3] 93) = W0 at *
  clear cB hlook hlen
  have hsf : ∀ W, Below W0.heap.size W0 W → W.cell? ⟨w.heap.size, 0, none⟩ = some (.pointer (some ⟨p, 0, none⟩)) ∧ W.cell? ⟨w.heap.size + 1, 0, none⟩ = some (.int .i64 d) ∧ W.cell? ⟨p, 1, none⟩ = some (.map (some m)) ∧
      (Builtin.len_ #[94] 3 #[.map (some m)]).run Try.prog W = .ok (.int .i64 (z : Int)) W := by
    intro W hW
    refine ⟨(hc1.after hW).cells 0, (hc2.after hW).cells 0, ((unhide HBB).1.after (hb0.trans (hW.mono hb0.size))).cells 1, unhide HLEN W ((hb0.trans (hW.mono hb0.size)).block m hml)⟩
  obtain ⟨f1, f2, f3, f4⟩ := hsf W0.drew (Below.refl _ _).drew
  have hlast : ∀ W, Below w.heap.size w W → Below W0.heap.size W0 W → Cond W (.func (.func 46) #[] #[.pointer (some ⟨w.heap.size, 0, none⟩), .pointer (some ⟨w.heap.size + 1, 0, none⟩)]) (overB lim bs d) 10 := by
    intro W hW hW0
    refine ⟨_, _, rfl, fun W' => enters_of Try.func46 (by kernel_rfl) rfl _ _, fun W' hW' => ?_⟩
    have e1 := (hc1.after hW0).after hW'
    have e2 := (hc2.after hW0).after hW'
    exact Enter1_any _ _ p m n lim d bs W' (e1.cells 0) (e2.cells 0) e1.lt e2.lt (((unhide HBB).after hW).after hW') (unhide HOK)
  have HLAST := hide hlast
  clear hlast
  have HSF := hide hsf
  have HC1 := hide hc1; have HC2 := hide hc2; have HBW0 := hide hb0
  clear hsf hc1 hc2 hb0 hz0 HB0 HLEN
  have HAM := hide (fun W => amount_any d W)
  have hrg : rngB d day = true := (by unfold rngB; rw [hia, t1, t2]; rfl)
  rw [hrg] at HE
  rw [hia] at HAM
  clear hia
  have hfl : decide ((4096 : Int) ≤ (z : Int)) = false := by rw [decide_eq_false_iff_not]; omega
  clear hrg
  refine wp_region_noPanic ?_
  refine wp_region_held_drew (S := (fun w' => w'.cell? ⟨w.heap.size, 0, none⟩ = some (.pointer (some ⟨p, 0, none⟩)) ∧ w'.cell? ⟨w.heap.size + 1, 0, none⟩ = some (.int .i64 d) ∧ w'.cell? ⟨p, 1, none⟩ = some (.map (some m)) ∧ (Builtin.len_ #[94] 3 #[.map (some m)]).run Try.prog w' = .ok (.int .i64 (z : Int)) w')) (by kernel_rfl) ?_ (fun hHeld => ?_)
  · first | exact ⟨f1, f2, f3, f4⟩ | exact unhide HAL _ | go_keep
  refine wpAnyH_take (i := 0) (oi := _) (v := ?_) rfl (by kernel_rfl) (by kernel_rfl) (by kernel_rfl) (fun _ _ _ h => h) (Or.inl ⟨by rfl, ?_⟩) (by assumption) ?_
  rotate_left
  · intro W hSw; (try dsimp only at hSw); go_simp; (try with_reducible rfl)
  try simp only [Act.put, List.setIfInBounds_toArray, List.set_cons_zero, List.set_cons_succ]
  refine wpAnyH_take (i := 4) (oi := _) (v := ?_) rfl (by kernel_rfl) (by kernel_rfl) (by kernel_rfl) (fun _ _ _ h => h) (Or.inl ⟨by rfl, ?_⟩) (by assumption) ?_
  rotate_left
  · intro W hSw; (try dsimp only at hSw); go_simp; (try with_reducible rfl)
  try simp only [Act.put, List.setIfInBounds_toArray, List.set_cons_zero, List.set_cons_succ]
  refine wpAnyH_take (i := 16) (oi := _) (v := ?_) rfl (by kernel_rfl) (by kernel_rfl) (by kernel_rfl) (fun _ _ _ h => h) (Or.inl ⟨by rfl, ?_⟩) (by assumption) ?_
  rotate_left
  · intro W hSw; (try dsimp only at hSw); go_simp; (try with_reducible rfl)
  try simp only [Act.put, List.setIfInBounds_toArray, List.set_cons_zero, List.set_cons_succ]
  refine wpAnyH_take (i := 18) (oi := _) (v := ?_) rfl (by kernel_rfl) (by kernel_rfl) (by kernel_rfl) (fun _ _ _ h => h) (Or.inl ⟨by rfl, ?_⟩) (by assumption) ?_
  rotate_left
  · intro W hSw; (try dsimp only at hSw); go_simp; (try with_reducible rfl)
  try simp only [Act.put, List.setIfInBounds_toArray, List.set_cons_zero, List.set_cons_succ]
  refine wpAnyH_take (i := 19) (oi := _) (v := ?_) rfl (by kernel_rfl) (by kernel_rfl) (by kernel_rfl) (fun _ _ _ h => h) (Or.inl ⟨by rfl, ?_⟩) (by assumption) ?_
  rotate_left
  · intro W hSw; (try dsimp only at hSw); go_simp; (try with_reducible rfl)
  try simp only [Act.put, List.setIfInBounds_toArray, List.set_cons_zero, List.set_cons_succ]
  refine wpAnyH_take (i := 20) (oi := _) (v := ?_) rfl (by kernel_rfl) (by kernel_rfl) (by kernel_rfl) (fun _ _ _ h => h) (Or.inl ⟨by rfl, ?_⟩) (by assumption) ?_
  rotate_left
  · intro W hSw; (try dsimp only at hSw); go_simp; (try with_reducible rfl)
  try simp only [Act.put, List.setIfInBounds_toArray, List.set_cons_zero, List.set_cons_succ]
  refine wpAnyH_take (i := 21) (oi := _) (v := ?_) rfl (by kernel_rfl) (by kernel_rfl) (by kernel_rfl) (fun _ _ _ h => h) (Or.inl ⟨by rfl, ?_⟩) (by assumption) ?_
  rotate_left
  · intro W hSw; (try dsimp only at hSw); go_simp; (try with_reducible rfl)
  try simp only [Act.put, List.setIfInBounds_toArray, List.set_cons_zero, List.set_cons_succ]
  refine wpAnyH_take (i := 25) (oi := _) (v := ?_) rfl (by kernel_rfl) (by kernel_rfl) (by kernel_rfl) (fun _ _ _ h => h) (Or.inl ⟨by rfl, ?_⟩) (by assumption) ?_
  rotate_left
  · intro W hSw; (try dsimp only at hSw); go_simp; (try with_reducible rfl)
  try simp only [Act.put, List.setIfInBounds_toArray, List.set_cons_zero, List.set_cons_succ]
  refine wpAnyH_ready (rs := [1]) (by kernel_rfl) (by simp) ?_
  refine AllReadyH.cons (o := _) rfl (fun K hK => ?_) AllReadyH.nil
  go_simp
  go_at_call 30; (with_reducible refine (unhide HNM _).mono ?_); rintro en w2 ⟨rfl, hb⟩; have hb2 := ((Below.refl W0.heap.size W0).drew).trans hb; obtain ⟨f1, f2, f3, f4⟩ := unhide HSF _ hb2; have HB2 := hide hb2; clear hb hb2
  try go_wp2_with fail
  refine hK.out _ _ ?_ (fun hHeld => ?_)
  · first | exact ⟨f1, f2, f3, f4⟩ | exact unhide HAL _ | go_keep
  clear hK K
  try simp only [Act.put, List.setIfInBounds_toArray, List.set_cons_zero, List.set_cons_succ]
  refine wpAnyH_take (i := 2) (oi := _) (v := ?_) rfl (by kernel_rfl) (by kernel_rfl) (by kernel_rfl) (fun _ _ _ h => h) (Or.inl ⟨by rfl, ?_⟩) (by assumption) ?_
  rotate_left
  · intro W hSw; (try dsimp only at hSw); go_simp; (try with_reducible rfl)
  try simp only [Act.put, List.setIfInBounds_toArray, List.set_cons_zero, List.set_cons_succ]
  refine wpAnyH_ready (rs := [3]) (by kernel_rfl) (by simp) ?_
  refine AllReadyH.cons (o := _) rfl (fun K hK => ?_) AllReadyH.nil
  go_simp
  go_at_call 43; (with_reducible refine (whenF_any _ 1 _).mono ?_); rintro en w3 ⟨fn1, cp1, rfl, k1, hb⟩; have hb3 := (unhide HB2).trans (hb.mono (unhide HB2).size); obtain ⟨f1, f2, f3, f4⟩ := unhide HSF _ hb3; have HB3 := hide hb3; have HK1 := hide k1; clear hb hb3 k1
  try go_wp2_with fail
  refine hK.out _ _ ?_ (fun hHeld => ?_)
  · first | exact ⟨f1, f2, f3, f4⟩ | exact unhide HAL _ | go_keep
  clear hK K
  try simp only [Act.put, List.setIfInBounds_toArray, List.set_cons_zero, List.set_cons_succ]
  refine wpAnyH_ready (rs := [5]) (by kernel_rfl) (by simp) ?_
  refine AllReadyH.cons (o := _) rfl (fun K hK => ?_) AllReadyH.nil
  go_simp
  go_at_call 34; (with_reducible refine (unhide HAM _).mono ?_); rintro en w4 ⟨rfl, rfl⟩
  try go_wp2_with fail
  refine hK.out _ _ ?_ (fun hHeld => ?_)
  · first | exact ⟨f1, f2, f3, f4⟩ | exact unhide HAL _ | go_keep
  clear hK K
  try simp only [Act.put, List.setIfInBounds_toArray, List.set_cons_zero, List.set_cons_succ]
  refine wpAnyH_take (i := 6) (oi := _) (v := ?_) rfl (by kernel_rfl) (by kernel_rfl) (by kernel_rfl) (fun _ _ _ h => h) (Or.inl ⟨by rfl, ?_⟩) (by assumption) ?_
  rotate_left
  · intro W hSw; (try dsimp only at hSw); go_simp; (try with_reducible rfl)
  try simp only [Act.put, List.setIfInBounds_toArray, List.set_cons_zero, List.set_cons_succ]
  refine wpAnyH_take (i := 7) (oi := _) (v := ?_) rfl (by kernel_rfl) (by kernel_rfl) (by kernel_rfl) (fun _ _ _ h => h) (Or.inl ⟨by rfl, ?_⟩) (by assumption) ?_
  rotate_left
  · intro W hSw; (try dsimp only at hSw); go_simp; (try with_reducible rfl)
  try simp only [Act.put, List.setIfInBounds_toArray, List.set_cons_zero, List.set_cons_succ]
  refine wpAnyH_take (i := 8) (oi := _) (v := ?_) rfl (by kernel_rfl) (by kernel_rfl) (by kernel_rfl) (fun _ _ _ h => h) (Or.inl ⟨by rfl, ?_⟩) (by assumption) ?_
  rotate_left
  · intro W hSw; (try dsimp only at hSw); go_simp; (try with_reducible rfl)
  try simp only [Act.put, List.setIfInBounds_toArray, List.set_cons_zero, List.set_cons_succ]
  refine wpAnyH_take (i := 9) (oi := _) (v := ?_) rfl (by kernel_rfl) (by kernel_rfl) (by kernel_rfl) (fun _ _ _ h => h) (Or.inl ⟨by rfl, ?_⟩) (by assumption) ?_
  rotate_left
  · intro W hSw; (try dsimp only at hSw); go_simp; (try with_reducible rfl)
  try simp only [Act.put, List.setIfInBounds_toArray, List.set_cons_zero, List.set_cons_succ]
  refine wpAnyH_take (i := 10) (oi := _) (v := ?_) rfl (by kernel_rfl) (by kernel_rfl) (by kernel_rfl) (fun _ _ _ h => h) (Or.inl ⟨by rfl, ?_⟩) (by assumption) ?_
  rotate_left
  · intro W hSw; (try dsimp only at hSw); go_simp; (try with_reducible rfl)
  try simp only [Act.put, List.setIfInBounds_toArray, List.set_cons_zero, List.set_cons_succ]
  refine wpAnyH_take (i := 11) (oi := _) (v := ?_) rfl (by kernel_rfl) (by kernel_rfl) (by kernel_rfl) (fun _ _ _ h => h) (Or.inl ⟨by rfl, ?_⟩) (by assumption) ?_
  rotate_left
  · intro W hSw; (try dsimp only at hSw); go_simp; (try with_reducible rfl)
  try simp only [Act.put, List.setIfInBounds_toArray, List.set_cons_zero, List.set_cons_succ]
  refine wpAnyH_take (i := 12) (oi := _) (v := ?_) rfl (by kernel_rfl) (by kernel_rfl) (by kernel_rfl) (fun _ _ _ h => h) (Or.inl ⟨by rfl, ?_⟩) (by assumption) ?_
  rotate_left
  · intro W hSw; (try dsimp only at hSw); go_simp; (try with_reducible rfl)
  try simp only [Act.put, List.setIfInBounds_toArray, List.set_cons_zero, List.set_cons_succ]
  refine wpAnyH_take (i := 13) (oi := _) (v := ?_) rfl (by kernel_rfl) (by kernel_rfl) (by kernel_rfl) (fun _ _ _ h => h) (Or.inl ⟨by rfl, ?_⟩) (by assumption) ?_
  rotate_left
  · intro W hSw; (try dsimp only at hSw); go_simp; (try with_reducible rfl)
  try simp only [Act.put, List.setIfInBounds_toArray, List.set_cons_zero, List.set_cons_succ]
  refine wpAnyH_take (i := 14) (oi := _) (v := ?_) rfl (by kernel_rfl) (by kernel_rfl) (by kernel_rfl) (fun _ _ _ h => h) (Or.inl ⟨by rfl, ?_⟩) (by assumption) ?_
  rotate_left
  · intro W hSw; (try dsimp only at hSw); go_simp; (try with_reducible rfl)
  try simp only [Act.put, List.setIfInBounds_toArray, List.set_cons_zero, List.set_cons_succ]
  refine wpAnyH_ready (rs := [15]) (by kernel_rfl) (by simp) ?_
  refine AllReadyH.cons (o := _) rfl (fun K hK => ?_) AllReadyH.nil
  go_simp
  go_at_call 43; (with_reducible refine (whenF_any _ 3 _).mono ?_); rintro en w4 ⟨fn2, cp2, rfl, k2, hb⟩; have hb4 := (unhide HB3).trans (hb.mono (unhide HB3).size); obtain ⟨f1, f2, f3, f4⟩ := unhide HSF _ hb4; have HB4 := hide hb4; have HK2 := hide k2; have HK1' := hide ((unhide HK1).after hb); clear hb hb4 k2
  try go_wp2_with fail
  refine hK.out _ _ ?_ (fun hHeld => ?_)
  · first | exact ⟨f1, f2, f3, f4⟩ | exact unhide HAL _ | go_keep
  clear hK K
  try simp only [Act.put, List.setIfInBounds_toArray, List.set_cons_zero, List.set_cons_succ]
  refine wpAnyH_ready (rs := [17]) (by kernel_rfl) (by simp) ?_
  refine AllReadyH.cons (o := _) rfl (fun K hK => ?_) AllReadyH.nil
  go_simp
  go_at_call 43; (with_reducible refine (whenF_any _ 5 _).mono ?_); rintro en w5 ⟨fn3, cp3, rfl, k3, hb⟩; have hb5 := (unhide HB4).trans (hb.mono (unhide HB4).size); obtain ⟨f1, f2, f3, f4⟩ := unhide HSF _ hb5; have HB5 := hide hb5; have HK3 := hide k3; have HK1'' := hide ((unhide HK1').after hb); have HK2' := hide ((unhide HK2).after hb); clear hb hb5 k3
  try go_wp2_with fail
  refine hK.out _ _ ?_ (fun hHeld => ?_)
  · first | exact ⟨f1, f2, f3, f4⟩ | exact unhide HAL _ | go_keep
  clear hK K
  try simp only [Act.put, List.setIfInBounds_toArray, List.set_cons_zero, List.set_cons_succ]
  refine wpAnyH_take (i := 22) (oi := _) (v := ?_) rfl (by kernel_rfl) (by kernel_rfl) (by kernel_rfl) (fun _ _ _ h => h) (Or.inl ⟨by rfl, ?_⟩) (by assumption) ?_
  rotate_left
  · intro W hSw; (try dsimp only at hSw); go_simp; (try with_reducible rfl)
  try simp only [Act.put, List.setIfInBounds_toArray, List.set_cons_zero, List.set_cons_succ]
  refine wpAnyH_take (i := 23) (oi := _) (v := ?_) rfl (by kernel_rfl) (by kernel_rfl) (by kernel_rfl) (fun _ _ _ h => h) (Or.inl ⟨by rfl, ?_⟩) (by assumption) ?_
  rotate_left
  · intro W hSw; (try dsimp only at hSw); go_simp; (try with_reducible rfl)
  try simp only [Act.put, List.setIfInBounds_toArray, List.set_cons_zero, List.set_cons_succ]
  refine wpAnyH_ready (rs := [24]) (by kernel_rfl) (by simp) ?_
  refine AllReadyH.cons (o := _) rfl (fun K hK => ?_) AllReadyH.nil
  go_simp
  go_at_call 43; (with_reducible refine (whenF_any _ 7 _).mono ?_); rintro en w6 ⟨fn4, cp4, rfl, k4, hb⟩; have hb6 := (unhide HB5).trans (hb.mono (unhide HB5).size); obtain ⟨f1, f2, f3, f4⟩ := unhide HSF _ hb6; have HAL := hide (fun o => unhide HSF (w6.alloc o) (hb6.alloc hb6.size o)); have HB6 := hide hb6; have HK4 := hide k4; have HK1a := hide ((unhide HK1'').after hb); have HK2a := hide ((unhide HK2').after hb); have HK3a := hide ((unhide HK3).after hb); have HFI := hide (first5_any w6 _ _ _ _ _ _ _ _ _ _ _ _ _ _ _ (unhide HK1a) (unhide HK2a) (unhide HK3a) k4 (unhide HLAST w6 (unhide HBW0 |>.trans (hb6.mono (unhide HBW0).size)) hb6)); clear hb hb6 k4
  try go_wp2_with fail
  refine hK.out _ _ ?_ (fun hHeld => ?_)
  · first | exact ⟨f1, f2, f3, f4⟩ | exact unhide HAL _ | go_keep
  clear hK K
  try simp only [Act.put, List.setIfInBounds_toArray, List.set_cons_zero, List.set_cons_succ]
  refine wpAnyH_ready (rs := [26]) (by kernel_rfl) (by simp) ?_
  refine AllReadyH.cons (o := _) rfl (fun K hK => ?_) AllReadyH.nil
  go_simp
  skip
  try go_wp2_with fail
  refine hK.out _ _ ?_ (fun hHeld => ?_)
  · first | exact ⟨f1, f2, f3, f4⟩ | exact unhide HAL _ | go_keep
  clear hK K
  try simp only [Act.put, List.setIfInBounds_toArray, List.set_cons_zero, List.set_cons_succ]
  refine wpAnyH_ready (rs := [27]) (by kernel_rfl) (by simp) ?_
  refine AllReadyH.cons (o := _) rfl (fun K hK => ?_) AllReadyH.nil
  go_simp
  go_at_call 45; (with_reducible refine (unhide HFI).mono ?_); rintro en w8 ⟨rfl, hb⟩; have hb8 := (unhide HB6).trans (hb.mono (unhide HB6).size); obtain ⟨f1, f2, f3, f4⟩ := unhide HSF _ hb8; have HB8 := hide hb8; clear hb hb8
  try go_wp2_with fail
  refine hK.out _ _ ?_ (fun hHeld => ?_)
  · first | exact ⟨f1, f2, f3, f4⟩ | exact unhide HAL _ | go_keep
  clear hK K
  try simp only [Act.put, List.setIfInBounds_toArray, List.set_cons_zero, List.set_cons_succ]
  refine wpAnyH_take (i := 28) (oi := _) (v := ?_) rfl (by kernel_rfl) (by kernel_rfl) (by kernel_rfl) (fun _ _ _ h => h) (Or.inl ⟨by rfl, ?_⟩) (by assumption) ?_
  rotate_left
  · intro W hSw; (try dsimp only at hSw); go_simp; (try with_reducible rfl)
  try simp only [Act.put, List.setIfInBounds_toArray, List.set_cons_zero, List.set_cons_succ]
  refine wpAnyH_done (by kernel_rfl) ?_ _
  refine NoPanic.normal ?_
  rw [← unhide HE]
  have her0 : er ≠ 0 := by
    rw [unhide HE]
    cases o1 <;> simp [firstE]
  have hbb := (unhide HBW0).trans ((unhide HB8).mono (unhide HBW0).size)
  have hfin := (unhide HBB).after hbb
  have hgr := grown_of_below (row := some m) hbb
  have HFIN := hide hfin
  have HGR := hide hgr
  clear hbb hfin hgr f1 f2 f3 f4
  have hne : (er != 0) = true := by simpa using her0
  go_wp2_with fail
  go_ret
  refine ⟨rfl, ?_, unhide HGR⟩
  try rw [if_neg her0]
  exact ⟨(unhide HFIN).1, (unhide HFIN).2.mono (by omega)⟩

/-- Enter, whatever is asked -/
theorem Enter_any (p m n : Nat) (lim d day : Int) (s : ByteArray) (bs : List Bx) (w : World) (hs : s.size ≤ maxLen) (hB : BondAt w p lim m n bs) (hn : n ≤ 4000) (hpm : p ≠ m) (hok : BsOk bs) :
    Calls Try.prog 24 #[.pointer (some ⟨p, 0, none⟩), .string s, .int .i64 d, .int .i64 day] w fun e w' => e = .returned (.int .i64 (enterE lim bs s d day)) ∧
      BondAt w' p lim m (n + 1) (if enterE lim bs s d day = 0 then bs ++ [newBox s d day] else bs) ∧ w.grownBy w' (some m) := by
  cases h0 : inA d
  · exact Enter_out1 p m n lim d day s bs w hs hB hn hpm hok h0
  · cases h1 : decide (day < 0)
    · cases h2 : decide (1048576 < day)
      · exact Enter_in p m n lim d day s bs w hs hB hn hpm hok (by unfold rngB; rw [h0, h1, h2]; rfl)
      · exact Enter_out3 p m n lim d day s bs w hs hB hn hpm hok h0 h1 h2
    · exact Enter_out2 p m n lim d day s bs w hs hB hn hpm hok h0 h1

end Go.Proofs.Ytgalpdjmmpjddaa
