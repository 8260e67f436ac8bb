/- Walks: the law TrimParts. -/
import Derived.Test.YtcdjljcmhbipiaaAwake14
import Derived.Test.YtcdjljcmhbipiaaFitA
import Derived.Test.YtcdjljcmhbipiaaOpenTrim
import Derived.Test.YtcdjljcmhbipiaaAppA
import Derived.Test.YtcdjljcmhbipiaaTrimQ
import Derived.Deep.RegionHeld3
namespace Go.Proofs.Ytcdjljcmhbipiaa
open Go.RowKit

theorem LoadsIn.take {w : World} {B : Nat} {A : Option Addr} {xs : List Ld} (h : LoadsIn w B A xs) (k : Nat) : LoadsIn w B A (xs.take k) := fun hne => by
  obtain ⟨b, off, e, hb, hc⟩ := h (by intro e; subst e; simp at hne)
  exact ⟨b, off, e, hb, fun i x hx => hc i x (by rw [List.getElem?_take] at hx; split at hx; exact hx; cases hx)⟩

theorem LoadsIn.cut {w : World} {B : Nat} {A : Option Addr} {xs : List Ld} {k cap : Nat} (h : LoadsIn w B A xs) (hc : xs.length ≤ cap) : LoadsIn w B (if cap = k then A else Option.map (fun x => x.add (k * 7)) A) (xs.drop k) := fun hne => by
  have hk : k < xs.length := by
    rcases Nat.lt_or_ge k xs.length with h1 | h1
    · exact h1
    · exact absurd (List.drop_eq_nil_of_le h1) hne
  obtain ⟨b, off, rfl, hb, hcell⟩ := h (by intro e; subst e; simp at hk)
  rw [if_neg (by omega)]
  refine ⟨b, off + k * 7, ?_, hb, fun i x hx => ?_⟩
  · simp only [Option.map_some, Addr.add]
    split
    · rename_i h0; rw [h0]; rfl
    · rfl
  · have e : off + k * 7 + i * 7 = off + (k + i) * 7 := by omega
    rw [e]
    exact hcell (k + i) x (by rw [← hx, List.getElem?_drop])

theorem flat_len (xs : List Ld) : (xs.flatMap Ld.cells).length = xs.length * 7 := by
  induction xs with
  | nil => rfl
  | cons x r ih => rw [List.flatMap_cons, List.length_append, ih]; show 7 + _ = _; simp; omega
theorem cells_flat (xs : List Ld) (i : Nat) (u : Value) (h : (xs.flatMap Ld.cells)[i]? = some u) : ∃ x, xs[i / 7]? = some x ∧ x.cells[i % 7]? = some u := by
  have hi : i < xs.length * 7 := by rw [← flat_len]; exact (List.getElem?_eq_some_iff.1 h).1
  have hk : i / 7 < xs.length := by omega
  refine ⟨xs[i / 7], List.getElem?_eq_getElem hk, ?_⟩
  have hj : i % 7 < 7 := by omega
  have hc : ∃ v, (xs[i / 7]).cells[i % 7]? = some v := ⟨_, List.getElem?_eq_getElem (by show _ < 7; exact hj)⟩
  obtain ⟨v, hv⟩ := hc
  have := flat_at xs (i / 7) (i % 7) _ v (List.getElem?_eq_getElem hk) hv
  have e : i / 7 * 7 + i % 7 = i := by omega
  rw [e, h] at this
  rw [hv, this]
theorem LoadsIn.src {w : World} {B : Nat} {A : Option Addr} {xs : List Ld} (h : LoadsIn w B A xs) : Src w 7 A xs.length (xs.flatMap Ld.cells) :=
  ⟨flat_len xs, fun hm => by
    obtain ⟨b, off, e, hb, hc⟩ := h (by intro e; subst e; simp at hm)
    refine ⟨_, e, fun j u hj => ?_⟩
    obtain ⟨x, hx, hu⟩ := cells_flat xs j u hj
    have := hc _ x hx _ _ hu
    have e2 : off + j / 7 * 7 + j % 7 = off + j := by omega
    rw [e2] at this
    simp only [Addr.add]
    split
    · rename_i h0; subst h0; exact this
    · exact this⟩
theorem info_load : (Try.prog.info? 33).map (fun i => (i.zero, i.size, i.bytes)) = some (some (.agg #[.int .i64 0, .int .i64 0, .int .i64 0, .string ⟨#[]⟩, .int .i64 0, .int .i64 0, .int .i64 0]), 7, 64) := by kernel_rfl

theorem one_flat (xs : List Ld) : ∀ u ∈ xs.flatMap Ld.cells, u.oneCell' = true := by
  intro u hu
  obtain ⟨x, _, hx⟩ := List.mem_flatMap.1 hu
  simp [Ld.cells] at hx
  rcases hx with rfl | rfl | rfl | rfl | rfl | rfl | rfl <;> rfl
theorem src_take {w : World} {B : Nat} {A : Option Addr} {xs : List Ld} {n k : Nat} (hn : n = xs.length) (hk : k ≤ n) (h : LoadsIn w B A xs) : Src w 7 A k ((xs.take k).flatMap Ld.cells) := by
  have := (h.take k).src
  rw [List.length_take, ← hn, Nat.min_eq_left hk] at this
  exact this

theorem loads_of_own {w : World} {base n : Nat} {v : Value} {xs : List Ld} (h : w.ownsRow base 33 7 v n (xs.flatMap Ld.cells)) : ∃ A c, v = .slice A n c ∧ LoadsIn w w.heap.size A xs := by
  have hl : xs.length = n := by have := h.1; rw [flat_len] at this; omega
  rcases Nat.eq_zero_or_pos n with h0 | h0
  · subst h0
    have : xs = [] := List.eq_nil_of_length_eq_zero hl
    subst this
    rcases h.2 with ⟨rfl, _⟩ | ⟨g, cap, cur, rfl, _, _, _⟩
    · exact ⟨none, 0, rfl, fun h => absurd rfl h⟩
    · exact ⟨_, cap, rfl, fun h => absurd rfl h⟩
  · obtain ⟨g, cap, rfl, _, hlt⟩ := h.form h0
    refine ⟨_, cap, rfl, loads_of_cells hlt fun j u hj => ?_⟩
    have hj' : j < n * 7 := by rw [← hl, ← flat_len]; exact (List.getElem?_eq_some_iff.1 hj).1
    rw [h.cellAt j hj', hj]

set_option maxHeartbeats 4000000 in
theorem TrimParts_any (s : Shp) (hs : s.Came) (A : Option Addr) (xs : List Ld) (c : Nat) (at' : Int) (w : World) (hl : LoadsIn w w.heap.size A xs) (hc : xs.length ≤ c) (hc' : c ≤ maxLen) (hat : I64 at') :
    Calls Try.prog 3 #[s.val, .slice A xs.length c, .int .i64 at'] w fun e w' => e = .returned (.bool true) ∧ Below w.heap.size w w' := by
  have hnm := hs.name
  obtain ⟨nm, a1, a2, a3, a4, a5, a6, a7, a8⟩ := s
  obtain ⟨sv, hsv⟩ : ∃ sv : Shp, sv = ⟨nm, a1, a2, a3, a4, a5, a6, a7, a8⟩ := ⟨_, rfl⟩
  have hv : Shp.val ⟨nm, a1, a2, a3, a4, a5, a6, a7, a8⟩ = .agg #[.string nm, .int .i64 a1, .int .i64 a2, .int .i64 a3, .int .i64 a4, .int .i64 a5, .int .i64 a6, .int .i64 a7, .int .i64 a8] := rfl
  have hsn : sv.name = nm := by rw [hsv]
  have hv' : sv.val = .agg #[.string nm, .int .i64 a1, .int .i64 a2, .int .i64 a3, .int .i64 a4, .int .i64 a5, .int .i64 a6, .int .i64 a7, .int .i64 a8] := by rw [hsv]; exact hv
  have hnm' : nm.size ≤ maxLen := hnm
  have hM : ∀ A (ys : List Ld) c (m : Nat) W, ys.length = m → LoadsIn W W.heap.size A ys → Calls Try.prog 9 #[sv.val, .slice A m c] W
      fun e w' => e = .returned (.tuple #[.int .i64 (mLong sv ys), .int .i64 (mCross sv ys), .int .i64 (mUp sv ys), .int .i64 (mWeight sv ys)]) ∧ Below W.heap.size W w' :=
    fun A ys c m W hm hl => by subst hm; exact Moments_any sv A ys c W (by rw [hsn]; exact hnm') hl
  have hF := fun c W hl => Fit_any sv A xs c W (by rw [hsn]; exact hnm') hl
  rw [hv'] at hM hF
  rw [hv]
  clear hv hv' hsv hnm hs hsn
  obtain ⟨n, hn⟩ : ∃ n, n = xs.length := ⟨_, rfl⟩
  rw [← hn] at hc hF ⊢
  have HN := Lib.hid hn; clear hn
  have HM := hide hM; clear hM
  have HF := hide hF; clear hF
  have HL := hide hl; clear hl
  unfold maxLen at hc' hnm'
  obtain ⟨ha1, ha2⟩ := hat
  have b0 := (Below.refl w.heap.size w).alloc (Nat.le_refl _) (.cells #[.string nm, .int .i64 a1, .int .i64 a2, .int .i64 a3, .int .i64 a4, .int .i64 a5, .int .i64 a6, .int .i64 a7, .int .i64 a8] 23)
  have HB := hide b0; clear b0
  go_enter Try.func3, Try.ntmps3
  go_wp2_with fail
  refine (awake_any _).mono ?_; rintro e w1 ⟨rfl, hb⟩
  have k1 := (Whole.made w 23 #[.string nm, .int .i64 a1, .int .i64 a2, .int .i64 a3, .int .i64 a4, .int .i64 a5, .int .i64 a6, .int .i64 a7, .int .i64 a8]).after hb
  have b1 := (unhide HB).trans (hb.mono (unhide HB).size)
  have hc1 := k1.cells
  have B1 := hide b1; clear b1 hb
  have K1 := hide k1; clear k1
  by_cases h1 : 60 < n
  · have h1' : decide ((60 : Int) < (n : Int)) = true := by simp; omega
    go_wp2_with fail
    go_ret
    exact ⟨rfl, unhide B1⟩
  have h1' : decide ((60 : Int) < (n : Int)) = false := by simp; omega
  by_cases h2 : 100 < nm.size
  · have h2' : decide ((100 : Int) < (nm.size : Int)) = true := by simp; omega
    go_wp2_with fail
    go_ret
    exact ⟨rfl, unhide B1⟩
  have h2' : decide ((100 : Int) < (nm.size : Int)) = false := by simp; omega
  by_cases h3 : at' < 0
  · have h3' : decide (at' < 0) = true := by simp; omega
    go_wp2_with fail
    go_ret
    exact ⟨rfl, unhide B1⟩
  have h3' : decide (at' < 0) = false := by simp; omega
  by_cases h4 : (n : Int) < at'
  · have h4' : decide ((n : Int) < at') = true := by simp; omega
    go_wp2_with fail
    go_ret
    exact ⟨rfl, unhide B1⟩
  have h4' : decide ((n : Int) < at') = false := by simp; omega
  go_wp2_with fail
  (with_reducible refine (unhide HF _ _ ((unhide HL).after (unhide B1))).mono ?_); rintro e w2 ⟨rfl, hb⟩
  have k2 := (unhide K1).after hb
  have b2 := (unhide B1).trans (hb.mono (unhide B1).size)
  have hc2 := k2.cells
  have B2 := hide b2; clear b2 hb
  have K2 := hide k2; clear k2
  cases hfit : fitB sv xs
  · go_wp2_with fail
    go_ret
    exact ⟨rfl, unhide B2⟩
  have HFit := Lib.hid hfit; clear hfit
  go_wp2_with fail
  (with_reducible refine (unhide HM _ xs _ _ _ HN.out.symm ((unhide HL).after (unhide B2))).mono ?_); rintro e w3 ⟨rfl, hb⟩
  have k3 := (unhide K2).after hb
  have b3 := (unhide B2).trans (hb.mono (unhide B2).size)
  have hc3 := k3.cells
  have B3 := hide b3; clear b3 hb
  have K3 := hide k3; clear k3
  clear hc1 hc2
  obtain ⟨k, rfl⟩ : ∃ k : Nat, at' = k := ⟨at'.toNat, by omega⟩
  have hkn : k ≤ n := by omega
  clear ha1 ha2 h3 h4 h3' h4'
  have i0 : (0 : Int) ≤ (k : Int) := by omega
  have i1 : (k : Int) ≤ (n : Int) := by omega
  have i2 : (n : Int) ≤ (c : Int) := by omega
  have i3 : (k : Int) ≤ (c : Int) := by omega
  have hlk : (xs.take k).length = k := by rw [List.length_take, ← HN.out]; omega
  have HLK := Lib.hid hlk; clear hlk
  have hl3 : LoadsIn w3.drew w3.drew.heap.size A (xs.take k) := ((unhide HL).after (unhide B3)).take k
  have HL3 := hide hl3; clear hl3
  go_wp2_with fail
  go_region_held3 (fun w' => w'.cell? ⟨w.heap.size, 0, none⟩ = some (.string nm) ∧ w'.cell? ⟨w.heap.size, 1, none⟩ = some (.int .i64 a1) ∧ w'.cell? ⟨w.heap.size, 2, none⟩ = some (.int .i64 a2) ∧ w'.cell? ⟨w.heap.size, 3, none⟩ = some (.int .i64 a3) ∧ w'.cell? ⟨w.heap.size, 4, none⟩ = some (.int .i64 a4) ∧ w'.cell? ⟨w.heap.size, 5, none⟩ = some (.int .i64 a5) ∧ w'.cell? ⟨w.heap.size, 6, none⟩ = some (.int .i64 a6) ∧ w'.cell? ⟨w.heap.size, 7, none⟩ = some (.int .i64 a7) ∧ w'.cell? ⟨w.heap.size, 8, none⟩ = some (.int .i64 a8))
    (go_keep)
    ((go_at_call 9; with_reducible refine (unhide HM _ (xs.take k) _ _ _ HLK.out (unhide HL3)).mono ?_; rintro e w4 ⟨rfl, hb⟩; have hc4 := ((unhide K3).drew.after hb).cells; have HB4 := hide hb; clear hb))
  have k4 := (unhide K3).drew.after (unhide HB4)
  have b4 := (unhide B3).drew.trans ((unhide HB4).mono (unhide B3).size)
  have hc4 := k4.cells
  have B4 := hide b4; clear b4
  have K4 := hide k4; clear k4
  clear hc3 HB4
  have hdk : (xs.drop k).length = n - k := by rw [List.length_drop, ← HN.out]
  have HDK := Lib.hid hdk; clear hdk
  have hld := fun W h => LoadsIn.cut (w := W) (B := W.heap.size) (A := A) (xs := xs) (k := k) (cap := c) h (by rw [← HN.out]; omega)
  obtain ⟨A', hA'⟩ : ∃ A', (if c = k then A else Option.map (fun x => x.add (k * 7)) A) = A' := ⟨_, rfl⟩
  rw [hA'] at hld
  have hl4 : LoadsIn w4.drew w4.drew.heap.size A' (xs.drop k) := hld w4.drew ((unhide HL).after (unhide B4).drew)
  have HLD := hide hld; clear hld
  have HL4 := hide hl4; clear hl4
  go_wp2_with fail
  go_region_held3 (fun w' => w'.cell? ⟨w.heap.size, 0, none⟩ = some (.string nm) ∧ w'.cell? ⟨w.heap.size, 1, none⟩ = some (.int .i64 a1) ∧ w'.cell? ⟨w.heap.size, 2, none⟩ = some (.int .i64 a2) ∧ w'.cell? ⟨w.heap.size, 3, none⟩ = some (.int .i64 a3) ∧ w'.cell? ⟨w.heap.size, 4, none⟩ = some (.int .i64 a4) ∧ w'.cell? ⟨w.heap.size, 5, none⟩ = some (.int .i64 a5) ∧ w'.cell? ⟨w.heap.size, 6, none⟩ = some (.int .i64 a6) ∧ w'.cell? ⟨w.heap.size, 7, none⟩ = some (.int .i64 a7) ∧ w'.cell? ⟨w.heap.size, 8, none⟩ = some (.int .i64 a8))
    (go_keep)
    ((go_at_call 9; with_reducible refine (unhide HM _ (xs.drop k) _ _ _ HDK.out (unhide HL4)).mono ?_; rintro e w5 ⟨rfl, hb⟩; have hc5 := ((unhide K4).drew.after hb).cells; have HB5 := hide hb; clear hb))
  have k5 := (unhide K4).drew.after (unhide HB5)
  have b5 := (unhide B4).drew.trans ((unhide HB5).mono (unhide B4).size)
  have hc5 := k5.cells
  have B5 := hide b5; clear b5
  have K5 := hide k5; clear k5
  clear hc4 HB5 HL4 HL3
  have own0 : (w5.drew.alloc (.cells #[] 33)).ownsRow w.heap.size 33 7 (.slice (some ⟨w5.heap.size, 0, none⟩) 0 0) 0 [] := World.ownsRow_lit (base := w.heap.size) (e := 33) (size := 7) w5.drew #[] 0 (unhide B5).size (by unfold maxLen; omega) (by simp)
  have src1 : Src (w5.drew.alloc (.cells #[] 33)) 7 A' (n - k) ((xs.drop k).flatMap Ld.cells) := by
    rw [← HDK.out]; exact ((unhide HLD) _ ((unhide HL).after (((unhide B5).drew).alloc (unhide B5).size _))).src
  obtain ⟨i0, hi, hz0, hz1, hz2⟩ := info_parts info_load
  go_wp2_with fail
  have one1 : ∀ u ∈ (xs.drop k).flatMap Ld.cells, u.oneCell' = true := one_flat _
  have one2 : ∀ u ∈ (xs.take k).flatMap Ld.cells, u.oneCell' = true := one_flat _
  have own0' := hide own0; clear own0
  have src1' := hide src1; clear src1
  go_region_held3 (fun _ => True) (trivial)
    ((first
      | (refine step_append_src _ (by rfl) (.tmp 79) (.tmp 82) 24 (by rfl) w.heap.size 33 i0 _ 7 64 Try.underlying24 hi hz0 hz1 hz2 rfl (by omega) (by rfl) (unhide own0') (by rfl) (unhide src1') one1 (by unfold maxLen; omega) (by omega) (by have := (unhide B5).size; simp; omega) ?_
         intro v6 w6 own1 hg1 hat1
         have b6 := (((unhide B5).drew).alloc (unhide B5).size (.cells #[] 33)).grown hg1 (by have := (unhide B5).size; simp; omega) (fun j hj => by simp [Value.ownBlock] at hj; subst hj; exact (unhide B5).size)
         have k6 := ((unhide K5).drew.alloc (.cells #[] 33))
         have B6 := hide b6; clear b6
         have G1 := hide (And.intro hg1 hat1); clear hg1 hat1
         have O1 := hide own1; clear own1)
      | (refine step_append_src _ (by rfl) (.tmp 83) (.tmp 86) 24 (by rfl) w.heap.size 33 i0 _ 7 64 Try.underlying24 hi hz0 hz1 hz2 rfl (by omega) (by rfl) (unhide O1) (by rfl) (src_take HN.out hkn ((unhide HL).after (unhide B6))) one2 (by unfold maxLen; omega) (by omega) (unhide B6).size ?_
         intro v7 w7 own2 hg2 hat2
         have G2 := hide (And.intro hg2 hat2); clear hg2 hat2
         have O2 := hide own2; clear own2)))
  obtain ⟨hg1, hat1⟩ := unhide G1
  obtain ⟨hg2, hat2⟩ := unhide G2
  have hsz5 := (unhide K5).lt
  have row1 : (Value.slice (some ⟨w5.heap.size, 0, none⟩) 0 0).ownBlock = some w5.heap.size := rfl
  rw [row1] at hg1 hat1
  have hv6 : v6.ownBlock = some w5.heap.size ∨ v6.ownBlock = some (w5.heap.size + 1) := by
    rcases hat1 with h | h
    · exact .inl h
    · exact .inr (by rw [h]; simp)
  have k6 : Whole w6 w.heap.size 23 _ := (hg1.block w.heap.size (by simp; omega) (by simp; omega)).trans ((unhide K5).drew.alloc (.cells #[] 33))
  have hsz6 := k6.lt
  have k7 : Whole w7 w.heap.size 23 _ := (hg2.block w.heap.size hsz6 (by rcases hv6 with h | h <;> rw [h] <;> simp <;> omega)).trans k6
  have b7 := (unhide B6).grown hg2 (unhide B6).size (fun j hj => by rcases hv6 with h | h <;> rw [h] at hj <;> cases hj <;> omega)
  have own2 := unhide O2
  rw [List.nil_append, ← List.flatMap_append] at own2
  obtain ⟨A7, c7, hv7, hl7⟩ := loads_of_own own2
  have hn7 : (xs.drop k ++ xs.take k).length = 0 + (n - k) + k := by rw [List.length_append, HDK.out, HLK.out]; omega
  have hc7 := k7.cells
  have K7 := hide k7; clear k7 k6
  have B7 := hide b7; clear b7
  have HL7 := hide hl7; clear hl7
  have HN7 := Lib.hid hn7; clear hn7
  clear own2 hg1 hg2 hat1 hat2 row1 hv6 hsz5 hsz6 G1 G2 O1 O2 hc5
  rw [hv7]
  clear hv7
  go_wp2_with fail
  have hn8 : (xs.drop k ++ xs.take k).length = n := by rw [HN7.out]; omega
  (with_reducible refine (unhide HM _ _ _ _ _ hn8 (unhide HL7)).mono ?_); rintro e w8 ⟨rfl, hb⟩
  have b8 := (unhide B7).trans (hb.mono (unhide B7).size)
  have B8 := hide b8; clear b8 hb hn8
  obtain ⟨e1, e2, e3, e4, e5, e6, e7, e8⟩ := parts_law k HFit.out
  obtain ⟨d1, d2, d3, d4, d5, d6, d7, d8⟩ := mom_bd (fit_sub HFit.out (List.take_sublist k xs))
  obtain ⟨f1, f2, f3, f4, f5, f6, f7, f8⟩ := mom_bd (fit_sub HFit.out (List.drop_sublist k xs))
  rw [e5, e6, e7, e8, e1, e2, e3, e4]
  clear e1 e2 e3 e4 e5 e6 e7 e8
  generalize mLong sv (xs.take k) = p1 at *
  generalize mCross sv (xs.take k) = p2 at *
  generalize mUp sv (xs.take k) = p3 at *
  generalize mWeight sv (xs.take k) = p4 at *
  generalize mLong sv (xs.drop k) = u1 at *
  generalize mCross sv (xs.drop k) = u2 at *
  generalize mUp sv (xs.drop k) = u3 at *
  generalize mWeight sv (xs.drop k) = u4 at *
  go_wp2_with fail
  go_ret
  exact ⟨rfl, unhide B8⟩
end Go.Proofs.Ytcdjljcmhbipiaa
