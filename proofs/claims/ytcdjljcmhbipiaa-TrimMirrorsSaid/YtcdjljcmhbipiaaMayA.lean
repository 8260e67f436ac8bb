/- Walks: may a ship be? (the program's 'May', the reference's 'Ship') -/
import Derived.Test.YtcdjljcmhbipiaaNameA
namespace Go.Proofs.Ytcdjljcmhbipiaa
open Go.RowKit

/-- a row of ints at the head of a block -/
def IntsAt (w : World) (b : Nat) (xs : List Int) : Prop := b < w.heap.size ∧ ∀ i x, xs[i]? = some x → w.cell? ⟨b, i, none⟩ = some (.int .i64 x)
theorem IntsAt.below {w w' : World} {b : Nat} {xs : List Int} (h : IntsAt w b xs) (hb : Below w.heap.size w w') : IntsAt w' b xs :=
  ⟨Nat.lt_of_lt_of_le h.1 hb.size, fun i x hx => (hb.cell (p := ⟨b, i, none⟩) h.1).trans (h.2 i x hx)⟩

set_option maxHeartbeats 1000000 in
theorem all1_any (x lo hi : Int) (p q : Nat) (w : World) (h1 : w.cell? ⟨p, 0, none⟩ = some (.int .i64 lo)) (h2 : w.cell? ⟨q, 0, none⟩ = some (.int .i64 hi)) :
    Calls Try.prog 28 #[.int .i64 x, .pointer (some ⟨p, 0, none⟩), .pointer (some ⟨q, 0, none⟩)] w fun e w' => e = .returned (.bool (!inB x lo hi)) ∧ w = w' := by
  go_enter Try.func28, Try.ntmps28
  go_wp2_with (go_at_call 29; refine (within_any _ _ _ _).mono ?_; rintro e w' ⟨rfl, rfl⟩)
  go_ret
  exact ⟨rfl, rfl⟩

theorem allI_take_succ (xs : List Int) (lo hi x : Int) (k : Nat) (h : xs[k]? = some x) : (xs.take (k + 1)).all (inB · lo hi) = ((xs.take k).all (inB · lo hi) && inB x lo hi) := by
  have hk : k < xs.length := (List.getElem?_eq_some_iff.1 h).1
  have e : xs.take (k + 1) = xs.take k ++ [x] := by
    rw [List.take_succ_eq_append_getElem hk, (List.getElem?_eq_some_iff.1 h).2]
  rw [e, List.all_append]; simp
theorem allI_not (xs : List Int) (lo hi x : Int) (k : Nat) (h : xs[k]? = some x) (hx : inB x lo hi = false) : xs.all (inB · lo hi) = false := by
  rw [List.all_eq_false]
  exact ⟨x, List.mem_of_getElem? h, by simp [hx]⟩

set_option maxHeartbeats 1000000 in
theorem slicesIndexFunc_any (xs : List Int) (lo hi : Int) (b p q c : Nat) (w : World) (hx : IntsAt w b xs) (hn : xs.length ≤ 1000)
    (h1 : w.cell? ⟨p, 0, none⟩ = some (.int .i64 lo)) (h2 : w.cell? ⟨q, 0, none⟩ = some (.int .i64 hi)) :
    Calls Try.prog 31 #[.slice (some ⟨b, 0, none⟩) xs.length c, .func (.func 28) #[] #[.pointer (some ⟨p, 0, none⟩), .pointer (some ⟨q, 0, none⟩)]] w
      fun e w' => ∃ i : Int, e = .returned (.int .i64 i) ∧ decide (0 ≤ i) = !xs.all (inB · lo hi) ∧ w = w' := by
  obtain ⟨n, hnl⟩ : ∃ n, n = xs.length := ⟨_, rfl⟩
  rw [← hnl] at hn ⊢
  have HL := Lib.hid hnl; clear hnl
  have HX := Lib.hid hx.2; clear hx
  go_enter Try.func31, Try.ntmps31
  go_wp2
  go_loop [8] (fun i => ∃ k : Nat, k ≤ n ∧ i = .int .i64 k ∧ Hid ((xs.take k).all (inB · lo hi) = true)) (fun i => n - (intOf i).toNat)
  case atStart => exact ⟨0, Nat.zero_le _, rfl, Lib.hid rfl⟩
  case round =>
    obtain ⟨k, hk, rfl, HT⟩ := hrel
    by_cases hlt : k < n
    · obtain ⟨x, hx⟩ : ∃ x, xs[k]? = some x := ⟨xs[k]'(by rw [← HL.out]; exact hlt), List.getElem?_eq_getElem _⟩
      have hc := HX.out k x hx
      have HK := Lib.hid hx; clear hx
      cases hin : inB x lo hi
      all_goals
        go_wp2_with (go_at_call 28; refine (all1_any _ _ _ _ _ _ h1 h2).mono ?_; rintro e w' ⟨rfl, rfl⟩)
      · go_ret
        exact ⟨_, rfl, by rw [allI_not xs lo hi x k HK.out hin]; simp, rfl⟩
      · go_round
        case rel => exact ⟨k + 1, by omega, by go_num, Lib.hid (by rw [allI_take_succ xs lo hi x k HK.out, HT.out, hin]; rfl)⟩
        case measure => simp [intOf]; omega
    · have hall : (xs.take k).all (inB · lo hi) = xs.all (inB · lo hi) := by rw [List.take_of_length_le (by rw [← HL.out]; omega)]
      rw [HT.out] at hall
      have HA := Lib.hid hall; clear hall
      go_wp2_with fail
      go_ret
      exact ⟨_, rfl, by rw [← HA.out]; simp, rfl⟩

set_option maxHeartbeats 1000000 in
theorem all_any (xs : List Int) (lo hi : Int) (b c : Nat) (w : World) (hx : IntsAt w b xs) (hn : xs.length ≤ 1000) :
    Calls Try.prog 23 #[.int .i64 lo, .int .i64 hi, .slice (some ⟨b, 0, none⟩) xs.length c] w
      fun e w' => e = .returned (.bool (xs.all (inB · lo hi))) ∧ Below w.heap.size w w' := by
  have HI := hide (slicesIndexFunc_any xs lo hi b w.heap.size (w.heap.size + 1) c ((w.alloc (.cells #[.int .i64 lo] 3)).alloc (.cells #[.int .i64 hi] 3))
    (hx.below (((Below.refl _ _).alloc (Nat.le_refl _) _).alloc (by simp) _)) hn (by simp [World.cell?_alloc_past]) (by simp))
  obtain ⟨n, hnl⟩ : ∃ n, n = xs.length := ⟨_, rfl⟩
  rw [← hnl] at HI ⊢
  clear hnl hx hn
  obtain ⟨r, hr⟩ : ∃ r, r = xs.all (inB · lo hi) := ⟨_, rfl⟩
  rw [← hr] at HI ⊢
  clear hr
  go_enter Try.func23, Try.ntmps23
  go_wp2_with (first | (go_at_call 31; refine (unhide HI).mono ?_; rintro e w' ⟨i, rfl, hi, rfl⟩) | go_in)
  go_ret
  exact ⟨ret_bool (by simp_all), ((Below.refl _ _).alloc (Nat.le_refl _) _).alloc (by simp) _⟩

theorem ints_new (w : World) (xs : List Int) : IntsAt (w.alloc (.cells (xs.map (Value.int .i64)).toArray 3)) w.heap.size xs :=
  ⟨by simp, fun i x hx => by simp [hx]⟩

/-- a ship, as the proofs have it -/
structure Shp where
  name : ByteArray
  bays : Int
  rows : Int
  tiers : Int
  stack : Int
  trim : Int
  list : Int
  up : Int
  most : Int

/-- a ship's value -/
def Shp.val (s : Shp) : Value := .agg #[.string s.name, .int .i64 s.bays, .int .i64 s.rows, .int .i64 s.tiers, .int .i64 s.stack, .int .i64 s.trim, .int .i64 s.list, .int .i64 s.up, .int .i64 s.most]

def shipOk (s : Shp) : Bool :=
  okName s.name && [s.bays, s.rows, s.tiers].all (inB · 1 32) && [s.stack, s.trim, s.list, s.up, s.most].all (inB · 0 1048576)

set_option maxHeartbeats 1000000 in
theorem May_any (nm : ByteArray) (a1 a2 a3 a4 a5 a6 a7 a8 : Int) (w : World) (hs : nm.size ≤ maxLen) :
    Calls Try.prog 18 #[.agg #[.string nm, .int .i64 a1, .int .i64 a2, .int .i64 a3, .int .i64 a4, .int .i64 a5, .int .i64 a6, .int .i64 a7, .int .i64 a8]] w
      fun e w' => e = .returned (.bool (shipOk ⟨nm, a1, a2, a3, a4, a5, a6, a7, a8⟩)) ∧ Below w.heap.size w w' := by
  have hdef : shipOk ⟨nm, a1, a2, a3, a4, a5, a6, a7, a8⟩ = (okName nm && [a1, a2, a3].all (inB · 1 32) && [a4, a5, a6, a7, a8].all (inB · 0 1048576)) := rfl
  have h1 := fun W => name_any nm W hs
  have h2 := fun b c W hx => all_any [a1, a2, a3] 1 32 b c W hx (by simp)
  have h3 := fun b c W hx => all_any [a4, a5, a6, a7, a8] 0 1048576 b c W hx (by simp)
  simp only [List.length_cons, List.length_nil, Nat.zero_add, Nat.reduceAdd] at h2 h3
  generalize okName nm = r1 at *
  generalize [a1, a2, a3].all (inB · 1 32) = r2 at *
  generalize [a4, a5, a6, a7, a8].all (inB · 0 1048576) = r3 at *
  have HD := Lib.hid hdef; clear hdef
  have H1 := hide h1; clear h1
  have H2 := hide h2; clear h2
  have H3 := hide h3; clear h3
  have b0 : Below w.heap.size w (w.alloc (.cells #[.string nm, .int .i64 a1, .int .i64 a2, .int .i64 a3, .int .i64 a4, .int .i64 a5, .int .i64 a6, .int .i64 a7, .int .i64 a8] 23)) := (Below.refl _ _).alloc (Nat.le_refl _) _
  have k0 := Whole.made w 23 #[.string nm, .int .i64 a1, .int .i64 a2, .int .i64 a3, .int .i64 a4, .int .i64 a5, .int .i64 a6, .int .i64 a7, .int .i64 a8]
  have B0 := hide b0; clear b0
  have K0 := hide k0; clear k0
  cases r1
  · go_enter Try.func18, Try.ntmps18
    go_wp2_with fail
    refine (unhide H1 _).mono ?_; rintro e w' ⟨rfl, hb⟩
    go_wp2_with fail
    go_ret
    exact ⟨ret_bool (by rw [HD.out]; simp), (unhide B0).trans (hb.mono (by simp))⟩
  · go_enter Try.func18, Try.ntmps18
    go_wp2_with fail
    refine (unhide H1 _).mono ?_; rintro e w1 ⟨rfl, hb⟩
    have k1 := (unhide K0).after hb
    have b1 := (unhide B0).trans (hb.mono (by simp))
    have hc := k1.cells
    have K1 := hide k1; clear k1
    have B1 := hide b1; clear b1 hb
    go_wp2_with fail
    refine (unhide H2 _ _ _ (ints_new _ _)).mono ?_; rintro e w2 ⟨rfl, hb⟩
    have k2 := ((unhide K1).alloc _).after hb
    have b2 := (unhide B1).trans (((Below.refl _ _).alloc (unhide B1).size _).trans (hb.mono (by simp; have := (unhide B1).size; omega)))
    have hc2 := k2.cells
    have B2 := hide b2; clear b2 hb k2
    cases r2
    · go_wp2_with fail
      go_ret
      exact ⟨ret_bool (by rw [HD.out]; simp), unhide B2⟩
    · go_wp2_with fail
      refine (unhide H3 _ _ _ (ints_new _ _)).mono ?_; rintro e w3 ⟨rfl, hb⟩
      go_wp2_with fail
      go_ret
      exact ⟨ret_bool (by rw [HD.out]; simp), (unhide B2).trans (((Below.refl _ _).alloc (unhide B2).size _).trans (hb.mono (by simp; have := (unhide B2).size; omega)))⟩
end Go.Proofs.Ytcdjljcmhbipiaa
