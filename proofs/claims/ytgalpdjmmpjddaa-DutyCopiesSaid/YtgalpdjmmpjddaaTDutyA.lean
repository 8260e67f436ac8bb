/- Walks: the duty of a value (the program's, and the reference's). -/
import Derived.Test.YtgalpdjmmpjddaaTNewA
import Derived.Test.YtgalpdjmmpjddaaScaleR
namespace Go.Proofs.Ytgalpdjmmpjddaa
set_option linter.unusedVariables false
set_option linter.unusedSimpArgs false
open Go.RowKit Go.Maps

def rNum (r : Option Rt) : Int := match r with | some x => x.num | none => 0
def rDen (r : Option Rt) : Int := match r with | some x => x.den | none => 0

/-- a look-up among rows -/
theorem look_row {W : World} {m n : Nat} {xs : List Rt} (hm : MapAt rowKeys W m n (rowF xs)) (c o : ByteArray) (hc : c.size ≤ maxLen) (ho : o.size ≤ maxLen) :
    (Instr.lookup 68 (.map (some m)) (.agg #[.string c, .string o]) true).run Try.prog W = .ok (.tuple #[.agg #[.int .i64 (rNum (xs.find? (fun y => hit y c o))), .int .i64 (rDen (xs.find? (fun y => hit y c o)))], .bool (xs.find? (fun y => hit y c o)).isSome]) W := by
  cases hff : xs.find? (fun y => hit y c o) with
  | none => exact hm.look_none (t := 68) (e := 64) Try.underlying68 (zeroRatio _) (x := (c, o)) ⟨hc, ho⟩ (by rw [rowF, hff]; rfl) true
  | some y => exact hm.look_some (t := 68) (e := 64) Try.underlying68 (zeroRatio _) (x := (c, o)) ⟨hc, ho⟩ (by rw [rowF, hff]; rfl) true

/-- the row of a code and an origin, or of a code -/
def rowOf (xs : List Rt) (c o : ByteArray) : Option Rt := (xs.find? (fun y => hit y c o)).or (xs.find? (fun y => hit y c ⟨#[]⟩))
def inA (v : Int) : Bool := decide (0 ≤ v) && decide (v ≤ 1099511627776)
def scaleP : Option Nat → Int × Int
  | some q => ((q : Int), 0)
  | none => (0, 3)
/-- what the duty is by a row, and an error's number -/
def dutyOf (v : Int) (r : Option Rt) : Int × Int := if inA v then (match r with | none => (0, 4) | some x => scaleP (mScale v.toNat x.num.toNat x.den.toNat)) else (0, 3)
def mDuty (xs : List Rt) (c : ByteArray) (v : Int) (o : ByteArray) : Int × Int := dutyOf v (rowOf xs c o)
def dutyV (r : Int × Int) : Value := .tuple #[.int .i64 r.1, .int .i64 r.2]

set_option maxHeartbeats 400000 in
theorem amount_any (n : Int) (w : World) :
    Calls Try.prog 34 #[.int .i64 n] w fun e w' => e = .returned (.bool (inA n)) ∧ w = w' := by
  go_enter Try.func34, Try.ntmps34
  go_wp2
  all_goals (go_ret; exact ⟨ret_bool (by simp [inA]; omega), rfl⟩)

theorem okUSD : okCur ⟨#[85, 83, 68]⟩ = true := by decide +kernel
theorem szUSD : (⟨#[85, 83, 68]⟩ : ByteArray).size ≤ maxLen := by decide +kernel
theorem szNil : (⟨#[]⟩ : ByteArray).size ≤ maxLen := by decide +kernel

/-- what is known of rows that are a tariff -/
def Good (xs : List Rt) : Prop := ∀ x ∈ xs, (0 ≤ x.num ∧ x.num < 9223372036854775808) ∧ (1 ≤ x.den ∧ x.den < 9223372036854775808)
theorem rowOf_mem {xs : List Rt} {c o : ByteArray} {x : Rt} (h : rowOf xs c o = some x) : x ∈ xs := by
  unfold rowOf at h
  cases h1 : xs.find? (fun y => hit y c o) with
  | some y =>
    rw [h1] at h
    simp at h
    subst h
    exact List.mem_of_find?_eq_some h1
  | none =>
    rw [h1] at h
    simp at h
    exact List.mem_of_find?_eq_some h

set_option maxHeartbeats 4000000 in
theorem TDuty_any (xs : List Rt) (p : Nat) (c : ByteArray) (v : Int) (o : ByteArray) (w : World) (hg : Good xs) (hT : TariffAt w p xs) (hc : c.size ≤ maxLen) (ho : o.size ≤ maxLen) :
    Calls Try.prog 12 #[.pointer (some ⟨p, 0, none⟩), .string c, .int .i64 v, .string o] w fun e w' => e = .returned (dutyV (mDuty xs c v o)) ∧ Below w.heap.size w w' := by
  obtain ⟨m, n, hW, hM⟩ := hT
  have L1 := look_row hM c o hc ho
  have L2 := fun ob => look_row (hM.alloc ob) c ⟨#[]⟩ hc szNil
  have hmem : ∀ y, rowOf xs c o = some y → y ∈ xs := fun y hy => rowOf_mem hy
  unfold mDuty
  unfold rowOf at hmem ⊢
  generalize xs.find? (fun y => hit y c o) = r1 at *
  generalize xs.find? (fun y => hit y c ⟨#[]⟩) = r2 at *
  have hsz := hW.lt
  have cT := hW.cells
  have cT2 := fun ob => (hW.alloc ob).cells
  have hU : ∀ y, r1.or r2 = some y → inA v = true → ∀ W, Calls Try.prog 35 #[.agg #[.string ⟨#[85, 83, 68]⟩, .int .i64 v], .agg #[.int .i64 y.num, .int .i64 y.den], .int .i64 1] W fun e w' => e = .returned (scaleV ⟨#[85, 83, 68]⟩ (mScale v.toNat y.num.toNat y.den.toNat)) ∧ Below W.heap.size W w' := by
    intro y hy hv W
    have h1 := hg y (hmem y hy)
    have h2 : 0 ≤ v ∧ v ≤ 1099511627776 := by simpa [inA] using hv
    have := Scale_any ⟨#[85, 83, 68]⟩ v.toNat y.num.toNat y.den.toNat W szUSD okUSD (by omega) (by omega) (by omega) (by omega)
    rwa [Int.toNat_of_nonneg h2.1, Int.toNat_of_nonneg h1.1.1, Int.toNat_of_nonneg (by omega : 0 ≤ y.den)] at this
  have HU := hide hU
  have HWM := hide (And.intro hW hM)
  clear hU hg hW hM hmem
  go_enter Try.func12, Try.ntmps12
  cases r1 with
  | some x =>
    simp only [Option.isSome_some, rNum, rDen] at L1
    have hu := (unhide HU) x rfl
    have HU2 := hide hu
    clear hu HU
    simp only [Option.some_or]
    go_wp2_with fail
    (with_reducible refine (amount_any _ _).mono ?_); rintro e w1 ⟨rfl, rfl⟩
    obtain ⟨ia, hia⟩ : ∃ b, b = inA v := ⟨_, rfl⟩
    rw [← hia] at HU2 ⊢
    cases ia
    · have hd : dutyOf v (some x) = (0, 3) := by unfold dutyOf; rw [← hia]; rfl
      have HD := hide hd
      clear hd hia
      go_wp2_with fail
      go_ret2
      exact ⟨by rw [unhide HD]; rfl, (Below.refl w.heap.size w).alloc (Nat.le_refl _) _⟩
    · have hd : dutyOf v (some x) = scaleP (mScale v.toNat x.num.toNat x.den.toNat) := by unfold dutyOf; rw [← hia]; rfl
      have hu := unhide HU2 rfl
      have HU3 := hide hu
      have HD := hide hd
      clear hd hia hu HU2
      generalize mScale v.toNat x.num.toNat x.den.toNat = ms at *
      go_wp2_with fail
      (with_reducible refine (unhide HU3 _).mono ?_); rintro e w3 ⟨rfl, hb⟩
      have HB3 := hide (((Below.refl w.heap.size w).alloc (Nat.le_refl _) _).trans (hb.mono (by simp)))
      clear hb
      cases ms with
      | none =>
        simp only [scaleV, Option.isSome_none]
        go_wp2_with fail
        go_ret2
        exact ⟨by rw [unhide HD]; rfl, (unhide HB3).alloc (unhide HB3).size _⟩
      | some q =>
        simp only [scaleV, Option.isSome_some]
        go_wp2_with fail
        go_ret2
        exact ⟨by rw [unhide HD]; rfl, (unhide HB3).alloc (unhide HB3).size _⟩

  | none =>
    simp only [Option.isSome_none, rNum, rDen] at L1
    simp only [Option.none_or] at HU ⊢
    cases r2 with
    | some x =>
      simp only [Option.isSome_some, rNum, rDen] at L2
      have hu := (unhide HU) x rfl
      have HU2 := hide hu
      clear hu HU
      go_wp2_with fail
      (with_reducible refine (amount_any _ _).mono ?_); rintro e w1 ⟨rfl, rfl⟩
      obtain ⟨ia, hia⟩ : ∃ b, b = inA v := ⟨_, rfl⟩
      rw [← hia] at HU2 ⊢
      cases ia
      · have hd : dutyOf v (some x) = (0, 3) := by unfold dutyOf; rw [← hia]; rfl
        have HD := hide hd
        clear hd hia
        go_wp2_with fail
        go_ret2
        exact ⟨by rw [unhide HD]; rfl, (Below.refl w.heap.size w).alloc (Nat.le_refl _) _⟩
      · have hd : dutyOf v (some x) = scaleP (mScale v.toNat x.num.toNat x.den.toNat) := by unfold dutyOf; rw [← hia]; rfl
        have hu := unhide HU2 rfl
        have HU3 := hide hu
        have HD := hide hd
        clear hd hia hu HU2
        generalize mScale v.toNat x.num.toNat x.den.toNat = ms at *
        go_wp2_with fail
        (with_reducible refine (unhide HU3 _).mono ?_); rintro e w3 ⟨rfl, hb⟩
        have HB3 := hide (((Below.refl w.heap.size w).alloc (Nat.le_refl _) _).trans (hb.mono (by simp)))
        clear hb
        cases ms with
        | none =>
          simp only [scaleV, Option.isSome_none]
          go_wp2_with fail
          go_ret2
          exact ⟨by rw [unhide HD]; rfl, (unhide HB3).alloc (unhide HB3).size _⟩
        | some q =>
          simp only [scaleV, Option.isSome_some]
          go_wp2_with fail
          go_ret2
          exact ⟨by rw [unhide HD]; rfl, (unhide HB3).alloc (unhide HB3).size _⟩

    | none =>
      simp only [Option.isSome_none, rNum, rDen] at L2
      clear HU
      go_wp2_with fail
      (with_reducible refine (amount_any _ _).mono ?_); rintro e w1 ⟨rfl, rfl⟩
      cases hia : inA v
      · have hd : dutyOf v none = (0, 3) := by unfold dutyOf; rw [hia]; rfl
        have HD := hide hd
        clear hd hia
        go_wp2_with fail
        go_ret2
        exact ⟨by rw [unhide HD]; rfl, (Below.refl w.heap.size w).alloc (Nat.le_refl _) _⟩
      · have hd : dutyOf v none = (0, 4) := by unfold dutyOf; rw [hia]; rfl
        have HD := hide hd
        clear hd hia
        go_wp2_with fail
        go_ret2
        exact ⟨by rw [unhide HD]; rfl, (Below.refl w.heap.size w).alloc (Nat.le_refl _) _⟩

set_option maxHeartbeats 4000000 in
theorem RDuty_any (xs : List Rt) (A : Option Addr) (n k : Nat) (c : ByteArray) (v : Int) (o : ByteArray) (w : World) (hg : Good xs) (hn : n = xs.length) (hlen : n ≤ 4096) (hx : RatesIn w w.heap.size A xs) :
    Calls Try.prog 13 #[.slice A n k, .string c, .int .i64 v, .string o] w fun e w' => e = .returned (dutyV (mDuty xs c v o)) ∧ Below w.heap.size w w' := by
  have H1 := hide (fun W => find_any xs A n k c o W hn hlen)
  have H2 := hide (fun W => find_any xs A n k c ⟨#[]⟩ W hn hlen)
  have hem := empty_at o
  obtain ⟨f1, hf1⟩ : ∃ f, f = fnd c o 0 xs := ⟨_, rfl⟩
  obtain ⟨f2, hf2⟩ : ∃ f, f = fnd c ⟨#[]⟩ 0 xs := ⟨_, rfl⟩
  rw [← hf1] at H1; rw [← hf2] at H2
  go_enter Try.func13, Try.ntmps13
  by_cases hv : inA v = true
  · have hv' : 0 ≤ v ∧ v ≤ 1099511627776 := by simpa [inA] using hv
    have t1 : decide (v < 0) = false := by rw [decide_eq_false_iff_not]; omega
    have t2 : decide ((1099511627776 : Int) < v) = false := by rw [decide_eq_false_iff_not]; omega
    by_cases ho : o.size = 0
    · have hem' : o.toList.isEmpty = true := by rw [hem]; simpa using ho
      have hoe : o = ⟨#[]⟩ := ByteArray.ext (Array.eq_empty_of_size_eq_zero ho)
      by_cases hp : 0 ≤ f2
      · have hfi : decide (f2 < 0) = false := by rw [decide_eq_false_iff_not]; omega
        obtain ⟨j, hj⟩ : ∃ j : Nat, f2 = j := ⟨f2.toNat, by omega⟩
        obtain ⟨x, hxj, hfx⟩ := fnd_some c ⟨#[]⟩ xs 0 j (by rw [← hf2, hj]; simp)
        have hro : rowOf xs c o = some x := by unfold rowOf; rw [hoe, hfx]; rfl
        have hd : mDuty xs c v o = scaleP (mScale v.toNat x.num.toNat x.den.toNat) := by unfold mDuty dutyOf; rw [if_pos hv, hro]
        have hgx := hg x (List.mem_of_getElem? hxj)
        have hjl : j < n := by rw [hn]; exact (List.getElem?_eq_some_iff.1 hxj).1
        have hu := fun W => ScaleR_any ⟨#[85, 83, 68]⟩ v.toNat x.num.toNat x.den.toNat W szUSD okUSD (by omega) (by omega) (by omega) (by omega)
        rw [Int.toNat_of_nonneg hv'.1, Int.toNat_of_nonneg hgx.1.1, Int.toNat_of_nonneg (by omega : 0 ≤ x.den)] at hu
        obtain ⟨b, off, rfl, hbb, c0, c1, c2, c3, c4⟩ := hx.at hxj
        generalize mScale v.toNat x.num.toNat x.den.toNat = ms at *
        rw [hj] at H2
        have HU := hide hu
        have HD := hide hd
        have HXX := hide hx
        clear hd hu hgx hro hfx hxj hf1 hf2 hg hn hx c0 c1 c2 hv' hj
        go_wp2_with fail
        (with_reducible refine (unhide H2 _ (unhide HXX)).mono ?_); rintro e w1 ⟨rfl, rfl⟩
        go_wp2_with fail
        (with_reducible refine (unhide HU _).mono ?_); rintro e w3 ⟨rfl, hb⟩
        have HB3 := hide hb
        clear hb
        cases ms with
        | none =>
          simp only [scaleV, Option.isSome_none]
          go_wp2_with fail
          go_ret2
          exact ⟨by rw [unhide HD]; rfl, (unhide HB3).alloc (unhide HB3).size _⟩
        | some q =>
          simp only [scaleV, Option.isSome_some]
          go_wp2_with fail
          go_ret2
          exact ⟨by rw [unhide HD]; rfl, (unhide HB3).alloc (unhide HB3).size _⟩

      · have hfi : decide (f2 < 0) = true := by rw [decide_eq_true_eq]; omega
        have hro : rowOf xs c o = none := by unfold rowOf; rw [hoe, (fnd_none _ _ _ 0).1 (by rw [← hf2]; omega)]; rfl
        have hd : mDuty xs c v o = (0, 4) := by unfold mDuty dutyOf; rw [if_pos hv, hro]
        have HD := hide hd
        have HXX := hide hx
        clear hd hro hf1 hf2 hg hn hx hv'
        go_wp2_with fail
        (with_reducible refine (unhide H2 _ (unhide HXX)).mono ?_); rintro e w1 ⟨rfl, rfl⟩
        go_wp2_with fail
        go_ret2
        exact ⟨by rw [unhide HD]; rfl, Below.refl _ _⟩

    · have hem' : o.toList.isEmpty = false := by rw [hem]; simpa using ho
      by_cases hp1 : 0 ≤ f1
      · have hfi : decide (f1 < 0) = false := by rw [decide_eq_false_iff_not]; omega
        obtain ⟨j, hj⟩ : ∃ j : Nat, f1 = j := ⟨f1.toNat, by omega⟩
        obtain ⟨x, hxj, hfx⟩ := fnd_some c o xs 0 j (by rw [← hf1, hj]; simp)
        have hro : rowOf xs c o = some x := by unfold rowOf; rw [hfx]; rfl
        have hd : mDuty xs c v o = scaleP (mScale v.toNat x.num.toNat x.den.toNat) := by unfold mDuty dutyOf; rw [if_pos hv, hro]
        have hgx := hg x (List.mem_of_getElem? hxj)
        have hjl : j < n := by rw [hn]; exact (List.getElem?_eq_some_iff.1 hxj).1
        have hu := fun W => ScaleR_any ⟨#[85, 83, 68]⟩ v.toNat x.num.toNat x.den.toNat W szUSD okUSD (by omega) (by omega) (by omega) (by omega)
        rw [Int.toNat_of_nonneg hv'.1, Int.toNat_of_nonneg hgx.1.1, Int.toNat_of_nonneg (by omega : 0 ≤ x.den)] at hu
        obtain ⟨b, off, rfl, hbb, c0, c1, c2, c3, c4⟩ := hx.at hxj
        generalize mScale v.toNat x.num.toNat x.den.toNat = ms at *
        rw [hj] at H1
        have HU := hide hu
        have HD := hide hd
        have HXX := hide hx
        clear hd hu hgx hro hfx hxj hf1 hf2 hg hn hx c0 c1 c2 hv' hj
        go_wp2_with fail
        (with_reducible refine (unhide H1 _ (unhide HXX)).mono ?_); rintro e w1 ⟨rfl, rfl⟩
        go_wp2_with fail
        (with_reducible refine (unhide HU _).mono ?_); rintro e w3 ⟨rfl, hb⟩
        have HB3 := hide hb
        clear hb
        cases ms with
        | none =>
          simp only [scaleV, Option.isSome_none]
          go_wp2_with fail
          go_ret2
          exact ⟨by rw [unhide HD]; rfl, (unhide HB3).alloc (unhide HB3).size _⟩
        | some q =>
          simp only [scaleV, Option.isSome_some]
          go_wp2_with fail
          go_ret2
          exact ⟨by rw [unhide HD]; rfl, (unhide HB3).alloc (unhide HB3).size _⟩

      · have hfi1 : decide (f1 < 0) = true := by rw [decide_eq_true_eq]; omega
        by_cases hp : 0 ≤ f2
        · have hfi : decide (f2 < 0) = false := by rw [decide_eq_false_iff_not]; omega
          obtain ⟨j, hj⟩ : ∃ j : Nat, f2 = j := ⟨f2.toNat, by omega⟩
          obtain ⟨x, hxj, hfx⟩ := fnd_some c ⟨#[]⟩ xs 0 j (by rw [← hf2, hj]; simp)
          have hro : rowOf xs c o = some x := by unfold rowOf; rw [hfx, (fnd_none _ _ _ 0).1 (by rw [← hf1]; omega)]; rfl
          have hd : mDuty xs c v o = scaleP (mScale v.toNat x.num.toNat x.den.toNat) := by unfold mDuty dutyOf; rw [if_pos hv, hro]
          have hgx := hg x (List.mem_of_getElem? hxj)
          have hjl : j < n := by rw [hn]; exact (List.getElem?_eq_some_iff.1 hxj).1
          have hu := fun W => ScaleR_any ⟨#[85, 83, 68]⟩ v.toNat x.num.toNat x.den.toNat W szUSD okUSD (by omega) (by omega) (by omega) (by omega)
          rw [Int.toNat_of_nonneg hv'.1, Int.toNat_of_nonneg hgx.1.1, Int.toNat_of_nonneg (by omega : 0 ≤ x.den)] at hu
          obtain ⟨b, off, rfl, hbb, c0, c1, c2, c3, c4⟩ := hx.at hxj
          generalize mScale v.toNat x.num.toNat x.den.toNat = ms at *
          rw [hj] at H2
          have HU := hide hu
          have HD := hide hd
          have HXX := hide hx
          clear hd hu hgx hro hfx hxj hf1 hf2 hg hn hx c0 c1 c2 hv' hj
          go_wp2_with fail
          (with_reducible refine (unhide H1 _ (unhide HXX)).mono ?_); rintro e w1 ⟨rfl, rfl⟩
          go_wp2_with fail
          (with_reducible refine (unhide H2 _ (unhide HXX)).mono ?_); rintro e w1 ⟨rfl, rfl⟩
          go_wp2_with fail
          (with_reducible refine (unhide HU _).mono ?_); rintro e w3 ⟨rfl, hb⟩
          have HB3 := hide hb
          clear hb
          cases ms with
          | none =>
            simp only [scaleV, Option.isSome_none]
            go_wp2_with fail
            go_ret2
            exact ⟨by rw [unhide HD]; rfl, (unhide HB3).alloc (unhide HB3).size _⟩
          | some q =>
            simp only [scaleV, Option.isSome_some]
            go_wp2_with fail
            go_ret2
            exact ⟨by rw [unhide HD]; rfl, (unhide HB3).alloc (unhide HB3).size _⟩

        · have hfi : decide (f2 < 0) = true := by rw [decide_eq_true_eq]; omega
          have hro : rowOf xs c o = none := by unfold rowOf; rw [(fnd_none c ⟨#[]⟩ _ 0).1 (by rw [← hf2]; omega), (fnd_none _ _ _ 0).1 (by rw [← hf1]; omega)]; rfl
          have hd : mDuty xs c v o = (0, 4) := by unfold mDuty dutyOf; rw [if_pos hv, hro]
          have HD := hide hd
          have HXX := hide hx
          clear hd hro hf1 hf2 hg hn hx hv'
          go_wp2_with fail
          (with_reducible refine (unhide H1 _ (unhide HXX)).mono ?_); rintro e w1 ⟨rfl, rfl⟩
          go_wp2_with fail
          (with_reducible refine (unhide H2 _ (unhide HXX)).mono ?_); rintro e w1 ⟨rfl, rfl⟩
          go_wp2_with fail
          go_ret2
          exact ⟨by rw [unhide HD]; rfl, Below.refl _ _⟩

  · have hd : mDuty xs c v o = (0, 3) := by unfold mDuty dutyOf; rw [if_neg hv]
    have hv' : v < 0 ∨ 1099511627776 < v := by simp [inA] at hv; omega
    have HD := hide hd
    clear hd hv
    rcases hv' with h | h
    all_goals
      go_wp2_with fail
      all_goals
        go_ret2
        exact ⟨by rw [unhide HD]; rfl, Below.refl _ _⟩
end Go.Proofs.Ytgalpdjmmpjddaa
