/- Walk: the reference's Enter. (printed by gen_ent.py) -/
import Derived.Test.YtgalpdjmmpjddaaBoxC
namespace Go.Proofs.Ytgalpdjmmpjddaa
set_option linter.unusedVariables false
set_option linter.unusedSimpArgs false
open Go.RowKit Go.Maps

theorem rngB_of {d day : Int} (h : d < 0 ∨ 1099511627776 < d ∨ day < 0 ∨ 1048576 < day) : rngB d day = true := by
  unfold rngB inA; simp; omega
theorem rngB_off {d day : Int} (h1 : ¬ d < 0) (h2 : ¬ 1099511627776 < d) (h3 : ¬ day < 0) (h4 : ¬ 1048576 < day) : rngB d day = false := by
  unfold rngB inA; simp; omega
theorem whole_past {w w' : World} {o : Obj} {b n c : Nat} {t : TypeId} {cs : Array Value} (k : Whole w b t cs) (hg : (w.alloc o).grownBy w' (Value.slice (some ⟨w.heap.size, 0, none⟩) n c).ownBlock) : Whole w' b t cs := by
  have hlt := k.lt
  refine (hg.block b (by simp; omega) ?_).trans (k.alloc o)
  intro e
  simp [Value.ownBlock] at e
  omega
theorem below_past {B : Nat} {a w w' : World} {o : Obj} {n c : Nat} (k : Below B a w) (hB : B ≤ w.heap.size) (hg : (w.alloc o).grownBy w' (Value.slice (some ⟨w.heap.size, 0, none⟩) n c).ownBlock) : Below B a w' := by
  refine (k.alloc hB o).grown hg (by simp; omega) (fun j hj => ?_)
  simp [Value.ownBlock] at hj
  omega
theorem src_whole {α : Type} (R : Rowing α) {w : World} {b : Nat} {t : TypeId} (x : α) (k : Whole w b t (R.cells x).toArray) : Src w R.sz (some ⟨b, 0, none⟩) 1 (R.cells x) :=
  ⟨by rw [R.len]; omega, fun _ => ⟨_, rfl, fun j u hj => by
    have h := k.cells j
    have e : (⟨b, 0, none⟩ : Addr).add j = ⟨b, j, none⟩ := by
      unfold Addr.add; split
      · rename_i h0; subst h0; rfl
      · simp
    rw [e, h]; simpa using hj⟩⟩
theorem whole_far {w w' : World} {b g : Nat} {t : TypeId} {cs : Array Value} (k : Whole w b t cs) (hg : w.grownBy w' (some g)) (hne : b ≠ g) : Whole w' b t cs :=
  (hg.block b k.lt (by intro e; injection e with e; exact hne e)).trans k
/-- behind an append to a row of the call's own that began in w6, or in w6 with a block more -/
theorem first_below {a w6 w7 : World} {e : TypeId} {size n : Nat} {v : Value} {xs : List Value} {W : World} (k : Below a.heap.size a w6) (ho : W.ownsRow (a.heap.size + 1) e size v n xs) (hg : W.grownBy w7 v.ownBlock) (hW : W = w6 ∨ ∃ o, W = w6.alloc o) : Below a.heap.size a w7 := by
  have hb : Below a.heap.size a W := by
    rcases hW with rfl | ⟨o, rfl⟩
    · exact k
    · exact k.alloc k.size _
  exact below_grown hb ho (Nat.le_succ _) hg
theorem first_whole {w6 w7 : World} {e : TypeId} {size n b : Nat} {v : Value} {xs : List Value} {W : World} {t : TypeId} {cs : Array Value} (k : Whole w6 b t cs) (ho : W.ownsRow (b + 1) e size v n xs) (hg : W.grownBy w7 v.ownBlock) (hW : W = w6 ∨ ∃ o, W = w6.alloc o) : Whole w7 b t cs := by
  have hb : Whole W b t cs := by
    rcases hW with rfl | ⟨o, rfl⟩
    · exact k
    · exact k.alloc _
  exact (hg.block b hb.lt (fun e => by have := (ho.lt _ e.symm).1; omega)).trans hb
theorem known_find (bs : List Bx) (s : ByteArray) : known bs s = (bs.find? (named s)).isSome := rfl

set_option maxHeartbeats 8000000 in
set_option maxRecDepth 100000 in
theorem REnter_any (xs : List Bx) (A : Option Addr) (n c : Nat) (lim : Int) (s : ByteArray) (d day : Int) (w : World) (hs : s.size ≤ maxLen) (hn : n = xs.length) (hlen : n ≤ 4000) (hx : ListIn bxR w w.heap.size A xs) (hok : BsOk xs) :
    Calls Try.prog 37 #[.slice A n c, .int .i64 lim, .string s, .int .i64 d, .int .i64 day] w (RefQ w (entered (limI lim) xs s d day) (enterE (limI lim) xs s d day)) := by
  obtain ⟨i0, hi0, hz0, hz1, hz2⟩ := info_parts info_box
  have HNM := hide (Name_any s w hs)
  have HAT := hide (At_any xs A n c s w hn (by omega) hx)
  have HUS := hide (RUsed_any xs A n c w hn (by omega) hx hok.duty)
  have HLI := hide (Limit_any lim w)
  have HXE := hide (And.intro hn hx)
  have hub := used_bd xs hok.duty
  have hxl : (xs.length : Int) ≤ 4000 := by omega
  have hub2 : 0 ≤ used xs ∧ used xs ≤ 4503599627370496 := by omega
  obtain ⟨en, hen⟩ : ∃ l, l = entered (limI lim) xs s d day := ⟨_, rfl⟩
  obtain ⟨er, her⟩ : ∃ e, e = enterE (limI lim) xs s d day := ⟨_, rfl⟩
  rw [← hen, ← her]
  unfold entered at hen
  rw [← her] at hen
  have hdef : er = firstE [(!okName s, 1), (rngB d day, 3), (known xs s, 5), (false, 7), (overB (limI lim) xs d, 10)] := her
  clear her hub hok hxl
  cases ho1 : okName s
  · rw [ho1] at HNM hdef
    clear ho1 hn hx hub2 HAT HUS HLI
    have he : er = 1 := by rw [hdef]; rfl
    rw [he, if_neg (by omega)] at hen
    subst hen
    rw [he]
    clear he hdef
    go_enter Try.func37, Try.ntmps37
    go_wp2_with fail
    (with_reducible refine (unhide HNM).mono ?_); rintro e w1 ⟨rfl, rfl⟩
    go_wp2_with fail
    all_goals
      go_ret2
      exact ⟨_, _, _, rfl, (unhide HXE).1, (unhide HXE).2, Below.refl _ _⟩
  rw [ho1] at HNM hdef
  clear ho1
  by_cases h0 : d < 0
  · rw [rngB_of (.inl h0)] at hdef
    have d0 : decide (d < 0) = true := by rw [decide_eq_true_eq]; exact h0
    clear h0 hn hx hub2 HAT HUS HLI
    have he : er = 3 := by rw [hdef]; rfl
    rw [he, if_neg (by omega)] at hen
    subst hen
    rw [he]
    clear he hdef
    go_enter Try.func37, Try.ntmps37
    go_wp2_with fail
    (with_reducible refine (unhide HNM).mono ?_); rintro e w1 ⟨rfl, rfl⟩
    go_wp2_with fail
    all_goals
      go_ret2
      exact ⟨_, _, _, rfl, (unhide HXE).1, (unhide HXE).2, Below.refl _ _⟩
  have d0 : decide (d < 0) = false := by rw [decide_eq_false_iff_not]; exact h0
  by_cases h1 : 1099511627776 < d
  · rw [rngB_of (.inr (.inl h1))] at hdef
    have d1 : decide (1099511627776 < d) = true := by rw [decide_eq_true_eq]; exact h1
    clear h0 h1 hn hx hub2 HAT HUS HLI
    have he : er = 3 := by rw [hdef]; rfl
    rw [he, if_neg (by omega)] at hen
    subst hen
    rw [he]
    clear he hdef
    go_enter Try.func37, Try.ntmps37
    go_wp2_with fail
    (with_reducible refine (unhide HNM).mono ?_); rintro e w1 ⟨rfl, rfl⟩
    go_wp2_with fail
    all_goals
      go_ret2
      exact ⟨_, _, _, rfl, (unhide HXE).1, (unhide HXE).2, Below.refl _ _⟩
  have d1 : decide (1099511627776 < d) = false := by rw [decide_eq_false_iff_not]; exact h1
  by_cases h2 : day < 0
  · rw [rngB_of (.inr (.inr (.inl h2)))] at hdef
    have d2 : decide (day < 0) = true := by rw [decide_eq_true_eq]; exact h2
    clear h0 h1 h2 hn hx hub2 HAT HUS HLI
    have he : er = 3 := by rw [hdef]; rfl
    rw [he, if_neg (by omega)] at hen
    subst hen
    rw [he]
    clear he hdef
    go_enter Try.func37, Try.ntmps37
    go_wp2_with fail
    (with_reducible refine (unhide HNM).mono ?_); rintro e w1 ⟨rfl, rfl⟩
    go_wp2_with fail
    all_goals
      go_ret2
      exact ⟨_, _, _, rfl, (unhide HXE).1, (unhide HXE).2, Below.refl _ _⟩
  have d2 : decide (day < 0) = false := by rw [decide_eq_false_iff_not]; exact h2
  by_cases h3 : 1048576 < day
  · rw [rngB_of (.inr (.inr (.inr h3)))] at hdef
    have d3 : decide (1048576 < day) = true := by rw [decide_eq_true_eq]; exact h3
    clear h0 h1 h2 h3 hn hx hub2 HAT HUS HLI
    have he : er = 3 := by rw [hdef]; rfl
    rw [he, if_neg (by omega)] at hen
    subst hen
    rw [he]
    clear he hdef
    go_enter Try.func37, Try.ntmps37
    go_wp2_with fail
    (with_reducible refine (unhide HNM).mono ?_); rintro e w1 ⟨rfl, rfl⟩
    go_wp2_with fail
    all_goals
      go_ret2
      exact ⟨_, _, _, rfl, (unhide HXE).1, (unhide HXE).2, Below.refl _ _⟩
  have d3 : decide (1048576 < day) = false := by rw [decide_eq_false_iff_not]; exact h3
  have hrg := rngB_off h0 h1 h2 h3
  have hwr : IntKind.i64.wrap (used xs + d) = used xs + d := IntWalk.i64_in _ (by omega)
  have hov : overB (limI lim) xs d = decide (limI lim < used xs + d) := by unfold overB; rw [hwr]
  rw [hrg, hov] at hdef
  generalize limI lim = L at *
  generalize used xs = u at *
  clear h0 h1 h2 h3 hrg hov
  cases hf : xs.find? (named s) with
  | some x =>
    obtain ⟨i, h1, h2, h3⟩ := atI_some s xs 0 x hf
    have hk : known xs s = true := by rw [known_find, hf]; rfl
    rw [hk] at hdef
    rw [h1, Nat.zero_add] at HAT
    have i1 : (0 : Int) ≤ (i : Int) := by omega
    clear h1 h2 h3 hk hf hn hx hub2 HUS HLI hwr
    have he : er = 5 := by rw [hdef]; rfl
    rw [he, if_neg (by omega)] at hen
    subst hen
    rw [he]
    clear he hdef
    go_enter Try.func37, Try.ntmps37
    go_wp2_with fail
    (with_reducible refine (unhide HNM).mono ?_); rintro e w1 ⟨rfl, rfl⟩
    go_wp2_with fail
    (with_reducible refine (unhide HAT).mono ?_); rintro e w1 ⟨rfl, rfl⟩
    go_wp2_with fail
    all_goals
      go_ret2
      exact ⟨_, _, _, rfl, (unhide HXE).1, (unhide HXE).2, Below.refl _ _⟩
  | none =>
    have hk : known xs s = false := by rw [known_find, hf]; rfl
    rw [hk] at hdef
    rw [atI_none s xs 0 hf] at HAT
    have hfl : decide ((4096 : Int) ≤ (n : Int)) = false := by rw [decide_eq_false_iff_not]; omega
    cases hv : decide (L < u + d)
    case true =>
      rw [hv] at hdef
      clear hk hf hn hx hub2
      have he : er = 10 := by rw [hdef]; rfl
      rw [he, if_neg (by omega)] at hen
      subst hen
      rw [he]
      clear he hdef
      go_enter Try.func37, Try.ntmps37
      go_wp2_with fail
      (with_reducible refine (unhide HNM).mono ?_); rintro e w1 ⟨rfl, rfl⟩
      go_wp2_with fail
      (with_reducible refine (unhide HAT).mono ?_); rintro e w1 ⟨rfl, rfl⟩
      go_wp2_with fail
      (with_reducible refine (unhide HUS).mono ?_); rintro e w1 ⟨rfl, rfl⟩
      go_wp2_with fail
      (with_reducible refine (unhide HLI).mono ?_); rintro e w1 ⟨rfl, rfl⟩
      go_wp2_with fail
      all_goals
        go_ret2
        exact ⟨_, _, _, rfl, (unhide HXE).1, (unhide HXE).2, Below.refl _ _⟩
    case false =>
      rw [hv] at hdef
      have he : er = 0 := by rw [hdef]; rfl
      rw [he, if_pos rfl] at hen
      rw [he]
      clear he hdef hk hf hub2
      by_cases hd0 : d = 0
      · skip
        have hnb : newBox s d day = ⟨s, d, day, 1⟩ := by unfold newBox; simp [hd0]
        have hd1 : decide (d = 0) = true := by rw [decide_eq_true_eq]; exact hd0
        have hd2 : (d == 0) = true := by simpa using hd0
        rw [hnb] at hen
        have HEN := hide hen
        have hKX := Whole.made w 45 #[.string s, .int .i64 d, .int .i64 day, .int .i64 1]
        have hb0 := (Below.refl w.heap.size w).alloc (Nat.le_refl _) (.cells #[.string s, .int .i64 d, .int .i64 day, .int .i64 1] 45)
        have ownA : ((w.alloc (.cells #[.string s, .int .i64 d, .int .i64 day, .int .i64 1] 45)).drew.alloc (.cells #[] 45)).ownsRow (w.heap.size + 1) 45 4 (.slice (some ⟨w.heap.size + 1, 0, none⟩) 0 0) 0 [] := by
          have := World.ownsRow_lit (base := w.heap.size + 1) (e := 45) (size := 4) (w.alloc (.cells #[.string s, .int .i64 d, .int .i64 day, .int .i64 1] 45)).drew #[] 0 (by simp <;> omega) (by unfold maxLen; omega) (by simp)
          simpa using this
        have srcA : Src ((w.alloc (.cells #[.string s, .int .i64 d, .int .i64 day, .int .i64 1] 45)).drew.alloc (.cells #[] 45)) 4 A n (xs.flatMap bxR.cells) := ((hx.alloc _).drew.alloc _).src_n hn
        have kxA : Whole ((w.alloc (.cells #[.string s, .int .i64 d, .int .i64 day, .int .i64 1] 45)).drew.alloc (.cells #[] 45)) w.heap.size 45 #[.string s, .int .i64 d, .int .i64 day, .int .i64 1] := hKX.drew.alloc _
        have blA : Below w.heap.size w ((w.alloc (.cells #[.string s, .int .i64 d, .int .i64 day, .int .i64 1] 45)).drew.alloc (.cells #[] 45)) := hb0.drew.alloc (by simp) _
        have ownB : (((w.alloc (.cells #[.string s, .int .i64 d, .int .i64 day, .int .i64 1] 45)).drew.alloc (.cells #[] 45)).alloc (.cells #[.string s, .int .i64 d, .int .i64 day, .int .i64 1] 45)).ownsRow (w.heap.size + 1) 45 4 (.slice (some ⟨w.heap.size + 1, 0, none⟩) 0 0) 0 [] := by
          exact ownA.alloc _
        have srcB : Src (((w.alloc (.cells #[.string s, .int .i64 d, .int .i64 day, .int .i64 1] 45)).drew.alloc (.cells #[] 45)).alloc (.cells #[.string s, .int .i64 d, .int .i64 day, .int .i64 1] 45)) 4 A n (xs.flatMap bxR.cells) := (((hx.alloc _).drew.alloc _).alloc _).src_n hn
        have kxB : Whole (((w.alloc (.cells #[.string s, .int .i64 d, .int .i64 day, .int .i64 1] 45)).drew.alloc (.cells #[] 45)).alloc (.cells #[.string s, .int .i64 d, .int .i64 day, .int .i64 1] 45)) w.heap.size 45 #[.string s, .int .i64 d, .int .i64 day, .int .i64 1] := (hKX.drew.alloc _).alloc _
        have blB : Below w.heap.size w (((w.alloc (.cells #[.string s, .int .i64 d, .int .i64 day, .int .i64 1] 45)).drew.alloc (.cells #[] 45)).alloc (.cells #[.string s, .int .i64 d, .int .i64 day, .int .i64 1] 45)) := (hb0.drew.alloc (by simp) _).alloc (by simp <;> omega) _
        have ownC : (((w.alloc (.cells #[.string s, .int .i64 d, .int .i64 day, .int .i64 1] 45)).drew.alloc (.cells #[.string s, .int .i64 d, .int .i64 day, .int .i64 1] 45)).alloc (.cells #[] 45)).ownsRow (w.heap.size + 1) 45 4 (.slice (some ⟨w.heap.size + 2, 0, none⟩) 0 0) 0 [] := by
          have := World.ownsRow_lit (base := w.heap.size + 1) (e := 45) (size := 4) ((w.alloc (.cells #[.string s, .int .i64 d, .int .i64 day, .int .i64 1] 45)).drew.alloc (.cells #[.string s, .int .i64 d, .int .i64 day, .int .i64 1] 45)) #[] 0 (by simp <;> omega) (by unfold maxLen; omega) (by simp)
          simpa using this
        have srcC : Src (((w.alloc (.cells #[.string s, .int .i64 d, .int .i64 day, .int .i64 1] 45)).drew.alloc (.cells #[.string s, .int .i64 d, .int .i64 day, .int .i64 1] 45)).alloc (.cells #[] 45)) 4 A n (xs.flatMap bxR.cells) := (((hx.alloc _).drew.alloc _).alloc _).src_n hn
        have kxC : Whole (((w.alloc (.cells #[.string s, .int .i64 d, .int .i64 day, .int .i64 1] 45)).drew.alloc (.cells #[.string s, .int .i64 d, .int .i64 day, .int .i64 1] 45)).alloc (.cells #[] 45)) w.heap.size 45 #[.string s, .int .i64 d, .int .i64 day, .int .i64 1] := (hKX.drew.alloc _).alloc _
        have blC : Below w.heap.size w (((w.alloc (.cells #[.string s, .int .i64 d, .int .i64 day, .int .i64 1] 45)).drew.alloc (.cells #[.string s, .int .i64 d, .int .i64 day, .int .i64 1] 45)).alloc (.cells #[] 45)) := (hb0.drew.alloc (by simp) _).alloc (by simp <;> omega) _
        have kyB : Whole (((w.alloc (.cells #[.string s, .int .i64 d, .int .i64 day, .int .i64 1] 45)).drew.alloc (.cells #[] 45)).alloc (.cells #[.string s, .int .i64 d, .int .i64 day, .int .i64 1] 45)) (w.heap.size + 2) 45 #[.string s, .int .i64 d, .int .i64 day, .int .i64 1] := Whole.made_at _ _ _ _ (by simp)
        have kyC : Whole (((w.alloc (.cells #[.string s, .int .i64 d, .int .i64 day, .int .i64 1] 45)).drew.alloc (.cells #[.string s, .int .i64 d, .int .i64 day, .int .i64 1] 45)).alloc (.cells #[] 45)) (w.heap.size + 1) 45 #[.string s, .int .i64 d, .int .i64 day, .int .i64 1] := (Whole.made_at (w.alloc (.cells #[.string s, .int .i64 d, .int .i64 day, .int .i64 1] 45)).drew 45 _ _ (by simp)).alloc _
        have one1 := rows_one bxR xs
        have HA := hide (And.intro ownA (And.intro srcA (And.intro kxA blA)))
        have HB := hide (And.intro ownB (And.intro srcB (And.intro kxB blB)))
        have HC := hide (And.intro ownC (And.intro srcC (And.intro kxC blC)))
        have HYB := hide kyB; have HYC := hide kyC; have HKX := hide hKX
        have HI := hide (And.intro hi0 (And.intro hz0 (And.intro hz1 hz2)))
        clear ownA ownB ownC srcA srcB srcC kxA kxB kxC blA blB blC kyB kyC hKX hb0 hen hnb hn hx hi0 hz0 hz1 hz2 one1 hd0
        go_enter Try.func37, Try.ntmps37
        go_wp2_with fail
        (with_reducible refine (unhide HNM).mono ?_); rintro e w1 ⟨rfl, rfl⟩
        go_wp2_with fail
        (with_reducible refine (unhide HAT).mono ?_); rintro e w1 ⟨rfl, rfl⟩
        go_wp2_with fail
        (with_reducible refine (unhide HUS).mono ?_); rintro e w1 ⟨rfl, rfl⟩
        go_wp2_with fail
        (with_reducible refine (unhide HLI).mono ?_); rintro e w1 ⟨rfl, rfl⟩
        go_wp2_with fail
        obtain ⟨hi0, hz0, hz1, hz2⟩ := unhide HI
        have hc0 := (unhide HKX).drew.cells
        have hx0 := hc0 0; have hx1 := hc0 1; have hx2 := hc0 2; have hx3 := hc0 3
        simp only [List.getElem?_toArray, List.getElem?_cons_zero, List.getElem?_cons_succ] at hx0 hx1 hx2 hx3
        clear hc0
        go_region_held3 (fun w' => w'.cell? ⟨w.heap.size, 0, none⟩ = some (.string s) ∧ w'.cell? ⟨w.heap.size, 1, none⟩ = some (.int .i64 d) ∧ w'.cell? ⟨w.heap.size, 2, none⟩ = some (.int .i64 day) ∧ w'.cell? ⟨w.heap.size, 3, none⟩ = some (.int .i64 1)) (first | go_keep | (have k := unhide K6; have hc := k.cells; exact ⟨hc 0, hc 1, hc 2, hc 3⟩) | (have k := (unhide K6).alloc (.cells #[.string s, .int .i64 d, .int .i64 day, .int .i64 1] 45); have hc := k.cells; exact ⟨hc 0, hc 1, hc 2, hc 3⟩))
          ((first
            | (refine step_append_src _ (by rfl) (.tmp 56) (.tmp 57) 40 (by rfl) (w.heap.size + 1) 45 i0 _ 4 40 Try.underlying40 hi0 hz0 hz1 hz2 rfl (by omega) (by rfl) (unhide HA).1 (by rfl) (unhide HA).2.1 (rows_one bxR xs) (by unfold maxLen; omega) (by omega) (by simp <;> omega) ?_
               intro v6 w6 own1 hg1 hat1
               have hg1 : ((w.alloc (.cells #[.string s, .int .i64 d, .int .i64 day, .int .i64 1] 45)).drew.alloc (.cells #[] 45)).grownBy w6 (some (w.heap.size + 1)) := hg1
               have K6 := hide (whole_far (unhide HA).2.2.1 hg1 (by omega))
               have B6 := hide ((unhide HA).2.2.2.grown hg1 (unhide HA).2.2.2.size (fun j hj => by injection hj with hj; omega))
               rw [Nat.zero_add, List.nil_append] at own1
               have O1 := hide (own1.alloc (.cells #[.string s, .int .i64 d, .int .i64 day, .int .i64 1] 45))
               have src2 : Src (w6.alloc (.cells #[.string s, .int .i64 d, .int .i64 day, .int .i64 1] 45)) 4 (some ⟨w6.heap.size, 0, none⟩) 1 [.string s, .int .i64 d, .int .i64 day, .int .i64 1] := src_new bxR w6 (⟨s, d, day, 1⟩ : Bx) 45 _ rfl
               have S2 := hide src2
               clear own1 hg1 hat1 src2)
            | (refine step_append_src _ (by rfl) (.tmp 56) (.tmp 57) 40 (by rfl) (w.heap.size + 1) 45 i0 _ 4 40 Try.underlying40 hi0 hz0 hz1 hz2 rfl (by omega) (by rfl) (unhide HB).1 (by rfl) (unhide HB).2.1 (rows_one bxR xs) (by unfold maxLen; omega) (by omega) (by simp <;> omega) ?_
               intro v6 w6 own1 hg1 hat1
               have hg1 : (((w.alloc (.cells #[.string s, .int .i64 d, .int .i64 day, .int .i64 1] 45)).drew.alloc (.cells #[] 45)).alloc (.cells #[.string s, .int .i64 d, .int .i64 day, .int .i64 1] 45)).grownBy w6 (some (w.heap.size + 1)) := hg1
               have K6 := hide (whole_far (unhide HB).2.2.1 hg1 (by omega))
               have B6 := hide ((unhide HB).2.2.2.grown hg1 (unhide HB).2.2.2.size (fun j hj => by injection hj with hj; omega))
               rw [Nat.zero_add, List.nil_append] at own1
               have O1 := hide own1
               have src2 : Src w6 4 (some ⟨w.heap.size + 2, 0, none⟩) 1 [.string s, .int .i64 d, .int .i64 day, .int .i64 1] := src_whole bxR (⟨s, d, day, 1⟩ : Bx) (whole_far (unhide HYB) hg1 (by omega))
               have S2 := hide src2
               clear own1 hg1 hat1 src2)
            | (refine step_append_src _ (by rfl) (.tmp 56) (.tmp 57) 40 (by rfl) (w.heap.size + 1) 45 i0 _ 4 40 Try.underlying40 hi0 hz0 hz1 hz2 rfl (by omega) (by rfl) (unhide HC).1 (by rfl) (unhide HC).2.1 (rows_one bxR xs) (by unfold maxLen; omega) (by omega) (by simp <;> omega) ?_
               intro v6 w6 own1 hg1 hat1
               have hg1 : (((w.alloc (.cells #[.string s, .int .i64 d, .int .i64 day, .int .i64 1] 45)).drew.alloc (.cells #[.string s, .int .i64 d, .int .i64 day, .int .i64 1] 45)).alloc (.cells #[] 45)).grownBy w6 (some (w.heap.size + 2)) := hg1
               have K6 := hide (whole_far (unhide HC).2.2.1 hg1 (by omega))
               have B6 := hide ((unhide HC).2.2.2.grown hg1 (unhide HC).2.2.2.size (fun j hj => by injection hj with hj; omega))
               rw [Nat.zero_add, List.nil_append] at own1
               have O1 := hide own1
               have src2 : Src w6 4 (some ⟨w.heap.size + 1, 0, none⟩) 1 [.string s, .int .i64 d, .int .i64 day, .int .i64 1] := src_whole bxR (⟨s, d, day, 1⟩ : Bx) (whole_far (unhide HYC) hg1 (by omega))
               have S2 := hide src2
               clear own1 hg1 hat1 src2)
            | (refine step_append_src _ (by rfl) (.tmp 58) (.tmp 60) 40 (by rfl) (w.heap.size + 1) 45 i0 _ 4 40 Try.underlying40 hi0 hz0 hz1 hz2 rfl (by omega) (by rfl) (unhide O1) (by rfl) (unhide S2) (rows_one bxR [(⟨s, d, day, 1⟩ : Bx)]) (by unfold maxLen; omega) (by omega) (by have := (unhide K6).lt; first | omega | (simp; omega)) ?_
               intro v7 w7 own2 hg2 hat2
               have b7 := first_below (unhide B6) (unhide O1) hg2 (by first | exact .inl rfl | exact .inr ⟨_, rfl⟩)
               have K6 := hide (first_whole (unhide K6) (unhide O1) hg2 (by first | exact .inl rfl | exact .inr ⟨_, rfl⟩))
               have own3 : w7.ownsRow (w.heap.size + 1) 45 bxR.sz v7 (n + 1) ((xs ++ [(⟨s, d, day, 1⟩ : Bx)]).flatMap bxR.cells) := by rw [← rows_snoc]; exact own2
               obtain ⟨A', c', rfl, -, -, hn7, hL7⟩ := list_of_own own3
               have F7 := hide (And.intro hn7 (And.intro hL7 b7))
               clear own2 own3 hg2 hat2 b7 hn7 hL7)))
        all_goals
          clear hx0 hx1 hx2 hx3 hi0 hz0 hz1 hz2
          go_wp2_with fail
          go_ret2
          obtain ⟨hn7, hL7, b7⟩ := unhide F7
          exact ⟨_, _, _, rfl, by rw [unhide HEN]; exact hn7, by rw [unhide HEN]; exact hL7, b7⟩
      · skip
        have hnb : newBox s d day = ⟨s, d, day, 0⟩ := by unfold newBox; simp [hd0]
        have hd1 : decide (d = 0) = false := by rw [decide_eq_false_iff_not]; exact hd0
        have hd2 : (d == 0) = false := by simpa using hd0
        rw [hnb] at hen
        have HEN := hide hen
        have hKX := Whole.made w 45 #[.string s, .int .i64 d, .int .i64 day, .int .i64 0]
        have hb0 := (Below.refl w.heap.size w).alloc (Nat.le_refl _) (.cells #[.string s, .int .i64 d, .int .i64 day, .int .i64 0] 45)
        have ownA : ((w.alloc (.cells #[.string s, .int .i64 d, .int .i64 day, .int .i64 0] 45)).drew.alloc (.cells #[] 45)).ownsRow (w.heap.size + 1) 45 4 (.slice (some ⟨w.heap.size + 1, 0, none⟩) 0 0) 0 [] := by
          have := World.ownsRow_lit (base := w.heap.size + 1) (e := 45) (size := 4) (w.alloc (.cells #[.string s, .int .i64 d, .int .i64 day, .int .i64 0] 45)).drew #[] 0 (by simp <;> omega) (by unfold maxLen; omega) (by simp)
          simpa using this
        have srcA : Src ((w.alloc (.cells #[.string s, .int .i64 d, .int .i64 day, .int .i64 0] 45)).drew.alloc (.cells #[] 45)) 4 A n (xs.flatMap bxR.cells) := ((hx.alloc _).drew.alloc _).src_n hn
        have kxA : Whole ((w.alloc (.cells #[.string s, .int .i64 d, .int .i64 day, .int .i64 0] 45)).drew.alloc (.cells #[] 45)) w.heap.size 45 #[.string s, .int .i64 d, .int .i64 day, .int .i64 0] := hKX.drew.alloc _
        have blA : Below w.heap.size w ((w.alloc (.cells #[.string s, .int .i64 d, .int .i64 day, .int .i64 0] 45)).drew.alloc (.cells #[] 45)) := hb0.drew.alloc (by simp) _
        have ownB : (((w.alloc (.cells #[.string s, .int .i64 d, .int .i64 day, .int .i64 0] 45)).drew.alloc (.cells #[] 45)).alloc (.cells #[.string s, .int .i64 d, .int .i64 day, .int .i64 0] 45)).ownsRow (w.heap.size + 1) 45 4 (.slice (some ⟨w.heap.size + 1, 0, none⟩) 0 0) 0 [] := by
          exact ownA.alloc _
        have srcB : Src (((w.alloc (.cells #[.string s, .int .i64 d, .int .i64 day, .int .i64 0] 45)).drew.alloc (.cells #[] 45)).alloc (.cells #[.string s, .int .i64 d, .int .i64 day, .int .i64 0] 45)) 4 A n (xs.flatMap bxR.cells) := (((hx.alloc _).drew.alloc _).alloc _).src_n hn
        have kxB : Whole (((w.alloc (.cells #[.string s, .int .i64 d, .int .i64 day, .int .i64 0] 45)).drew.alloc (.cells #[] 45)).alloc (.cells #[.string s, .int .i64 d, .int .i64 day, .int .i64 0] 45)) w.heap.size 45 #[.string s, .int .i64 d, .int .i64 day, .int .i64 0] := (hKX.drew.alloc _).alloc _
        have blB : Below w.heap.size w (((w.alloc (.cells #[.string s, .int .i64 d, .int .i64 day, .int .i64 0] 45)).drew.alloc (.cells #[] 45)).alloc (.cells #[.string s, .int .i64 d, .int .i64 day, .int .i64 0] 45)) := (hb0.drew.alloc (by simp) _).alloc (by simp <;> omega) _
        have ownC : (((w.alloc (.cells #[.string s, .int .i64 d, .int .i64 day, .int .i64 0] 45)).drew.alloc (.cells #[.string s, .int .i64 d, .int .i64 day, .int .i64 0] 45)).alloc (.cells #[] 45)).ownsRow (w.heap.size + 1) 45 4 (.slice (some ⟨w.heap.size + 2, 0, none⟩) 0 0) 0 [] := by
          have := World.ownsRow_lit (base := w.heap.size + 1) (e := 45) (size := 4) ((w.alloc (.cells #[.string s, .int .i64 d, .int .i64 day, .int .i64 0] 45)).drew.alloc (.cells #[.string s, .int .i64 d, .int .i64 day, .int .i64 0] 45)) #[] 0 (by simp <;> omega) (by unfold maxLen; omega) (by simp)
          simpa using this
        have srcC : Src (((w.alloc (.cells #[.string s, .int .i64 d, .int .i64 day, .int .i64 0] 45)).drew.alloc (.cells #[.string s, .int .i64 d, .int .i64 day, .int .i64 0] 45)).alloc (.cells #[] 45)) 4 A n (xs.flatMap bxR.cells) := (((hx.alloc _).drew.alloc _).alloc _).src_n hn
        have kxC : Whole (((w.alloc (.cells #[.string s, .int .i64 d, .int .i64 day, .int .i64 0] 45)).drew.alloc (.cells #[.string s, .int .i64 d, .int .i64 day, .int .i64 0] 45)).alloc (.cells #[] 45)) w.heap.size 45 #[.string s, .int .i64 d, .int .i64 day, .int .i64 0] := (hKX.drew.alloc _).alloc _
        have blC : Below w.heap.size w (((w.alloc (.cells #[.string s, .int .i64 d, .int .i64 day, .int .i64 0] 45)).drew.alloc (.cells #[.string s, .int .i64 d, .int .i64 day, .int .i64 0] 45)).alloc (.cells #[] 45)) := (hb0.drew.alloc (by simp) _).alloc (by simp <;> omega) _
        have kyB : Whole (((w.alloc (.cells #[.string s, .int .i64 d, .int .i64 day, .int .i64 0] 45)).drew.alloc (.cells #[] 45)).alloc (.cells #[.string s, .int .i64 d, .int .i64 day, .int .i64 0] 45)) (w.heap.size + 2) 45 #[.string s, .int .i64 d, .int .i64 day, .int .i64 0] := Whole.made_at _ _ _ _ (by simp)
        have kyC : Whole (((w.alloc (.cells #[.string s, .int .i64 d, .int .i64 day, .int .i64 0] 45)).drew.alloc (.cells #[.string s, .int .i64 d, .int .i64 day, .int .i64 0] 45)).alloc (.cells #[] 45)) (w.heap.size + 1) 45 #[.string s, .int .i64 d, .int .i64 day, .int .i64 0] := (Whole.made_at (w.alloc (.cells #[.string s, .int .i64 d, .int .i64 day, .int .i64 0] 45)).drew 45 _ _ (by simp)).alloc _
        have one1 := rows_one bxR xs
        have HA := hide (And.intro ownA (And.intro srcA (And.intro kxA blA)))
        have HB := hide (And.intro ownB (And.intro srcB (And.intro kxB blB)))
        have HC := hide (And.intro ownC (And.intro srcC (And.intro kxC blC)))
        have HYB := hide kyB; have HYC := hide kyC; have HKX := hide hKX
        have HI := hide (And.intro hi0 (And.intro hz0 (And.intro hz1 hz2)))
        clear ownA ownB ownC srcA srcB srcC kxA kxB kxC blA blB blC kyB kyC hKX hb0 hen hnb hn hx hi0 hz0 hz1 hz2 one1 hd0
        go_enter Try.func37, Try.ntmps37
        go_wp2_with fail
        (with_reducible refine (unhide HNM).mono ?_); rintro e w1 ⟨rfl, rfl⟩
        go_wp2_with fail
        (with_reducible refine (unhide HAT).mono ?_); rintro e w1 ⟨rfl, rfl⟩
        go_wp2_with fail
        (with_reducible refine (unhide HUS).mono ?_); rintro e w1 ⟨rfl, rfl⟩
        go_wp2_with fail
        (with_reducible refine (unhide HLI).mono ?_); rintro e w1 ⟨rfl, rfl⟩
        go_wp2_with fail
        obtain ⟨hi0, hz0, hz1, hz2⟩ := unhide HI
        have hc0 := (unhide HKX).drew.cells
        have hx0 := hc0 0; have hx1 := hc0 1; have hx2 := hc0 2; have hx3 := hc0 3
        simp only [List.getElem?_toArray, List.getElem?_cons_zero, List.getElem?_cons_succ] at hx0 hx1 hx2 hx3
        clear hc0
        go_region_held3 (fun w' => w'.cell? ⟨w.heap.size, 0, none⟩ = some (.string s) ∧ w'.cell? ⟨w.heap.size, 1, none⟩ = some (.int .i64 d) ∧ w'.cell? ⟨w.heap.size, 2, none⟩ = some (.int .i64 day) ∧ w'.cell? ⟨w.heap.size, 3, none⟩ = some (.int .i64 0)) (first | go_keep | (have k := unhide K6; have hc := k.cells; exact ⟨hc 0, hc 1, hc 2, hc 3⟩) | (have k := (unhide K6).alloc (.cells #[.string s, .int .i64 d, .int .i64 day, .int .i64 0] 45); have hc := k.cells; exact ⟨hc 0, hc 1, hc 2, hc 3⟩))
          ((first
            | (refine step_append_src _ (by rfl) (.tmp 56) (.tmp 57) 40 (by rfl) (w.heap.size + 1) 45 i0 _ 4 40 Try.underlying40 hi0 hz0 hz1 hz2 rfl (by omega) (by rfl) (unhide HA).1 (by rfl) (unhide HA).2.1 (rows_one bxR xs) (by unfold maxLen; omega) (by omega) (by simp <;> omega) ?_
               intro v6 w6 own1 hg1 hat1
               have hg1 : ((w.alloc (.cells #[.string s, .int .i64 d, .int .i64 day, .int .i64 0] 45)).drew.alloc (.cells #[] 45)).grownBy w6 (some (w.heap.size + 1)) := hg1
               have K6 := hide (whole_far (unhide HA).2.2.1 hg1 (by omega))
               have B6 := hide ((unhide HA).2.2.2.grown hg1 (unhide HA).2.2.2.size (fun j hj => by injection hj with hj; omega))
               rw [Nat.zero_add, List.nil_append] at own1
               have O1 := hide (own1.alloc (.cells #[.string s, .int .i64 d, .int .i64 day, .int .i64 0] 45))
               have src2 : Src (w6.alloc (.cells #[.string s, .int .i64 d, .int .i64 day, .int .i64 0] 45)) 4 (some ⟨w6.heap.size, 0, none⟩) 1 [.string s, .int .i64 d, .int .i64 day, .int .i64 0] := src_new bxR w6 (⟨s, d, day, 0⟩ : Bx) 45 _ rfl
               have S2 := hide src2
               clear own1 hg1 hat1 src2)
            | (refine step_append_src _ (by rfl) (.tmp 56) (.tmp 57) 40 (by rfl) (w.heap.size + 1) 45 i0 _ 4 40 Try.underlying40 hi0 hz0 hz1 hz2 rfl (by omega) (by rfl) (unhide HB).1 (by rfl) (unhide HB).2.1 (rows_one bxR xs) (by unfold maxLen; omega) (by omega) (by simp <;> omega) ?_
               intro v6 w6 own1 hg1 hat1
               have hg1 : (((w.alloc (.cells #[.string s, .int .i64 d, .int .i64 day, .int .i64 0] 45)).drew.alloc (.cells #[] 45)).alloc (.cells #[.string s, .int .i64 d, .int .i64 day, .int .i64 0] 45)).grownBy w6 (some (w.heap.size + 1)) := hg1
               have K6 := hide (whole_far (unhide HB).2.2.1 hg1 (by omega))
               have B6 := hide ((unhide HB).2.2.2.grown hg1 (unhide HB).2.2.2.size (fun j hj => by injection hj with hj; omega))
               rw [Nat.zero_add, List.nil_append] at own1
               have O1 := hide own1
               have src2 : Src w6 4 (some ⟨w.heap.size + 2, 0, none⟩) 1 [.string s, .int .i64 d, .int .i64 day, .int .i64 0] := src_whole bxR (⟨s, d, day, 0⟩ : Bx) (whole_far (unhide HYB) hg1 (by omega))
               have S2 := hide src2
               clear own1 hg1 hat1 src2)
            | (refine step_append_src _ (by rfl) (.tmp 56) (.tmp 57) 40 (by rfl) (w.heap.size + 1) 45 i0 _ 4 40 Try.underlying40 hi0 hz0 hz1 hz2 rfl (by omega) (by rfl) (unhide HC).1 (by rfl) (unhide HC).2.1 (rows_one bxR xs) (by unfold maxLen; omega) (by omega) (by simp <;> omega) ?_
               intro v6 w6 own1 hg1 hat1
               have hg1 : (((w.alloc (.cells #[.string s, .int .i64 d, .int .i64 day, .int .i64 0] 45)).drew.alloc (.cells #[.string s, .int .i64 d, .int .i64 day, .int .i64 0] 45)).alloc (.cells #[] 45)).grownBy w6 (some (w.heap.size + 2)) := hg1
               have K6 := hide (whole_far (unhide HC).2.2.1 hg1 (by omega))
               have B6 := hide ((unhide HC).2.2.2.grown hg1 (unhide HC).2.2.2.size (fun j hj => by injection hj with hj; omega))
               rw [Nat.zero_add, List.nil_append] at own1
               have O1 := hide own1
               have src2 : Src w6 4 (some ⟨w.heap.size + 1, 0, none⟩) 1 [.string s, .int .i64 d, .int .i64 day, .int .i64 0] := src_whole bxR (⟨s, d, day, 0⟩ : Bx) (whole_far (unhide HYC) hg1 (by omega))
               have S2 := hide src2
               clear own1 hg1 hat1 src2)
            | (refine step_append_src _ (by rfl) (.tmp 58) (.tmp 60) 40 (by rfl) (w.heap.size + 1) 45 i0 _ 4 40 Try.underlying40 hi0 hz0 hz1 hz2 rfl (by omega) (by rfl) (unhide O1) (by rfl) (unhide S2) (rows_one bxR [(⟨s, d, day, 0⟩ : Bx)]) (by unfold maxLen; omega) (by omega) (by have := (unhide K6).lt; first | omega | (simp; omega)) ?_
               intro v7 w7 own2 hg2 hat2
               have b7 := first_below (unhide B6) (unhide O1) hg2 (by first | exact .inl rfl | exact .inr ⟨_, rfl⟩)
               have K6 := hide (first_whole (unhide K6) (unhide O1) hg2 (by first | exact .inl rfl | exact .inr ⟨_, rfl⟩))
               have own3 : w7.ownsRow (w.heap.size + 1) 45 bxR.sz v7 (n + 1) ((xs ++ [(⟨s, d, day, 0⟩ : Bx)]).flatMap bxR.cells) := by rw [← rows_snoc]; exact own2
               obtain ⟨A', c', rfl, -, -, hn7, hL7⟩ := list_of_own own3
               have F7 := hide (And.intro hn7 (And.intro hL7 b7))
               clear own2 own3 hg2 hat2 b7 hn7 hL7)))
        all_goals
          clear hx0 hx1 hx2 hx3 hi0 hz0 hz1 hz2
          go_wp2_with fail
          go_ret2
          obtain ⟨hn7, hL7, b7⟩ := unhide F7
          exact ⟨_, _, _, rfl, by rw [unhide HEN]; exact hn7, by rw [unhide HEN]; exact hL7, b7⟩
end Go.Proofs.Ytgalpdjmmpjddaa
