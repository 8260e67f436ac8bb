/- Walk: book. -/
import Derived.Test.YtjihkoleipkgmaaLgC
namespace Go.Proofs.Ytjihkoleipkgmaa
set_option linter.unusedVariables false
set_option linter.unusedSimpArgs false
open Go.RowKit Go.Maps

/-- what stands when the post is made -/
def BookM (wo W : World) (q : Nat) (A5 : Option Addr) (x : List En) : Prop := ListIn enR W W.heap.size A5 x ∧ (∀ b off, A5 = some ⟨b, off, none⟩ → wo.heap.size ≤ b ∧ b < W.heap.size) ∧ Below wo.heap.size wo W ∧ wo.heap.size ≤ q
theorem book_fin {w wo W7 w6 : World} {base p ma mh n np nx q c5 : Nat} {s : Lg} {v v6 : Value} {text : ByteArray} {x : List En} {A5 : Option Addr} {ts : List Pq} {o : Obj} (h : LedgerAt w base p s ma mh v n) (hok : LgOk (bookS s text x))
    (h1 : ts.length = s.P.length) (h3 : ∀ (i : Nat) (po : Po), s.P[i]? = some po → ∃ (A : Option Addr) (c : Nat), ts[i]? = some ⟨((i + 1 : Nat) : Int), po.text, A, po.ents.length, c⟩ ∧ ListIn enR w w.heap.size A po.ents ∧ ∀ (b off : Nat), A = some ⟨b, off, none⟩ → (base ≤ b ∧ b < w.heap.size) ∧ ¬ foot p ma mh v b)
    (hT : Turn (fun b => b = ma) w wo) (hM : MapAt keyKeys wo ma n (accF (bookS s text x))) (hnp : np = s.P.length) (hnx : nx = x.length) (hB : BookM wo W7 q A5 x)
    (own6 : w6.ownsRow base 46 poR.sz v6 (np + 1) ((ts ++ [(⟨(np : Int) + 1, text, A5, nx, c5⟩ : Pq)]).flatMap poR.cells)) (hg6 : (W7.alloc o).drew.grownBy w6 v.ownBlock) (hat : v6.ownBlock = v.ownBlock ∨ v6.ownBlock = some (W7.alloc o).drew.heap.size) :
    Ending.returned (.int .i64 ((np : Int) + 1)) = Ending.returned (.int .i64 ((np + 1 : Nat) : Int)) ∧ ∃ v', LedgerAt (w6.setCell ⟨p, 2, none⟩ v6) base p (bookS s text x) ma mh v' (n + 1) ∧ Turn (foot p ma mh v) w (w6.setCell ⟨p, 2, none⟩ v6) ∧ (v'.ownBlock = v.ownBlock ∨ ∃ g, v'.ownBlock = some g ∧ w.heap.size ≤ g) := by
  subst hnp hnx
  obtain ⟨hl, hA, hb, hq⟩ := hB
  exact ⟨rfl, _, book_end h hok h1 h3 hT hM ((hb.alloc hb.size o).drew) (hl.alloc o) (fun b off e => ⟨(hA b off e).1, by have := (hA b off e).2; simp; omega⟩) own6 hg6 hat⟩
set_option maxHeartbeats 8000000 in
set_option maxRecDepth 100000 in
theorem book_any (w : World) (base p ma mh n : Nat) (s : Lg) (v : Value) (text : ByteArray) (x : List En) (A : Option Addr) (nx cx mc nc : Nat) (h : LedgerAt w base p s ma mh v n) (hn : n ≤ 4000) (hx : ListIn enR w w.heap.size A x) (hnx : nx = x.length) (hnl : nx ≤ 64)
    (hfA : ∀ b off, A = some ⟨b, off, none⟩ → ¬ foot p ma mh v b) (hC : MapAt keyKeys w mc nc (chF x)) (hmc : ¬ foot p ma mh v mc) (hin : ∀ a c, inX x a c = true → (findA s.A a c).isSome = true) (hall : ∀ a ∈ s.A, a.bal + chg x a.name a.cur ≤ mostI ∧ 0 ≤ s.free a + chg x a.name a.cur) :
    Calls Try.prog 37 #[.pointer (some ⟨p, 0, none⟩), .string text, .slice A nx cx, .map (some mc)] w fun e w' => e = .returned (.int .i64 ((s.P.length + 1 : Nat) : Int)) ∧ ∃ v', LedgerAt w' base p (bookS s text x) ma mh v' (n + 1) ∧ Turn (foot p ma mh v) w w' ∧ (v'.ownBlock = v.ownBlock ∨ ∃ g, v'.ownBlock = some g ∧ w.heap.size ≤ g) := by
  obtain ⟨ow, hW⟩ := h.main
  obtain ⟨ts, ht1, ht2, ht3⟩ := h.row
  obtain ⟨np, hnp⟩ : ∃ k, k = s.P.length := ⟨_, rfl⟩
  rw [← hnp] at ht2
  obtain ⟨Ap, cp, hv, -, -, -, -⟩ := list_of_own ht2
  have hnp4 : np ≤ 4000 := by have := h.np; omega
  have HL := hide h; have HIN := hide hin; have HALL := hide hall
  have HX := hide (And.intro hx hfA)
  have HT3 := hide (And.intro ht1 ht3)
  have HO := hide ht2
  have HC := hide hC
  have HOK := hide (h.ok.book (t := text) hall)
  rw [← hnp]
  have HNP := hide hnp
  have HV := hide hv
  have HNX := hide hnx
  have hmcl := hC.lt
  have hpl := hW.lt
  have hmal := h.acc.lt
  have HMC := hide hmc
  have hpma := h.dist.1
  have hmcma : mc ≠ ma := fun e => hmc (.inr (.inl e))
  have HWM := hide hW
  have cnp : IntKind.i64.wrap ((np : Int) + 1) = ((np + 1 : Nat) : Int) := IntWalk.i64_in _ (by omega)
  have HCN := hide cnp
  clear h hx hin hall hfA hC hmc hW ht1 ht2 ht3 hnp hnx cnp
  subst hv
  go_enter Try.func37, Try.ntmps37
  go_wp2_with (at_range; refine wpList_going _ rfl _ 82 rfl 68 2 (J := keyKeys) Try.underlying82 mc nc rfl (unhide HC) ?_; intro w1 cnt hgo hgr hs1)
  try go_frame
  have ht1 : Turn (fun b => b = ma) w w1 := ⟨hgr.os, hgr.tape, hgr.output, hgr.size, fun i hi _ => hgr.block i hi (by simp)⟩
  have hm1 : MapAt keyKeys w1 ma n (accT s x (fun z => (chF x z).isSome)) := ((unhide HL).acc.kept hgr (by simp)).congr fun y _ => accT_start s x y
  go_loopw [9, 10, 11] (fun _ _ _ wr => ∃ todo cnt, Going keyKeys wr mc w.heap.size nc (chF x) todo cnt ∧ MapAt keyKeys wr ma n (accT s x todo) ∧ Turn (fun b => b = ma) w wr) (fun _ _ _ wr => wr.rangeLeft mc w.heap.size)
  case atStart => exact ⟨_, _, hgo, hm1, ht1⟩
  case round =>
    obtain ⟨todo, cnt2, hg, hM, hT⟩ := hrel
    obtain ⟨wo, rfl⟩ : ∃ wo : World, wo = wr := ⟨_, rfl⟩
    have HT := hide hT; have HM := hide hM
    clear hT hM
    go_wp2_with (at_next; refine wpList_going_next _ rfl _ rfl (fun key kl h => key_inv h) rfl hg ?_ ?_)
    · intro hc0 hl0
      have hM : MapAt keyKeys wo ma n (accF (bookS s text x)) := (unhide HM).congr fun y hy => accT_end s text x todo y (hl0 y.1 y.2 hy)
      have HM2 := hide hM
      have kp := (unhide HWM).turn (unhide HT) hpma
      have HKP := hide kp
      have hpo := kp.lt
      have cP := kp.drew.cells 2
      simp only [List.getElem?_toArray, List.getElem?_cons_zero, List.getElem?_cons_succ] at cP
      have hlx : ListIn enR wo wo.heap.size A x := list_turn (unhide HX).1 (unhide HT) fun b off e hb => (unhide HX).2 b off e (.inr (.inl hb))
      have kq := kp.alloc (.cells #[.int .i64 0, .string ⟨#[]⟩, .slice none 0 0] 46)
      have kr := Whole.made wo 46 #[.int .i64 0, .string ⟨#[]⟩, .slice none 0 0]
      have HKQ := hide (And.intro kq.drew kr.drew)
      have HCL := hide (CloneEn_any x A nx cx wo.drew (unhide HNX) (by omega) hlx)
      have HCQ := hide (CloneEn_any x A nx cx (wo.alloc (.cells #[.int .i64 0, .string ⟨#[]⟩, .slice none 0 0] 46)).drew (unhide HNX) (by omega) (hlx.alloc _))
      have cnp := unhide HCN
      clear hM kp kq kr hlx hl0 hc0 hg HM
      go_wp2_with fail
      go_region_held3 (fun w' => w'.cell? ⟨p, 2, none⟩ = some (.slice Ap np cp)) (first | (exact ((unhide HKP).drew).cells 2) | (exact (unhide HKQ).1.cells 2) | (exact (unhide K5).cells 2) | (exact ((unhide K5).alloc _).cells 2) | (exact ((((unhide K5).putFar (p := ⟨wo.heap.size, 0, none⟩) (Nat.ne_of_lt hpo) _).putFar (p := ⟨wo.heap.size, 1, none⟩) (Nat.ne_of_lt hpo) _).putFar (p := ⟨wo.heap.size, 2, none⟩) (Nat.ne_of_lt hpo) _).cells 2))
        ((first
          | (go_at_call 61
             (with_reducible refine (unhide HCL).mono ?_)
             rintro e w5 ⟨v5, rfl, own5, hb5⟩
             obtain ⟨A5, c5, rfl, hl5, hA5⟩ := Clone_list own5
             have K5 := hide (((unhide HKP).drew).after hb5)
             have H5 := hide (And.intro hl5 (And.intro hA5 hb5))
             have f1 := (unhide K5).cells 2
             simp only [List.getElem?_toArray, List.getElem?_cons_zero, List.getElem?_cons_succ] at f1
             clear own5 hb5 hl5 hA5)
          | (go_at_call 61
             (with_reducible refine (unhide HCQ).mono ?_)
             rintro e w5 ⟨v5, rfl, own5, hb5⟩
             obtain ⟨A5, c5, rfl, hl5, hA5⟩ := Clone_list own5
             have K5 := hide ((unhide HKQ).1.after hb5)
             have K6 := hide ((unhide HKQ).2.after hb5)
             have H5 := hide (And.intro hl5 (And.intro hA5 hb5))
             have f1 := (unhide K5).cells 2
             simp only [List.getElem?_toArray, List.getElem?_cons_zero, List.getElem?_cons_succ] at f1
             have f2 := (unhide K6).cells
             have f3 := (unhide K6).soft
             clear own5 hb5 hl5 hA5)))
      · have C7 : Hid (Whole (w5.alloc (.cells #[.int .i64 ((np : Int) + 1), .string text, .slice A5 nx c5] 46)) p 75 #[.string ow, .map (some ma), .slice Ap np cp, .map (some mh)] ∧ Whole (w5.alloc (.cells #[.int .i64 ((np : Int) + 1), .string text, .slice A5 nx c5] 46)) w5.heap.size 46 #[.int .i64 ((np : Int) + 1), .string text, .slice A5 nx c5] ∧ BookM wo (w5.alloc (.cells #[.int .i64 ((np : Int) + 1), .string text, .slice A5 nx c5] 46)) w5.heap.size A5 x) :=
          hide ⟨(unhide K5).alloc _, Whole.made w5 _ _, (unhide H5).1.alloc _, fun b off e => ⟨((unhide H5).2.1 b off e).1, by have := ((unhide H5).2.1 b off e).2; simp; omega⟩, (((Below.refl wo.heap.size wo).drew).trans (unhide H5).2.2).alloc (unhide H5).2.2.size _, (unhide H5).2.2.size⟩
        clear K5 H5 f1 HKP HKQ HCL HCQ
        generalize (w5.alloc (.cells #[.int .i64 ((np : Int) + 1), .string text, .slice A5 nx c5] 46)) = W7 at C7 ⊢
        generalize w5.heap.size = q at C7 ⊢
        have hpq : p ≠ q := by have := (unhide C7).2.2.2.2.2; omega
        have hsz7 : wo.heap.size ≤ W7.heap.size := (unhide C7).2.2.2.2.1.size
        have hsw := (unhide HT).size
        have cP := (unhide C7).1.drew.cells
        have cP2 := fun o => ((unhide C7).1.alloc o).drew.cells
        have cQ := (unhide C7).2.1.drew.cells
        have cQ2 := fun o => ((unhide C7).2.1.alloc o).drew.cells
        obtain ⟨i0, hi0, hz0, hz1, hz2⟩ := info_parts info_po
        have hT7 : Turn (fun b => b = ma) w W7 := (unhide HT).after (unhide C7).2.2.2.2.1
        have ho7 : (W7.alloc (.cells #[.int .i64 ((np : Int) + 1), .string text, .slice A5 nx c5] 46)).drew.ownsRow base 46 3 (.slice Ap np cp) np (ts.flatMap poR.cells) := own_turn (unhide HO) ((hT7.alloc _).drew) (fun g hg e => ((unhide HL).dist.2.2.2 g hg).2.1 e)
        have hs7 : Src (W7.alloc (.cells #[.int .i64 ((np : Int) + 1), .string text, .slice A5 nx c5] 46)).drew 3 (some ⟨W7.heap.size, 0, none⟩) 1 (poR.cells ⟨(np : Int) + 1, text, A5, nx, c5⟩) := src_new poR W7 ⟨(np : Int) + 1, text, A5, nx, c5⟩ 46 W7.heap.size rfl
        have hbs : base ≤ (W7.alloc (.cells #[.int .i64 ((np : Int) + 1), .string text, .slice A5 nx c5] 46)).drew.heap.size := by have := (unhide HL).low.1; simp; omega
        have HO7 := hide ho7; have HS7 := hide hs7; have HBS := hide hbs
        clear hT7 ho7 hs7 hbs
        go_wp2_with fail
        go_region_law ((first
          | (refine step_append_src _ (by rfl) (.tmp 51) (.tmp 53) 40 (by rfl) base 46 i0 _ 3 48 Try.underlying40 hi0 hz0 hz1 hz2 rfl (by omega) (by rfl) (unhide HO7) (by rfl) (unhide HS7) (poR.one _) (by unfold maxLen; omega) (by omega) (unhide HBS) ?_
             intro v6 w6 own6 hg6 hat6
             rw [rows_snoc] at own6
             obtain ⟨A6, c6, rfl, -, -, -, -⟩ := list_of_own own6
             have t67 := (Turn.refl (fun b => (Value.slice Ap np cp).ownBlock = some b) _).grown hg6 fun k e => .inl e
             have kp9 := (((unhide C7).1.alloc (.cells #[.int .i64 ((np : Int) + 1), .string text, .slice A5 nx c5] 46)).drew).turn t67 (fun e => ((unhide HL).dist.2.2.2 p e).1 rfl)
             have kq9 := (((unhide C7).2.1.alloc (.cells #[.int .i64 ((np : Int) + 1), .string text, .slice A5 nx c5] 46)).drew).turn t67 (fun e => by have := ((unhide HL).rowlt q e).2; have := (unhide C7).2.2.2.2.2; omega)
             have cP9 := kp9.cells 2
             have sP9 := kp9.soft 2
             have cQ9 := (kq9.putFar (p := ⟨p, 2, none⟩) (fun e => hpq e.symm) (.slice A6 (np + 1) c6)).cells 0
             simp only [List.getElem?_toArray, List.getElem?_cons_zero, List.getElem?_cons_succ] at cP9 cQ9
             have F9 := hide (And.intro own6 (And.intro hg6 hat6))
             clear own6 hg6 hat6 t67 kp9 kq9)))
        all_goals
          go_wp2_with fail
          go_ret
          exact book_fin (unhide HL) (unhide HOK) (unhide HT3).1 (unhide HT3).2 (unhide HT) (unhide HM2) (unhide HNP) (unhide HNX) (unhide C7).2.2 (unhide F9).1 (unhide F9).2.1 (unhide F9).2.2
      · have C7 : Hid (Whole (((w5.setCell ⟨wo.heap.size, 0, none⟩ (.int .i64 ((np : Int) + 1))).setCell ⟨wo.heap.size, 1, none⟩ (.string text)).setCell ⟨wo.heap.size, 2, none⟩ (.slice A5 nx c5)) p 75 #[.string ow, .map (some ma), .slice Ap np cp, .map (some mh)] ∧ Whole (((w5.setCell ⟨wo.heap.size, 0, none⟩ (.int .i64 ((np : Int) + 1))).setCell ⟨wo.heap.size, 1, none⟩ (.string text)).setCell ⟨wo.heap.size, 2, none⟩ (.slice A5 nx c5)) wo.heap.size 46 #[.int .i64 ((np : Int) + 1), .string text, .slice A5 nx c5] ∧ BookM wo (((w5.setCell ⟨wo.heap.size, 0, none⟩ (.int .i64 ((np : Int) + 1))).setCell ⟨wo.heap.size, 1, none⟩ (.string text)).setCell ⟨wo.heap.size, 2, none⟩ (.slice A5 nx c5)) wo.heap.size A5 x) := by
          have tq : Turn (fun b => b = wo.heap.size) w5 (((w5.setCell ⟨wo.heap.size, 0, none⟩ (.int .i64 ((np : Int) + 1))).setCell ⟨wo.heap.size, 1, none⟩ (.string text)).setCell ⟨wo.heap.size, 2, none⟩ (.slice A5 nx c5)) :=
            (((Turn.refl (fun b => b = wo.heap.size) w5).setCell (p := ⟨wo.heap.size, 0, none⟩) (.inl rfl) _).setCell (p := ⟨wo.heap.size, 1, none⟩) (.inl rfl) _).setCell (p := ⟨wo.heap.size, 2, none⟩) (.inl rfl) _
          have hsz : (wo.alloc (.cells #[.int .i64 0, .string ⟨#[]⟩, .slice none 0 0] 46)).drew.heap.size = wo.heap.size + 1 := by simp
          have hlo := fun b off e => (unhide H5).2.1 b off e
          have hb5 := (unhide H5).2.2
          rw [hsz] at hb5
          have hb6 : Below wo.heap.size wo w5 := (((Below.refl wo.heap.size wo).alloc (Nat.le_refl _) _).drew).trans (hb5.mono (Nat.le_succ _))
          exact hide ⟨(unhide K5).turn tq (Nat.ne_of_lt hpo), by simpa using (((unhide K6).put 0 (.int .i64 ((np : Int) + 1))).put 1 (.string text)).put 2 (.slice A5 nx c5), list_turn (unhide H5).1 tq (fun b off e hh => by have := (hlo b off e).1; omega), fun b off e => ⟨by have := (hlo b off e).1; omega, Nat.lt_of_lt_of_le (hlo b off e).2 tq.size⟩, hb6.trans (tq.below (fun k hk => Nat.le_of_eq hk.symm) hb6.size), Nat.le_refl _⟩
        clear K5 K6 H5 f1 f2 f3 HKP HKQ HCL HCQ
        generalize (((w5.setCell ⟨wo.heap.size, 0, none⟩ (.int .i64 ((np : Int) + 1))).setCell ⟨wo.heap.size, 1, none⟩ (.string text)).setCell ⟨wo.heap.size, 2, none⟩ (.slice A5 nx c5)) = W7 at C7 ⊢
        obtain ⟨q, hq⟩ : ∃ q, q = wo.heap.size := ⟨_, rfl⟩
        rw [← hq] at C7 ⊢
        clear hq
        have hpq : p ≠ q := by have := (unhide C7).2.2.2.2.2; omega
        have hsz7 : wo.heap.size ≤ W7.heap.size := (unhide C7).2.2.2.2.1.size
        have hsw := (unhide HT).size
        have cP := (unhide C7).1.drew.cells
        have cP2 := fun o => ((unhide C7).1.alloc o).drew.cells
        have cQ := (unhide C7).2.1.drew.cells
        have cQ2 := fun o => ((unhide C7).2.1.alloc o).drew.cells
        obtain ⟨i0, hi0, hz0, hz1, hz2⟩ := info_parts info_po
        have hT7 : Turn (fun b => b = ma) w W7 := (unhide HT).after (unhide C7).2.2.2.2.1
        have ho7 : (W7.alloc (.cells #[.int .i64 ((np : Int) + 1), .string text, .slice A5 nx c5] 46)).drew.ownsRow base 46 3 (.slice Ap np cp) np (ts.flatMap poR.cells) := own_turn (unhide HO) ((hT7.alloc _).drew) (fun g hg e => ((unhide HL).dist.2.2.2 g hg).2.1 e)
        have hs7 : Src (W7.alloc (.cells #[.int .i64 ((np : Int) + 1), .string text, .slice A5 nx c5] 46)).drew 3 (some ⟨W7.heap.size, 0, none⟩) 1 (poR.cells ⟨(np : Int) + 1, text, A5, nx, c5⟩) := src_new poR W7 ⟨(np : Int) + 1, text, A5, nx, c5⟩ 46 W7.heap.size rfl
        have hbs : base ≤ (W7.alloc (.cells #[.int .i64 ((np : Int) + 1), .string text, .slice A5 nx c5] 46)).drew.heap.size := by have := (unhide HL).low.1; simp; omega
        have HO7 := hide ho7; have HS7 := hide hs7; have HBS := hide hbs
        clear hT7 ho7 hs7 hbs
        go_wp2_with fail
        go_region_law ((first
          | (refine step_append_src _ (by rfl) (.tmp 51) (.tmp 53) 40 (by rfl) base 46 i0 _ 3 48 Try.underlying40 hi0 hz0 hz1 hz2 rfl (by omega) (by rfl) (unhide HO7) (by rfl) (unhide HS7) (poR.one _) (by unfold maxLen; omega) (by omega) (unhide HBS) ?_
             intro v6 w6 own6 hg6 hat6
             rw [rows_snoc] at own6
             obtain ⟨A6, c6, rfl, -, -, -, -⟩ := list_of_own own6
             have t67 := (Turn.refl (fun b => (Value.slice Ap np cp).ownBlock = some b) _).grown hg6 fun k e => .inl e
             have kp9 := (((unhide C7).1.alloc (.cells #[.int .i64 ((np : Int) + 1), .string text, .slice A5 nx c5] 46)).drew).turn t67 (fun e => ((unhide HL).dist.2.2.2 p e).1 rfl)
             have kq9 := (((unhide C7).2.1.alloc (.cells #[.int .i64 ((np : Int) + 1), .string text, .slice A5 nx c5] 46)).drew).turn t67 (fun e => by have := ((unhide HL).rowlt q e).2; have := (unhide C7).2.2.2.2.2; omega)
             have cP9 := kp9.cells 2
             have sP9 := kp9.soft 2
             have cQ9 := (kq9.putFar (p := ⟨p, 2, none⟩) (fun e => hpq e.symm) (.slice A6 (np + 1) c6)).cells 0
             simp only [List.getElem?_toArray, List.getElem?_cons_zero, List.getElem?_cons_succ] at cP9 cQ9
             have F9 := hide (And.intro own6 (And.intro hg6 hat6))
             clear own6 hg6 hat6 t67 kp9 kq9)))
        all_goals
          go_wp2_with fail
          go_ret
          exact book_fin (unhide HL) (unhide HOK) (unhide HT3).1 (unhide HT3).2 (unhide HT) (unhide HM2) (unhide HNP) (unhide HNX) (unhide C7).2.2 (unhide F9).1 (unhide F9).2.1 (unhide F9).2.2
    · intro yn yc u w2 cnt3 hgood htodo hfx hg2 hlt hgr2 hsz2 hen
      obtain ⟨hyin, rfl⟩ := chF_some hfx
      obtain ⟨a, ha⟩ := Option.isSome_iff_exists.1 (unhide HIN yn yc hyin)
      obtain ⟨ham, hn1, hc1⟩ := findA_some ha
      have hsm := (unhide HL).ok.small ham
      have hal := unhide HALL a ham
      rw [hn1, hc1] at hal
      unfold Lg.free at hal hsm
      have hfy : accT s x todo (yn, yc) = some (.agg #[.int .i64 a.floor, .int .i64 a.bal, .int .i64 (s.held a)]) := by
        unfold accT
        simp only [ha, Option.map_some, htodo, Bool.not_true, Bool.and_false, if_neg (show ¬ (false = true) by simp), Int.add_zero]
      have hstep := fun z => accT_step s x todo (yn, yc) hyin ha z
      have hT2 : Turn (fun b => b = ma) w w2 := (unhide HT).grown hgr2 (fun k e => by injection e with e; subst e; exact .inr (Nat.le_refl _))
      have hM2 : MapAt keyKeys w2 ma n (accT s x todo) := (unhide HM).kept hgr2 (fun e => by injection e with e; omega)
      have ekv : keyKeys.kv (yn, yc) = .agg #[.string yn, .string yc] := rfl
      simp only [ekv] at hen ⊢
      clear ekv hsz2
      obtain ⟨q1, hq1⟩ : ∃ q, q = a.floor := ⟨_, rfl⟩
      obtain ⟨q2, hq2⟩ : ∃ q, q = a.bal := ⟨_, rfl⟩
      obtain ⟨q3, hq3⟩ : ∃ q, q = s.held a := ⟨_, rfl⟩
      obtain ⟨d, hd⟩ : ∃ q, q = chg x yn yc := ⟨_, rfl⟩
      obtain ⟨r, hr⟩ : ∃ q, q = q2 + d := ⟨_, rfl⟩
      rw [← hq1, ← hq2, ← hq3] at hfy hsm
      rw [← hd] at hal hen ⊢
      rw [← hq1, ← hq2, ← hq3] at hal
      unfold mostI at hal hsm
      have cr : IntKind.i64.wrap (q2 + d) = r := by rw [hr]; exact IntWalk.i64_in _ (by omega)
      have hst2 : ∀ z, (if z = (yn, yc) then some (.agg #[.int .i64 q1, .int .i64 r, .int .i64 q3]) else accT s x todo z) = accT s x (fun z => todo z && !decide (z = (yn, yc))) z := fun z => by
        rw [hr, hq1, hq2, hq3, hd]; exact hstep z
      have a1 := ((unhide HWM).turn hT2 hpma).alloc (.cells #[.string yn, .string yc] 68)
      have a2 := Whole.made w2 68 #[.string yn, .string yc]
      have aM := hM2.alloc (.cells #[.string yn, .string yc] 68)
      have hl : ∀ W : World, MapAt keyKeys W ma n (accT s x todo) → (Instr.lookup 72 (.map (some ma)) (.agg #[.string yn, .string yc]) false).run Try.prog W = .ok (.agg #[.int .i64 q1, .int .i64 q2, .int .i64 q3]) W := fun W hm => hm.look_some (t := 72) (e := 70) Try.underlying72 (zeroAcc _) (x := (yn, yc)) hgood hfy false
      have hl1 := hl _ aM.drew
      have hl2 := fun o => hl _ (aM.alloc o).drew
      have b1 := ((a1.alloc (.cells #[.int .i64 q1, .int .i64 r, .int .i64 q3] 70)).drew).drew
      have b2 := ((a2.alloc (.cells #[.int .i64 q1, .int .i64 r, .int .i64 q3] 70)).drew).drew
      have b3 := ((Whole.made_at (w2.alloc (.cells #[.string yn, .string yc] 68)) 70 #[.int .i64 q1, .int .i64 r, .int .i64 q3] (w2.heap.size + 1) (by simp)).drew).drew
      have bM := ((aM.alloc (.cells #[.int .i64 q1, .int .i64 r, .int .i64 q3] 70)).drew).drew
      have bb := ((((Below.refl w2.heap.size w2).alloc (Nat.le_refl _) (.cells #[.string yn, .string yc] 68)).alloc (by simp) (.cells #[.int .i64 q1, .int .i64 r, .int .i64 q3] 70)).drew).drew
      have hpw := a1.lt
      have cP := a1.drew.cells
      have cP2 := fun o => (a1.alloc o).drew.cells
      have cK := a2.drew.cells
      have cK2 := fun o => (a2.alloc o).drew.cells
      have HG := hide hgood
      have HFY := hide hfy
      have H3 := hide (And.intro b1 (And.intro b2 (And.intro b3 (And.intro bM bb))))
      have HS := hide hst2
      have HT2 := hide hT2
      have HG1 := hide hg
      have HG2 := hide hg2
      have HLT := hide hlt
      clear hgood hfx hg hg2 hlt hT2 hM2 a1 a2 aM hl hst2 b1 b2 b3 bM bb hstep hfy hsm hal ha ham hn1 hc1 hq1 hq2 hq3 hd hr hyin htodo
      go_wp2_with fail
      go_region
      clear cP cP2 cK cK2 hl1 hl2
      go_wp2_with fail
      have cP := (unhide H3).1.cells
      have cK := (unhide H3).2.1.cells
      have cA := (unhide H3).2.2.1.cells
      refine wp_tail 6 (by kernel_rfl) (by kernel_rfl) ?_
      simp only [List.take_succ_cons, List.take_zero, List.drop_succ_cons, List.drop_zero]
      repeat still_step
      refine wpStill_nil ?_
      clear cP cK cA
      refine wpList_put_old _ rfl (.tmp 34) (.tmp 35) (.tmp 36) 72 rfl (J := keyKeys) Try.underlying72 rfl (unhide H3).2.2.2.1 (by unfold maxLen; omega) (y := (yn, yc)) (unhide HG) ?_ (val := .agg #[.int .i64 q1, .int .i64 r, .int .i64 q3]) rfl rfl ?_
      · rw [unhide HFY]; rfl
      · intro w4 hm4 hg4
        have HM4 := hide (And.intro hm4 hg4)
        clear hm4 hg4
        simp only [Act.put]
        go_wp2_with fail
        go_roundw
        case rel =>
          obtain ⟨b1, b2, b3, bM, bb⟩ := unhide H3
          obtain ⟨hm4, hg4⟩ := unhide HM4
          exact ⟨_, _, (unhide HG2).kept (grown_since bb hg4) (fun e => by injection e with e; exact hmcma e) (fun e => by injection e with e; omega), hm4.congr fun z _ => unhide HS z, (unhide HT2).trans ((Turn.of_below bb).trans (turn_row hg4 rfl))⟩
        case measure =>
          rw [((unhide HG2).kept (grown_since (unhide H3).2.2.2.2 (unhide HM4).2) (fun e => by injection e with e; exact hmcma e) (fun e => by injection e with e; omega)).measure, (unhide HG1).measure]
          exact unhide HLT
end Go.Proofs.Ytjihkoleipkgmaa
