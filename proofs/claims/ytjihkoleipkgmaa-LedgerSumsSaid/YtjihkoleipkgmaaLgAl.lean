/- Walk: two ledgers that stand alike are found alike. -/
import Derived.Test.YtjihkoleipkgmaaLgAc
import Derived.Test.YtjihkoleipkgmaaLgPo
import Derived.Test.YtjihkoleipkgmaaLgSm
namespace Go.Proofs.Ytjihkoleipkgmaa
set_option linter.unusedVariables false
set_option linter.unusedSimpArgs false
open Go.RowKit Go.Maps

theorem HoldsOf.unique {s : Lg} {gs hs : List Ho} (h : HoldsOf s gs) (k : HoldsOf s hs) : gs = hs := by
  have nd1 : gs.Nodup := h.rise.imp fun {a b} hab e => by subst e; exact List.lt_irrefl _ hab
  have nd2 : hs.Nodup := k.rise.imp fun {a b} hab e => by subst e; exact List.lt_irrefl _ hab
  have hp : gs.Perm hs := (List.perm_ext_iff_of_nodup nd1 nd2).2 fun g => (h.mem g).trans (k.mem g).symm
  exact List.Perm.eq_of_pairwise (le := fun (g h : Ho) => g.id.data.toList < h.id.data.toList) (fun x y _ _ h1 h2 => absurd (List.lt_trans h1 h2) (List.lt_irrefl _)) h.rise k.rise hp
theorem ho_at {w : World} {B : Nat} {A : Option Addr} {xs : List Ho} (h : ListIn hoR w B A xs) {i : Nat} {x : Ho} (hx : xs[i]? = some x) :
    ∃ b off, A = some ⟨b, off, none⟩ ∧ b < B ∧ w.cell? ⟨b, off + i * 4, none⟩ = some (.string x.id) ∧ w.cell? ⟨b, off + i * 4 + 1, none⟩ = some (.string x.acct) ∧ w.cell? ⟨b, off + i * 4 + 2, none⟩ = some (.string x.cur) ∧ w.cell? ⟨b, off + i * 4 + 3, none⟩ = some (.int .i64 x.amt) := by
  obtain ⟨b, off, e, hb, hc⟩ := h.at hx
  exact ⟨b, off, e, hb, hc 0 _ rfl, hc 1 _ rfl, hc 2 _ rfl, hc 3 _ rfl⟩
/-- posts in a slice -/
def PostsAt (w : World) (A : Option Addr) (P : List Po) : Prop := ∃ ts : List Pq, ts.length = P.length ∧ ListIn poR w w.heap.size A ts ∧ PostsIn w ts P
theorem PostsAt.after {w w' : World} {A : Option Addr} {P : List Po} (h : PostsAt w A P) (hb : Below w.heap.size w w') : PostsAt w' A P := by
  obtain ⟨ts, h1, h2, h3⟩ := h
  exact ⟨ts, h1, h2.after hb, fun i po hi => by obtain ⟨A, c, q1, q2⟩ := h3 i po hi; exact ⟨A, c, q1, q2.after hb⟩⟩
theorem PostsAt.at {w : World} {A : Option Addr} {P : List Po} (h : PostsAt w A P) {i : Nat} {po : Po} (hi : P[i]? = some po) :
    ∃ b off E c, A = some ⟨b, off, none⟩ ∧ b < w.heap.size ∧ w.cell? ⟨b, off + i * 3, none⟩ = some (.int .i64 ((i : Int) + 1)) ∧ w.cell? ⟨b, off + i * 3 + 1, none⟩ = some (.string po.text) ∧ w.cell? ⟨b, off + i * 3 + 2, none⟩ = some (.slice E po.ents.length c) ∧ ListIn enR w w.heap.size E po.ents := by
  obtain ⟨ts, h1, h2, h3⟩ := h
  obtain ⟨E, c, q1, q2⟩ := h3 i po hi
  obtain ⟨b, off, e, hb, hc⟩ := h2.at q1
  exact ⟨b, off, E, c, e, hb, (hc 0 _ rfl).trans (by simp), hc 1 _ rfl, hc 2 _ rfl, q2⟩
theorem Posts_in (w : World) (base p ma mh n : Nat) (s : Lg) (v : Value) (h : LedgerAt w base p s ma mh v n) (hn : n ≤ 5000) (hpl : ∀ po ∈ s.P, po.ents.length ≤ 100000) :
    Calls Try.prog 19 #[.pointer (some ⟨p, 0, none⟩)] w fun e w' => ∃ A c, e = .returned (.slice A s.P.length c) ∧ PostsAt w' A s.P ∧ s.P.length ≤ c ∧ c ≤ maxLen ∧ Below w.heap.size w w' := by
  refine (Posts_any w base p ma mh n s v h hn hpl).mono ?_
  rintro e w' ⟨v, rfl, hr, hb⟩
  obtain ⟨ts, h1, h2, h3⟩ := hr
  obtain ⟨A, c, rfl, h4, h5, h6, h7⟩ := list_of_own h2
  exact ⟨A, c, rfl, ⟨ts, h1, h7, fun i po hi => by obtain ⟨A, c, q1, q2, _⟩ := h3 i po hi; exact ⟨A, c, q1, q2⟩⟩, h4, h5, hb⟩

set_option maxHeartbeats 16000000 in
set_option maxRecDepth 100000 in
theorem alike_any (w : World) (base p ma mh n base2 p2 ma2 mh2 n2 : Nat) (s : Lg) (v v2 : Value) (h : LedgerAt w base p s ma mh v n) (h2 : LedgerAt w base2 p2 s ma2 mh2 v2 n2) (hn : n ≤ 5000) (hn2 : n2 ≤ 5000) (hA : s.A.length ≤ 5000) (hpl : ∀ po ∈ s.P, po.ents.length ≤ 100000) :
    Calls Try.prog 23 #[.pointer (some ⟨p, 0, none⟩), .pointer (some ⟨p2, 0, none⟩)] w fun e w' => e = .returned (.bool true) ∧ Below w.heap.size w w' := by
  have HL := hide h; have HL2 := hide h2
  have HPL := hide hpl; have HAL := hide hA
  have hnp : s.P.length ≤ 5000 := by have := h.np; omega
  have HNP := hide hnp
  clear h h2 hA hpl hnp
  go_enter Try.func23, Try.ntmps23
  go_wp2_with fail
  (with_reducible refine (Accounts_any w _ _ _ _ _ _ _ (unhide HL) hn (unhide HAL)).mono ?_); rintro e w1 ⟨A1, c1, ys, rfl, hac, hl1, hc1, hm1, hy1, hb⟩
  have B1 := hide hb
  have X1 := hide hl1; have HAC := hide hac
  clear hb hl1 hac
  go_wp2_with fail
  (with_reducible refine (Accounts_any w1 _ _ _ _ _ _ _ ((unhide HL2).after (unhide B1)) hn2 (unhide HAL)).mono ?_); rintro e w2 ⟨A2, c2, ys2, rfl, hac, hl2, hc2, hm2, hy2, hb⟩
  obtain rfl := (unhide HAC).unique hac
  have B2 := hide ((unhide B1).trans (hb.mono (unhide B1).size))
  have X2 := hide (And.intro ((unhide X1).after hb) hl2)
  clear hb hl2 hac
  go_wp2_with fail
  (with_reducible refine (Holds_any w2 _ _ _ _ _ _ _ ((unhide HL).after (unhide B2)) hn).mono ?_); rintro e w3 ⟨A3, c3, gs, rfl, hgs, hl3, hc3, hm3, hg3, hb⟩
  have B3 := hide ((unhide B2).trans (hb.mono (unhide B2).size))
  have X3 := hide (And.intro ((unhide X2).1.after hb) (And.intro ((unhide X2).2.after hb) hl3))
  have HGS := hide hgs
  clear hb hl3 hgs
  go_wp2_with fail
  (with_reducible refine (Holds_any w3 _ _ _ _ _ _ _ ((unhide HL2).after (unhide B3)) hn2).mono ?_); rintro e w4 ⟨A4, c4, gs2, rfl, hgs, hl4, hc4, hm4, hg4, hb⟩
  obtain rfl := (unhide HGS).unique hgs
  have B4 := hide ((unhide B3).trans (hb.mono (unhide B3).size))
  have X4 := hide (And.intro ((unhide X3).1.after hb) (And.intro ((unhide X3).2.1.after hb) (And.intro ((unhide X3).2.2.after hb) hl4)))
  clear hb hl4 hgs
  go_wp2_with fail
  (with_reducible refine (Posts_in w4 _ _ _ _ _ _ _ ((unhide HL).after (unhide B4)) hn (unhide HPL)).mono ?_); rintro e w5 ⟨A5, c5, rfl, hp5, hc5, hm5, hb⟩
  have B5 := hide ((unhide B4).trans (hb.mono (unhide B4).size))
  have X5 := hide (And.intro ((unhide X4).1.after hb) (And.intro ((unhide X4).2.1.after hb) (And.intro ((unhide X4).2.2.1.after hb) ((unhide X4).2.2.2.after hb))))
  have Y5 := hide hp5
  clear hb hp5
  go_wp2_with fail
  (with_reducible refine (Posts_in w5 _ _ _ _ _ _ _ ((unhide HL2).after (unhide B5)) hn2 (unhide HPL)).mono ?_); rintro e w6 ⟨A6, c6, rfl, hp6, hc6, hm6, hb⟩
  have B6 := hide ((unhide B5).trans (hb.mono (unhide B5).size))
  have X6 := hide (And.intro ((unhide X5).1.after hb) (And.intro ((unhide X5).2.1.after hb) (And.intro ((unhide X5).2.2.1.after hb) ((unhide X5).2.2.2.after hb))))
  have Y6 := hide (And.intro ((unhide Y5).after hb) hp6)
  clear hb hp6
  obtain ⟨ny, hny⟩ : ∃ k, k = ys.length := ⟨_, rfl⟩
  obtain ⟨ng, hng⟩ : ∃ k, k = gs.length := ⟨_, rfl⟩
  obtain ⟨np, hnp⟩ : ∃ k, k = s.P.length := ⟨_, rfl⟩
  rw [← hny] at hc1 hc2 hy1 hy2 ⊢
  rw [← hng] at hc3 hc4 hg3 hg4 ⊢
  rw [← hnp] at hc5 hc6 ⊢
  have hnp5 : np ≤ 5000 := by have := unhide HNP; omega
  unfold maxLen at hm1 hm2 hm3 hm4 hm5 hm6
  have HNY := hide hny; have HNG := hide hng; have HNPP := hide hnp
  have HS := hide (Same_same ys A1 A2 ny c1 c2 w6 hny (by omega) (unhide X6).1 (unhide X6).2.1)
  clear hny hng hnp
  go_wp2_with fail
  (with_reducible refine (unhide HS).mono ?_); rintro e w7 ⟨rfl, hb⟩
  have B7 := hide ((unhide B6).trans (hb.mono (unhide B6).size))
  have X7 := hide (And.intro ((unhide X6).1.after hb) (And.intro ((unhide X6).2.1.after hb) (And.intro ((unhide X6).2.2.1.after hb) ((unhide X6).2.2.2.after hb))))
  have Y7 := hide (And.intro ((unhide Y6).1.after hb) ((unhide Y6).2.after hb))
  clear hb HS
  go_wp2_with fail
  go_loopw [11, 50] (fun _ i wr => ∃ k : Nat, k ≤ ng ∧ i = .int .i64 k ∧ Below w7.heap.size w7 wr) (fun _ i _ => ng - (intOf i).toNat)
  case atStart => exact ⟨0, Nat.zero_le _, rfl, Below.refl _ _⟩
  case round =>
    obtain ⟨k, hk, rfl, hb⟩ := hrel
    obtain ⟨wp, rfl⟩ : ∃ wp : World, wp = wr := ⟨_, rfl⟩
    by_cases hlt : k < ng
    · obtain ⟨x, hx⟩ : ∃ x, gs[k]? = some x := ⟨gs[k]'(by rw [← unhide HNG]; exact hlt), List.getElem?_eq_getElem _⟩
      obtain ⟨b1, o1, rfl, hbb1, e0, e1, e2, e3⟩ := ho_at ((unhide X7).2.2.1.after hb) hx
      obtain ⟨b2, o2, rfl, hbb2, f0, f1, f2, f3⟩ := ho_at ((unhide X7).2.2.2.after hb) hx
      have HB := hide hb
      have i1 : (0 : Int) ≤ (k : Int) := by omega
      have i2 : (k : Int) < (ng : Int) := by omega
      clear hx hb
      go_wp2_with fail
      go_quiet (fail)
      go_wp2_with fail
      all_goals
        go_roundw
        case rel => exact ⟨k + 1, by omega, by go_num, below_drewN (unhide HB) _⟩
        case measure => simp [intOf]; omega
    · obtain rfl : k = ng := by omega
      have B8 := hide ((unhide B7).trans (hb.mono (unhide B7).size))
      have X8 := hide (And.intro ((unhide X7).1.after hb) ((unhide X7).2.1.after hb))
      have Y8 := hide (And.intro ((unhide Y7).1.after hb) ((unhide Y7).2.after hb))
      clear hb
      go_wp2_with fail
      go_loopw [12, 65] (fun _ i wr => ∃ k : Nat, k ≤ np ∧ i = .int .i64 k ∧ Below wp.heap.size wp wr) (fun _ i _ => np - (intOf i).toNat)
      case atStart => exact ⟨0, Nat.zero_le _, rfl, Below.refl _ _⟩
      case round =>
        obtain ⟨j, hj, rfl, hb⟩ := hrel
        obtain ⟨wq, rfl⟩ : ∃ wq : World, wq = wr := ⟨_, rfl⟩
        by_cases hlt : j < np
        · obtain ⟨po, hpo⟩ : ∃ x, s.P[j]? = some x := ⟨s.P[j]'(by rw [← unhide HNPP]; exact hlt), List.getElem?_eq_getElem _⟩
          obtain ⟨b1, o1, E1, d1, rfl, hbb1, e0, e1, e2, hE1⟩ := ((unhide Y8).1.after hb).at hpo
          obtain ⟨b2, o2, E2, d2, rfl, hbb2, f0, f1, f2, hE2⟩ := ((unhide Y8).2.after hb).at hpo
          have hel := unhide HPL po (List.mem_of_getElem? hpo)
          have HSM := hide (fun W (hb : Below wq.heap.size wq W) => Same_same po.ents E1 E2 po.ents.length d1 d2 W rfl hel (hE1.after hb) (hE2.after hb))
          obtain ⟨ne, hne⟩ : ∃ k, k = po.ents.length := ⟨_, rfl⟩
          rw [← hne] at e2 f2 HSM
          have HB := hide hb
          have i1 : (0 : Int) ≤ (j : Int) := by omega
          have i2 : (j : Int) < (np : Int) := by omega
          have hce : Hid (∀ W, Below wq.heap.size wq W → (W.cell? ⟨b1, o1 + j * 3, none⟩ = some (.int .i64 ((j : Int) + 1)) ∧ W.cell? ⟨b1, o1 + j * 3 + 1, none⟩ = some (.string po.text) ∧ W.cell? ⟨b1, o1 + j * 3 + 2, none⟩ = some (.slice E1 ne d1)) ∧
              W.cell? ⟨b2, o2 + j * 3, none⟩ = some (.int .i64 ((j : Int) + 1)) ∧ W.cell? ⟨b2, o2 + j * 3 + 1, none⟩ = some (.string po.text) ∧ W.cell? ⟨b2, o2 + j * 3 + 2, none⟩ = some (.slice E2 ne d2)) :=
            hide fun W hb => ⟨⟨(old_cells hb b1 _ hbb1).trans e0, (old_cells hb b1 _ hbb1).trans e1, (old_cells hb b1 _ hbb1).trans e2⟩, (old_cells hb b2 _ hbb2).trans f0, (old_cells hb b2 _ hbb2).trans f1, (old_cells hb b2 _ hbb2).trans f2⟩
          have GB : Hid (Below wq.heap.size wq wq.drew) := hide (Below.refl _ _).drew
          have q0 : (po.text.toList == po.text.toList) = true := by simp
          clear hpo hb hel hE1 hE2 hne
          go_wp2_with fail
          go_region_held3 (fun w' => (w'.cell? ⟨b1, o1 + j * 3, none⟩ = some (.int .i64 ((j : Int) + 1)) ∧ w'.cell? ⟨b1, o1 + j * 3 + 1, none⟩ = some (.string po.text) ∧ w'.cell? ⟨b1, o1 + j * 3 + 2, none⟩ = some (.slice E1 ne d1)) ∧
              w'.cell? ⟨b2, o2 + j * 3, none⟩ = some (.int .i64 ((j : Int) + 1)) ∧ w'.cell? ⟨b2, o2 + j * 3 + 1, none⟩ = some (.string po.text) ∧ w'.cell? ⟨b2, o2 + j * 3 + 2, none⟩ = some (.slice E2 ne d2)) (exact unhide hce _ (unhide GB))
            ((go_at_call 45
              (with_reducible refine (unhide HSM _ (unhide GB)).mono ?_)
              rintro e wS ⟨rfl, hb⟩
              have GB := hide ((unhide GB).trans (hb.mono (unhide GB).size))
              clear hb))
          all_goals
            go_wp2_with fail
            go_roundw
            case rel => exact ⟨j + 1, by omega, by go_num, (unhide HB).trans ((unhide GB).mono (unhide HB).size)⟩
            case measure => simp [intOf]; omega
        · obtain rfl : j = np := by omega
          have B9 := hide ((unhide B8).trans (hb.mono (unhide B8).size))
          have X9 := hide (And.intro ((unhide X8).1.after hb) ((unhide X8).2.after hb))
          clear hb
          go_wp2_with fail
          go_loopw [13, 14, 15, 16, 17, 109] (fun _ _ _ _ _ i wr => ∃ k : Nat, k ≤ ny ∧ i = .int .i64 k ∧ Below wq.heap.size wq wr) (fun _ _ _ _ _ i _ => ny - (intOf i).toNat)
          case atStart => exact ⟨0, Nat.zero_le _, rfl, Below.refl _ _⟩
          case round =>
            obtain ⟨m, hm, rfl, hb⟩ := hrel
            obtain ⟨wz, rfl⟩ : ∃ wz : World, wz = wr := ⟨_, rfl⟩
            by_cases hlt : m < ny
            · obtain ⟨x, hx⟩ : ∃ x, ys[m]? = some x := ⟨ys[m]'(by rw [← unhide HNY]; exact hlt), List.getElem?_eq_getElem _⟩
              obtain ⟨b1, o1, rfl, hbb1, e0, e1, e2⟩ := en_at ((unhide X9).1.after hb) hx
              have hxs : x.acct.size ≤ maxLen ∧ x.cur.size ≤ maxLen := by
                obtain ⟨a, ha, rfl⟩ := (unhide HAC).mem (List.mem_of_getElem? hx)
                have h1 := (unhide HL).ok.name a ha
                have q1 := okName_size h1.1
                have q2 := okCur_size h1.2
                unfold toEn maxLen
                simp only
                omega
              have HF1 := hide (fun W (hb : Below w.heap.size w W) => Free_any W _ _ _ _ _ _ _ x.acct x.cur ((unhide HL).after hb) hxs.1 hxs.2)
              have HF2 := hide (fun W (hb : Below w.heap.size w W) => Free_any W _ _ _ _ _ _ _ x.acct x.cur ((unhide HL2).after hb) hxs.1 hxs.2)
              generalize freeOf s x.acct x.cur = f1 at HF1 HF2
              generalize thereB s x.acct x.cur = t1 at HF1 HF2
              have hce : Hid (∀ W, Below wz.heap.size wz W → W.cell? ⟨b1, o1 + m * 3, none⟩ = some (.string x.acct) ∧ W.cell? ⟨b1, o1 + m * 3 + 1, none⟩ = some (.string x.cur)) :=
                hide fun W hb => ⟨(old_cells hb b1 _ hbb1).trans e0, (old_cells hb b1 _ hbb1).trans e1⟩
              have GB : Hid (Below wz.heap.size wz wz.drew) := hide (Below.refl _ _).drew
              have HBZ := hide ((unhide B9).trans (hb.mono (unhide B9).size))
              have HB := hide hb
              have i1 : (0 : Int) ≤ (m : Int) := by omega
              have i2 : (m : Int) < (ny : Int) := by omega
              clear hx hb hxs
              go_wp2_with fail
              go_region_held3 (fun w' => w'.cell? ⟨b1, o1 + m * 3, none⟩ = some (.string x.acct) ∧ w'.cell? ⟨b1, o1 + m * 3 + 1, none⟩ = some (.string x.cur)) (exact unhide hce _ (unhide GB))
                ((go_at_call 18
                  (with_reducible refine (unhide HF1 _ ((unhide HBZ).trans ((unhide GB).mono (unhide HBZ).size))).mono ?_)
                  rintro e wS ⟨rfl, hb⟩
                  have GB := hide ((unhide GB).trans (hb.mono (unhide GB).size))
                  clear hb))
              have GB := hide ((unhide GB).drew)
              clear e0 e1 e2
              obtain ⟨e0, e1⟩ := unhide hce _ (unhide GB)
              go_wp2_with fail
              go_region_held3 (fun w' => w'.cell? ⟨b1, o1 + m * 3, none⟩ = some (.string x.acct) ∧ w'.cell? ⟨b1, o1 + m * 3 + 1, none⟩ = some (.string x.cur)) (exact unhide hce _ (unhide GB))
                ((go_at_call 18
                  (with_reducible refine (unhide HF2 _ ((unhide HBZ).trans ((unhide GB).mono (unhide HBZ).size))).mono ?_)
                  rintro e wS ⟨rfl, hb⟩
                  have GB := hide ((unhide GB).trans (hb.mono (unhide GB).size))
                  clear hb))
              go_wp2_with fail
              go_roundw
              case rel => exact ⟨m + 1, by omega, by go_num, (unhide HB).trans ((unhide GB).mono (unhide HB).size)⟩
              case measure => simp [intOf]; omega
            · have B10 := hide ((unhide B9).trans (hb.mono (unhide B9).size))
              clear hb
              go_wp2_with fail
              go_ret
              exact ⟨rfl, unhide B10⟩
end Go.Proofs.Ytjihkoleipkgmaa
