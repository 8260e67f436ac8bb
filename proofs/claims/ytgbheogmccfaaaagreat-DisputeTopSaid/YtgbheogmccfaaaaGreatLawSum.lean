/- Walk: the law DisputeSums. -/
import Derived.Test.YtgbheogmccfaaaaGreatAwk
import Derived.Test.YtgbheogmccfaaaaGreatLawBet
import Derived.Test.YtgbheogmccfaaaaGreatTms
namespace Go.Proofs.YtgbheogmccfaaaaGreat
set_option linter.unusedVariables false
set_option linter.unusedSimpArgs false
open Go.RowKit Go.Maps

/-- what the law asks of parts -/
structure SumsOk (l : List Cl) (P : List Nat) (L pot : Nat) : Prop where
  len : P.length = l.length
  all : L + P.sum = pot
  le : ∀ (i : Nat) (c : Cl) (p : Nat), l[i]? = some c → P[i]? = some p → (p : Int) ≤ c.amount ∧ (0 < L → (p : Int) = c.amount)
  first : ∀ (i k : Nat) (c d : Cl) (p q : Nat), l[i]? = some c → l[k]? = some d → P[i]? = some p → P[k]? = some q → c.right < d.right → 0 < q → (p : Int) = c.amount
  near : ∀ (i k : Nat) (c d : Cl) (p q : Nat), l[i]? = some c → l[k]? = some d → P[i]? = some p → P[k]? = some q → c.right = d.right → c.amount = d.amount → p ≤ q + 1
theorem cl_in {w : World} {B b off : Nat} {xs : List Cl} (h : ListIn clR w B (some ⟨b, off, none⟩) xs) {i : Nat} {x : Cl} (hx : xs[i]? = some x) :
    w.cell? ⟨b, off + i * 5, none⟩ = some (.string x.name) ∧ w.cell? ⟨b, off + i * 5 + 1, none⟩ = some (.string x.thing) ∧ w.cell? ⟨b, off + i * 5 + 2, none⟩ = some (.int .i64 x.right) ∧ w.cell? ⟨b, off + i * 5 + 3, none⟩ = some (.int .i64 x.day) ∧ w.cell? ⟨b, off + i * 5 + 4, none⟩ = some (.int .i64 x.amount) := by
  obtain ⟨b', off', e, _, h'⟩ := cl_at h hx
  cases e
  exact h'
theorem num_in {k : IntKind} {w : World} {B b off : Nat} {xs : List Nat} (h : ListIn (numR k) w B (some ⟨b, off, none⟩) xs) {i : Nat} {x : Nat} (hx : xs[i]? = some x) : w.cell? ⟨b, off + i, none⟩ = some (.int k x) := by
  obtain ⟨b', off', e, _, h'⟩ := num_at h hx
  cases e
  exact h'
theorem numA_flat (l : List Nat) : numA .i64 l = (l.flatMap (numR .i64).cells).toArray := by
  unfold numA
  congr 1
  induction l with
  | nil => rfl
  | cons x r ih => rw [List.map_cons, ih]; rfl
theorem ok_right {l : List Cl} (hok : OkL l) {i : Nat} {c : Cl} (hc : l[i]? = some c) : ∃ q : Nat, c.right = q ∧ q < 5 ∧ 0 ≤ c.amount ∧ c.amount ≤ 1099511627776 := by
  have h := mayC_true (hok.1 c (List.mem_of_getElem? hc))
  exact ⟨c.right.toNat, by omega, by omega, h.2.2.1, h.2.2.2⟩
theorem parts_at {l : List Cl} (pot : Nat) {i : Nat} {c : Cl} {p q : Nat} (hc : l[i]? = some c) (hq : c.right = q) (h5 : q < 5) (hp : (roundsM pot l 5).1[i]? = some p) : p = gets pot l i q := by
  rw [rounds_at pot l i c hc q hq 5, if_pos h5] at hp
  exact (Option.some.inj hp).symm
theorem sums_ok (l : List Cl) (hok : OkL l) (pot : Nat) : SumsOk l (roundsM pot l 5).1 (potM pot l 5) pot where
  len := rounds_length pot l 5
  all := by
    have := rounds_sum pot l (fun c hc => by
      obtain ⟨i, hi⟩ := List.getElem?_of_mem hc
      obtain ⟨q, hq, _⟩ := ok_right hok hi
      omega) 5
    show (roundsM pot l 5).2 + (roundsM pot l 5).1.sum = pot
    omega
  le i c p hc hp := by
    obtain ⟨q, hq, h5, ha, _⟩ := ok_right hok hc
    have e := parts_at pot hc hq h5 hp
    have h := gets_le pot l i c hc q hq
    rw [← e] at h
    refine ⟨by omega, fun hL => ?_⟩
    have := h.2 (Nat.lt_of_lt_of_le hL (pot_mono pot l (q + 1) 5 (by omega)))
    omega
  first i k c d p q hc hd hp hq hlt h0 := by
    obtain ⟨a, ha, h5, hm, _⟩ := ok_right hok hc
    obtain ⟨b, hb, h6, _⟩ := ok_right hok hd
    have e := parts_at pot hc ha h5 hp
    have e2 := parts_at pot hd hb h6 hq
    have h := gets_first pot l i k c d hc hd a b ha hb (by omega) (by omega)
    omega
  near i k c d p q hc hd hp hq heq hae := by
    obtain ⟨a, ha, h5, hm, _⟩ := ok_right hok hc
    have e := parts_at pot hc ha h5 hp
    have e2 := parts_at pot hd (by omega) h5 hq
    have h := gets_near pot l i k c d hc hd a ha (by omega) hae
    omega
theorem moneyE_ok {pot : Int} {l : List Cl} (h : moneyE pot l = 0) : OkL l ∧ 0 ≤ pot ∧ pot ≤ 1099511627776 := by
  unfold moneyE at h
  split at h
  · cases h
  · rename_i hn
    exact ⟨wrongC_ok h, by omega, by omega⟩
theorem few_ok {l : List Cl} (h : fewGo 0 l = true) : l.length ≤ 41 := few_len h

set_option maxHeartbeats 8000000 in
set_option maxRecDepth 100000 in
theorem DisputeSums_any (pot : Int) (l : List Cl) (A : Option Addr) (n c : Nat) (w : World) (hn : n = l.length) (hm : n ≤ maxLen) (ht : ∀ x ∈ l, Txt x) (hx : ListIn clR w w.heap.size A l) :
    Calls Tryz.prog 8 #[.int .i64 pot, .slice A n c] w fun e w' => e = .returned (.bool true) ∧ Below w.heap.size w w' := by
  have HX := hide hx; have HN := hide hn; have HM := hide hm; have HT := hide ht
  have HLN := hide (fun (h : fewGo 0 l = true) => few_len h)
  clear hx hn hm ht
  go_enter Tryz.func8, Tryz.ntmps8
  go_wp2_with fail
  (with_reducible refine (awake_any _).mono ?_); rintro e w1 ⟨rfl, hb⟩
  have B1 := hide hb
  clear hb
  go_wp2_with fail
  (with_reducible refine (Few_any l A n c w1 (unhide HN) (unhide HM) ((unhide HX).after (unhide B1))).mono ?_); rintro e w2 ⟨rfl, hl⟩
  have B2 := hide ((unhide B1).trans (hl.1.mono (unhide B1).size))
  clear hl B1
  obtain ⟨r1, hr1⟩ : ∃ r, r = fewGo 0 l := ⟨_, rfl⟩
  rw [← hr1] at HLN ⊢
  clear hr1
  cases r1
  · go_wp2_with fail
    go_ret
    exact ⟨rfl, unhide B2⟩
  · have hl41 : n ≤ 41 := by rw [unhide HN]; exact unhide HLN rfl
    by_cases hE : moneyE pot l = 0
    · obtain ⟨hok, hp0, hp1⟩ := moneyE_ok hE
      obtain ⟨P, rfl⟩ : ∃ P : Nat, pot = P := ⟨pot.toNat, by omega⟩
      have H1 := hide (Money_ok l A n c P w2 (unhide HN) hok (unhide HT) (by omega) ((unhide HX).after (unhide B2)))
      have HS := hide (sums_ok l hok P)
      have HR := hide (fun i c hc => ok_right hok (i := i) (c := c) hc)
      obtain ⟨L, hL⟩ : ∃ L, L = potM P l 5 := ⟨_, rfl⟩
      obtain ⟨ps, hps⟩ : ∃ ps, ps = (roundsM P l 5).1 := ⟨_, rfl⟩
      rw [← hL, ← hps] at H1 HS
      clear hL hps hE hok
      go_wp2_with fail
      (with_reducible refine (unhide H1).mono ?_); rintro e w3 ⟨p, rfl, hp, hb⟩
      have B3 := hide ((unhide B2).trans (hb.mono (unhide B2).size))
      have HLX := hide ((unhide HX).after (unhide B3))
      have HPX := hide (show ListIn (numR .i64) w3 w3.heap.size (some ⟨p, 0, none⟩) ps from list_of_cells hp.lt fun j u hj => by rw [hp.cells, numA_flat]; simpa using hj)
      have hall := (unhide HS).all
      have HPL := hide ((unhide HS).len.trans (unhide HN).symm)
      have HPS := hide (fun k => sum_take_le ps k)
      have hL0 : decide ((L : Int) < 0) = false := by rw [decide_eq_false_iff_not]; omega
      have hLP : L ≤ 1099511627776 := by omega
      have HALL := hide hall
      clear hb hp B2 H1 hall
      go_wp2_with fail
      go_loopw [8, 9, 10] (fun s i _ wr => ∃ k : Nat, k ≤ n ∧ i = .int .i64 k ∧ s = .int .i64 ((L + (ps.take k).sum : Nat)) ∧ Laid w3 wr) (fun _ i _ _ => n - (intOf i).toNat)
      case atStart => exact ⟨0, by omega, rfl, by simp, Laid.refl _⟩
      case round =>
        obtain ⟨k, hk, rfl, rfl, hl⟩ := hrel
        obtain ⟨wo, rfl⟩ : ∃ wo : World, wo = wr := ⟨_, rfl⟩
        by_cases hlt : k < n
        · obtain ⟨x, hx⟩ : ∃ x, l[k]? = some x := ⟨l[k]'(by rw [← unhide HN]; exact hlt), List.getElem?_eq_getElem _⟩
          obtain ⟨px, hpx⟩ : ∃ x, ps[k]? = some x := ⟨ps[k]'(by rw [unhide HPL]; exact hlt), List.getElem?_eq_getElem _⟩
          obtain ⟨b, off, rfl, hbb, c0, c1, c2, c3, c4⟩ := cl_at ((unhide HLX).below hl.1) hx
          obtain ⟨b', off', eb, hbb', d0⟩ := num_at ((unhide HPX).below hl.1) hpx
          obtain ⟨rfl, rfl⟩ : p = b' ∧ 0 = off' := by cases eb; exact ⟨rfl, rfl⟩
          clear eb
          simp only [Nat.zero_add] at d0
          have hst := sum_take_succ ps k px hpx
          have hsl := sum_take_le ps (k + 1)
          have hle := (unhide HS).le k x px hx hpx
          obtain ⟨qr, -, -, ha0, ha1⟩ := unhide HR k x hx
          have hsum : ps.sum ≤ 1099511627776 := by have := unhide HALL; omega
          obtain ⟨s0, hs0⟩ : ∃ s, s = L + (ps.take k).sum := ⟨_, rfl⟩
          obtain ⟨s1, hs1⟩ : ∃ s, s = L + (ps.take (k + 1)).sum := ⟨_, rfl⟩
          rw [← hs0]
          have cw : IntKind.i64.wrap ((s0 : Int) + (px : Int)) = (s1 : Int) := wrapI (by omega) (by omega)
          have HS1 := hide hs1
          have i1 : (0 : Int) ≤ (k : Int) := by omega
          have i2 : (k : Int) < (n : Int) := by omega
          have t1 : decide ((px : Int) < 0) = false := by rw [decide_eq_false_iff_not]; omega
          have t2 : decide (x.amount < (px : Int)) = false := by rw [decide_eq_false_iff_not]; omega
          have hpm : (px : Int) ≤ 1099511627776 := by omega
          have HXK := hide (And.intro hx hpx)
          have HL := hide hl
          have h3 : (decide ((0 : Int) < (L : Int)) = false ∧ decide (0 < L) = false) ∨ ((decide ((0 : Int) < (L : Int)) = true ∧ decide (0 < L) = true) ∧ ((px : Int) != x.amount) = false) := by
            by_cases h : 0 < L
            · right; exact ⟨⟨by simpa using h, by simpa using h⟩, by simpa using hle.2 h⟩
            · left; exact ⟨by simpa using h, by simpa using h⟩
          clear hst hsl hs0 hs1 hle hx hpx hl hsum
          have hin : True := trivial
          rcases h3 with ⟨t3, t3'⟩ | ⟨⟨t3, t3'⟩, t4⟩
          all_goals
            go_wp2_with fail
            go_quiet (fail)
            go_wp2_with fail
            have HL2 := hide ((unhide HL).drewN nq)
            clear c0 c1 c2 c3 c4 d0 HL
            go_loopw [10] (fun i wr => ∃ j : Nat, j ≤ n ∧ i = .int .i64 j ∧ Laid w3 wr) (fun i _ => n - (intOf i).toNat)
            case atStart => exact ⟨0, by omega, rfl, unhide HL2⟩
            case round =>
              obtain ⟨j, hj, rfl, hl⟩ := hrel
              obtain ⟨wi, rfl⟩ : ∃ wo : World, wo = wr := ⟨_, rfl⟩
              by_cases hlt2 : j < n
              · obtain ⟨y, hy⟩ : ∃ x, l[j]? = some x := ⟨l[j]'(by rw [← unhide HN]; exact hlt2), List.getElem?_eq_getElem _⟩
                obtain ⟨py, hpy⟩ : ∃ x, ps[j]? = some x := ⟨ps[j]'(by rw [unhide HPL]; exact hlt2), List.getElem?_eq_getElem _⟩
                have a1 := cl_in ((unhide HLX).below hl.1) (unhide HXK).1
                have a2 := cl_in ((unhide HLX).below hl.1) hy
                have a3 := num_in ((unhide HPX).below hl.1) (unhide HXK).2
                have a4 := num_in ((unhide HPX).below hl.1) hpy
                simp only [Nat.zero_add] at a3 a4
                obtain ⟨c0, c1, c2, c3, c4⟩ := a1
                obtain ⟨f0, f1, f2, f3, f4⟩ := a2
                have hle2 := ((unhide HS).le j y py hy hpy).1
                obtain ⟨qr2, -, -, ha2, ha3⟩ := unhide HR j y hy
                have hfi := (unhide HS).first k j x y px py (unhide HXK).1 hy (unhide HXK).2 hpy
                have hne1 := (unhide HS).near k j x y px py (unhide HXK).1 hy (unhide HXK).2 hpy
                have hne2 := (unhide HS).near j k y x py px hy (unhide HXK).1 hpy (unhide HXK).2
                have j1 : (0 : Int) ≤ (j : Int) := by omega
                have j2 : (j : Int) < (n : Int) := by omega
                have hpm2 : (py : Int) ≤ 1099511627776 := by omega
                have hway : (decide (x.right < y.right) = true ∧ (y.right == x.right) = false ∧ (decide ((0 : Int) < (py : Int)) = true ∧ decide (0 < py) = true) ∧ ((px : Int) != x.amount) = false) ∨
                    (decide (x.right < y.right) = true ∧ (y.right == x.right) = false ∧ (decide ((0 : Int) < (py : Int)) = false ∧ decide (0 < py) = false)) ∨
                    (decide (x.right < y.right) = false ∧ (y.right == x.right) = false) ∨
                    (decide (x.right < y.right) = false ∧ (y.right == x.right) = true ∧ (y.amount == x.amount) = false) ∨
                    (decide (x.right < y.right) = false ∧ (y.right == x.right) = true ∧ (y.amount == x.amount) = true ∧ decide ((1 : Int) < (py : Int) - (px : Int)) = false ∧ decide ((1 : Int) < (px : Int) - (py : Int)) = false) := by
                  rcases Int.lt_trichotomy x.right y.right with h | h | h
                  · by_cases h0 : 0 < py
                    · exact .inl ⟨by simpa using h, by simp; omega, ⟨by simpa using h0, by simpa using h0⟩, by simpa using hfi h h0⟩
                    · exact .inr (.inl ⟨by simpa using h, by simp; omega, ⟨by simpa using h0, by simpa using h0⟩⟩)
                  · have hh : decide (x.right < y.right) = false := by rw [decide_eq_false_iff_not]; omega
                    have hh2 : (y.right == x.right) = true := by simp; omega
                    by_cases h0 : y.amount = x.amount
                    · have e1 := hne1 h h0.symm
                      have e2 := hne2 h.symm h0
                      exact .inr (.inr (.inr (.inr ⟨hh, hh2, by simpa using h0, by rw [decide_eq_false_iff_not]; omega, by rw [decide_eq_false_iff_not]; omega⟩)))
                    · exact .inr (.inr (.inr (.inl ⟨hh, hh2, by simpa using h0⟩)))
                  · exact .inr (.inr (.inl ⟨by rw [decide_eq_false_iff_not]; omega, by simp; omega⟩))
                have HL3 := hide hl
                clear hfi hne1 hne2 hy hpy hl hle2
                rcases hway with ⟨v1, v2, ⟨v3, v3'⟩, v4⟩ | ⟨v1, v2, v3, v3'⟩ | ⟨v1, v2⟩ | ⟨v1, v2, v3⟩ | ⟨v1, v2, v3, v4, v5⟩
                all_goals
                  go_wp2_with fail
                  go_quiet (fail)
                  go_wp2_with fail
                  go_quiet (fail)
                  go_wp2_with fail
                  go_roundw
                  case rel => exact ⟨j + 1, by omega, by go_num, (unhide HL3).drewN _⟩
                  case measure => simp [intOf]; omega
              · have HL3 := hide hl
                clear hl
                go_wp2_with fail
                go_roundw
                case rel => exact ⟨k + 1, by omega, by go_num, by rw [unhide HS1], unhide HL3⟩
                case measure => simp [intOf]; omega
        · have hkn : k = n := by omega
          subst hkn
          have hfull : L + (ps.take k).sum = P := by rw [List.take_of_length_le (by rw [unhide HPL]; omega)]; exact unhide HALL
          rw [hfull]
          have HF := hide ((unhide B3).trans (hl.1.mono (unhide B3).size))
          clear hfull hl
          go_wp2_with fail
          go_ret
          exact ⟨rfl, unhide HF⟩
    · have H1 := hide (Money_bad l A n c pot w2 (unhide HN) (by omega) (unhide HT) ((unhide HX).after (unhide B2)) hE)
      obtain ⟨k, hk⟩ : ∃ k, k = moneyE pot l := ⟨_, rfl⟩
      rw [← hk] at H1 hE
      have q1 : (k == 0) = false := by simpa using hE
      have q2 : (k != 0) = true := by simpa using hE
      have q3 : decide (k = 0) = false := by simpa using hE
      clear hk hE
      go_wp2_with fail
      (with_reducible refine (unhide H1).mono ?_); rintro e w3 ⟨rfl, hb⟩
      have B3 := hide ((unhide B2).trans (hb.mono (unhide B2).size))
      clear hb B2 H1
      go_wp2_with fail
      go_ret
      exact ⟨rfl, unhide B3⟩
end Go.Proofs.YtgbheogmccfaaaaGreat
