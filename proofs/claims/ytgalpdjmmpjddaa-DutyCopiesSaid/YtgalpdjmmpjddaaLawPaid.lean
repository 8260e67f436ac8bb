/- Walk: the law DutyPaid. -/
import Derived.Test.YtgalpdjmmpjddaaPlayA
import Derived.Test.YtgalpdjmmpjddaaLongA
import Derived.Test.YtgalpdjmmpjddaaAwakeD
import Derived.Test.YtgalpdjmmpjddaaLawGrows
namespace Go.Proofs.Ytgalpdjmmpjddaa
set_option linter.unusedVariables false
set_option linter.unusedSimpArgs false
open Go.RowKit Go.Maps

theorem find_named {bs : List Bx} {s : ByteArray} {x : Bx} (h : bs.find? (named s) = some x) : x.name = s := by simpa using List.find?_some h
theorem used_setS_eq (bs : List Bx) (s : ByteArray) (st : Int) (hst : st ≠ 0) (x : Bx) (ha : Apart bs) (hf : bs.find? (named s) = some x) (h0 : x.state = 0) : used (setS bs s st) = used bs - x.duty := by
  induction bs with
  | nil => cases hf
  | cons y r ih =>
    obtain ⟨h1, h2⟩ := List.pairwise_cons.1 ha
    rw [List.find?_cons] at hf
    cases hy : named s y
    · rw [hy] at hf
      have := ih h2 hf
      unfold used setS at this ⊢
      simp only [List.map_cons, List.sum_cons, hy, Bool.false_eq_true, if_false]
      rw [this]; omega
    · rw [hy] at hf
      cases hf
      have hs : x.name = s := by simpa using hy
      have hn := setS_none r s st (fun z hz => by simpa using fun e => h1 z hz (by rw [hs, e]))
      unfold used setS at hn ⊢
      simp only [List.map_cons, List.sum_cons, hy, if_true]
      rw [hn]
      simp [Bx.use, hst, h0]
      omega
/-- what the law asks of a box that is entered -/
theorem paid_facts {bs : List Bx} {s : ByteArray} {x : Bx} (ha : Apart bs) (hf : bs.find? (named s) = some x) (h0 : x.state = 0) (n : Int) (hn : 0 ≤ n) :
    relE bs s (x.duty - 1) = 10 ∧ left bs s 1 10 = bs ∧ stateOf bs s = 0 ∧ relE bs s (x.duty + n) = 0 ∧ left bs s 1 0 = setS bs s 1 ∧ used (setS bs s 1) = used bs - x.duty ∧ stateOf (setS bs s 1) s = 1 ∧ relE (setS bs s 1) s x.duty = 9 := by
  have hf' := find_setS bs s 1 s
  rw [hf] at hf'
  simp only [Option.map_some, if_true] at hf'
  refine ⟨?_, rfl, ?_, ?_, rfl, used_setS_eq bs s 1 (by omega) x ha hf h0, ?_, ?_⟩
  · unfold relE thenE opE dutyAt; simp only [hf]; rw [h0]; simp; omega
  · unfold stateOf known stateAt; unfold named at hf; simp only [named, hf, h0]; rfl
  · unfold relE thenE opE dutyAt; simp only [hf]; rw [h0]; simp; omega
  · unfold stateOf known stateAt; unfold named at hf'; simp only [named, hf']; rfl
  · unfold relE thenE opE; simp only [hf']; simp
theorem ListIn.ne_map {α : Type} {R : Rowing α} {w : World} {B b off : Nat} {xs : List α} {P : Program} {k : TypeId} {κ : Type} {J : Keying P k κ} {m n : Nat} {f : κ → Option Value}
    (h : ListIn R w B (some ⟨b, off, none⟩) xs) (hne : xs ≠ []) (hm : MapAt J w m n f) : b ≠ m := by
  rintro rfl
  obtain ⟨b', off', e, _, hc⟩ := h hne
  cases e
  obtain ⟨x, hx⟩ : ∃ x, xs[0]? = some x := by
    cases xs with
    | nil => exact absurd rfl hne
    | cons x r => exact ⟨x, rfl⟩
  obtain ⟨v, hv⟩ : ∃ v, (R.cells x)[0]? = some v := ⟨_, List.getElem?_eq_getElem (by rw [R.len x]; exact R.pos)⟩
  have := hc 0 x hx 0 v hv
  obtain ⟨D, ⟨es, clock, h1, _⟩, _⟩ := hm
  simp [World.cell?, h1] at this
theorem TurnQ.below {w w' : World} {p m n : Nat} {lim er : Int} {bs : List Bx} {e : Ending} (h : TurnQ w p m n lim bs er e w') : e = .returned (.int .i64 er) ∧ BondAt w' p lim m (n + 1) bs ∧ w.grownBy w' (some m) := h
theorem far_below {w w1 w2 : World} {m : Nat} (h : Below w.heap.size w w1) (hg : w1.grownBy w2 (some m)) (hm : w.heap.size ≤ m) : Below w.heap.size w w2 := h.grown hg h.size (fun j hj => by cases hj; exact hm)

set_option maxHeartbeats 8000000 in
set_option maxRecDepth 100000 in
theorem DutyPaid_any (limit : Int) (xs : List Oq) (OA : Option Addr) (n c : Nat) (s : ByteArray) (q : Nat) (w : World) (hn : n = xs.length) (hm : n ≤ maxLen) (hx : ListIn oqR w w.heap.size OA xs) (hs : ∀ x ∈ xs, x.box.size ≤ maxLen ∧ x.to_.size ≤ maxLen) (hz : s.size ≤ maxLen) (hq : q < 4294967296) :
    Calls Try.prog 5 #[.int .i64 limit, .slice OA n c, .string s, .int .u32 q] w fun e w' => e = .returned (.bool true) ∧ Below w.heap.size w w' := by
  have HAW := hide awake_any
  unfold AwakeQ at HAW
  have H1 := hide (long_any xs OA n c w hn hm hx hs)
  have gq : IntKind.i64.wrap (q : Int) = (q : Int) := wrapI rfl (by omega)
  obtain ⟨lg, hlg⟩ : ∃ b, b = mLong xs := ⟨_, rfl⟩
  rw [← hlg] at H1
  have HN := hide hn; have HX := hide hx; have HS := hide hs; have HLG := hide hlg; have HQ := hide hq
  clear hn hx hs hlg hq
  go_enter Try.func5, Try.ntmps5
  go_wp2_with fail
  (with_reducible refine (unhide H1).mono ?_); rintro e w1 ⟨rfl, hb⟩
  have HB1 := hide hb
  clear hb H1
  cases lg
  case true =>
    go_wp2_with fail
    (with_reducible refine (unhide HAW _).mono ?_); rintro e w2 ⟨rfl, hb⟩
    have HB2 := hide ((unhide HB1).trans (hb.mono (unhide HB1).size))
    clear hb
    go_wp2_with fail
    go_ret
    exact ⟨rfl, unhide HB2⟩
  case false =>
    cases hlong : decide (60 < (s.size : Int))
    case true =>
      go_wp2_with fail
      (with_reducible refine (unhide HAW _).mono ?_); rintro e w2 ⟨rfl, hb⟩
      have HB2 := hide ((unhide HB1).trans (hb.mono (unhide HB1).size))
      clear hb
      go_wp2_with fail
      go_ret
      exact ⟨rfl, unhide HB2⟩
    case false =>
      go_wp2_with fail
      (with_reducible refine (play_any limit xs OA n c _ (unhide HN) (by rw [unhide HN]; exact mLong_len (unhide HLG).symm) ((unhide HX).after (unhide HB1)) (unhide HS)).mono ?_); rintro e w2 ⟨p, m, nn, N, cN, A, bs, rfl, hI⟩
      have HI := hide hI
      have hN := hI.lenk; have hnn := hI.nk
      have HAT := hide (At_any bs A N cN s w2 hI.len (by omega) hI.list)
      clear hI
      go_wp2_with fail
      (with_reducible refine (unhide HAT).mono ?_); rintro e w3 ⟨rfl, rfl⟩
      clear HAT
      have hI := unhide HI
      have HB2 := hide ((unhide HB1).trans (hI.below.mono (unhide HB1).size))
      have hmb := hI.mb
      have hb1s := (unhide HB1).size
      have HREL := hide (Release_any p m nn (limI limit) (q : Int) s bs w2 hz hI.bond (by omega) hI.ne)
      cases hf : bs.find? (named s) with
      | none =>
        have ho : relE bs s (q : Int) = 4 := by unfold relE thenE opE; rw [hf]; rfl
        rw [atI_none s bs 0 hf]
        rw [ho] at HREL
        clear ho hf hI
        go_wp2_with fail
        (with_reducible refine (unhide HREL).mono ?_); rintro e w4 ⟨rfl, hBO, hg⟩
        have HB4 := hide (far_below (unhide HB2) hg (by omega))
        clear hBO hg
        go_wp2_with fail
        (with_reducible refine (unhide HAW _).mono ?_); rintro e w5 ⟨rfl, hb⟩
        have HB5 := hide ((unhide HB4).trans (hb.mono (unhide HB4).size))
        clear hb
        go_wp2_with fail
        go_ret
        exact ⟨rfl, unhide HB5⟩
      | some x =>
        obtain ⟨i, h1, h2, h3⟩ := atI_some s bs 0 x hf
        rw [h1, Nat.zero_add]
        obtain ⟨b, off, rfl, hbb, _, c1, _, c3⟩ := box_at hI.list h3
        have hlen := hI.len
        have i1 : (0 : Int) ≤ (i : Int) := by omega
        have i2 : (i : Int) < (N : Int) := by omega
        have hxm := List.mem_of_getElem? h3
        have hdu := hI.inv.ok.duty x hxm
        have hap := hI.inv.ok.apart
        by_cases h0 : x.state = 0
        · skip
          have hub := used_bd bs hI.inv.ok.duty
          have hub2 : 0 ≤ used bs ∧ used bs ≤ 4503599627370496 := by
            have : (bs.length : Int) ≤ 4000 := by omega
            omega
          obtain ⟨e1, e2, e3, e4, e5, e6, e7, e8⟩ := paid_facts hap hf h0 (q : Int) (by omega)
          have hok2 := hI.inv.ok.setS s 1
          have hbm := hI.list.ne_map (by intro e; rw [e] at h3; cases h3) hI.bond.2
          have HU := hide (Used_any p m nn (limI limit) bs w2 hI.bond hI.inv.ok)
          have HU1 := hide (fun W k hB => Used_any p m k (limI limit) bs W hB hI.inv.ok)
          have HU2 := hide (fun W k hB => Used_any p m k (limI limit) (setS bs s 1) W hB hok2)
          have HS1 := hide (fun W k hB => State_any p m k (limI limit) s bs W hz hB)
          have HS2 := hide (fun W k hB => State_any p m k (limI limit) s (setS bs s 1) W hz hB)
          have HR1 := hide (fun W k hk hB => Release_any p m k (limI limit) (x.duty - 1) s bs W hz hB hk hI.ne)
          have HR2 := hide (fun W k hk hB => Release_any p m k (limI limit) (x.duty + (q : Int)) s bs W hz hB hk hI.ne)
          have HR3 := hide (fun W k hk hB => Release_any p m k (limI limit) x.duty s (setS bs s 1) W hz hB hk hI.ne)
          rw [e1, e2] at HR1
          rw [e4, e5] at HR2
          rw [e8] at HR3
          rw [e3] at HS1
          rw [e7] at HS2
          rw [e6] at HU2
          have g1 : IntKind.i64.wrap (x.duty - 1) = x.duty - 1 := IntWalk.i64_in _ (by omega)
          have g2 : IntKind.i64.wrap (x.duty + (q : Int)) = x.duty + (q : Int) := IntWalk.i64_in _ (by have := unhide HQ; omega)
          have g3 : IntKind.i64.wrap (used bs - x.duty) = used bs - x.duty := IntWalk.i64_in _ (by omega)
          have hs1 : (x.state != 0) = false := by simpa using h0
          have hs2 : decide (x.state = 0) = true := by simpa using h0
          have HBM := hide hbm
          have HBD := hide hI.bond
          generalize used bs = u at *
          clear e1 e2 e3 e4 e5 e6 e7 e8 hok2 hbm hub hub2 hf hI h0 h1 h2 h3 hlen hxm hdu hap HREL
          generalize limI limit = lim at *
          go_wp2_with fail
          (with_reducible refine (unhide HU).mono ?_); rintro e w4 ⟨rfl, hb⟩
          have c1 := (hb.cell (p := ⟨b, off + i * 4 + 1, none⟩) hbb).trans c1
          have hbb := Nat.lt_of_lt_of_le hbb hb.size
          have HR := hide (unhide HR1 w4 nn (by omega) ((unhide HBD).after hb))
          have HB4 := hide ((unhide HB2).trans (hb.mono (unhide HB2).size))
          clear hb c3 HU HR1
          go_wp2_with fail
          (with_reducible refine (unhide HR).mono ?_); rintro e w5 ⟨rfl, hBO, hg⟩
          have c1 := (World.cell?_of_block (a := ⟨b, off + i * 4 + 1, none⟩) (hg.block b hbb (by intro e; injection e with e; exact unhide HBM e))).trans c1
          have hbb := Nat.lt_of_lt_of_le hbb hg.size
          have HB5 := hide (far_below (unhide HB4) hg (by omega))
          have HU := hide (unhide HU1 w5 _ hBO)
          have HBD5 := hide hBO
          clear hBO hg HR HU1
          go_wp2_with fail
          (with_reducible refine (unhide HU).mono ?_); rintro e w6 ⟨rfl, hb⟩
          have c1 := (hb.cell (p := ⟨b, off + i * 4 + 1, none⟩) hbb).trans c1
          have hbb := Nat.lt_of_lt_of_le hbb hb.size
          have hB6 := (unhide HBD5).after hb
          have HB6 := hide ((unhide HB5).trans (hb.mono (unhide HB5).size))
          have HS := hide (unhide HS1 w6 _ hB6)
          have HBD6 := hide hB6
          clear hb hB6 HU HS1
          go_wp2_with fail
          (with_reducible refine (unhide HS).mono ?_); rintro e w7 ⟨rfl, hb⟩
          have c1 := (hb.cell (p := ⟨b, off + i * 4 + 1, none⟩) hbb).trans c1
          have hbb := Nat.lt_of_lt_of_le hbb hb.size
          have hB7 := (unhide HBD6).after hb
          have HB7 := hide ((unhide HB6).trans (hb.mono (unhide HB6).size)).drew
          have HR := hide (unhide HR2 w7.drew _ (by omega) (show BondAt w7.drew p lim m (nn + 1) bs from hB7))
          clear hb hB7 HS HR2
          go_wp2_with fail
          have d1 : w7.drew.cell? ⟨b, off + i * 4 + 1, none⟩ = some (.int .i64 x.duty) := c1
          go_region_held3 (fun w' => w'.cell? ⟨b, off + i * 4 + 1, none⟩ = some (.int .i64 x.duty)) (go_keep)
            ((first
              | (go_at_call 17; (with_reducible refine (unhide HR).mono ?_); rintro e w8 ⟨rfl, hBO, hg⟩
                 have c1 := (World.cell?_of_block (a := ⟨b, off + i * 4 + 1, none⟩) (hg.block b hbb (by intro e; injection e with e; exact unhide HBM e))).trans d1
                 have hbb := Nat.lt_of_lt_of_le hbb hg.size
                 have HB8 := hide (far_below (unhide HB7) hg (by omega))
                 have HU := hide (unhide HU2 w8 _ hBO)
                 have HBD8 := hide hBO
                 clear hBO hg)
              | (go_at_call 18; (with_reducible refine (unhide HU).mono ?_); rintro e w9 ⟨rfl, hb⟩
                 have c1 := (hb.cell (p := ⟨b, off + i * 4 + 1, none⟩) hbb).trans c1
                 have hbb := Nat.lt_of_lt_of_le hbb hb.size
                 have hB9 := (unhide HBD8).after hb
                 have HB9 := hide ((unhide HB8).trans (hb.mono (unhide HB8).size))
                 have HS := hide (unhide HS2 w9 _ hB9)
                 have HBD9 := hide hB9
                 clear hb hB9)
              | (go_at_call 19; (with_reducible refine (unhide HS).mono ?_); rintro e w10 ⟨rfl, hb⟩
                 have c1 := (hb.cell (p := ⟨b, off + i * 4 + 1, none⟩) hbb).trans c1
                 have hbb := Nat.lt_of_lt_of_le hbb hb.size
                 have hB10 := (unhide HBD9).after hb
                 have HB10 := hide ((unhide HB9).trans (hb.mono (unhide HB9).size))
                 have HR' := hide (unhide HR3 w10 _ (by omega) hB10)
                 clear hb hB10)))
          all_goals
            go_wp2_with fail
            (with_reducible refine (unhide HR').mono ?_); rintro e w11 ⟨rfl, hBO, hg⟩
            have HB11 := hide (far_below (unhide HB10) hg (by omega))
            clear hBO hg
            go_wp2_with fail
            (with_reducible refine (unhide HAW _).mono ?_); rintro e w12 ⟨rfl, hb⟩
            have HB12 := hide ((unhide HB11).trans (hb.mono (unhide HB11).size))
            clear hb
            go_wp2_with fail
            go_ret
            exact ⟨rfl, unhide HB12⟩
        · have ho : relE bs s (q : Int) = 9 := by unfold relE thenE opE; rw [hf]; simp [h0]
          rw [ho] at HREL
          have hs1 : (x.state != 0) = true := by simpa using h0
          have hs2 : decide (x.state = 0) = false := by simpa using h0
          clear ho hf hI h0 h1 h2 h3 hlen hxm hdu hap c1
          go_wp2_with fail
          (with_reducible refine (unhide HREL).mono ?_); rintro e w4 ⟨rfl, hBO, hg⟩
          have HB4 := hide (far_below (unhide HB2) hg (by omega))
          clear hBO hg c3
          go_wp2_with fail
          (with_reducible refine (unhide HAW _).mono ?_); rintro e w5 ⟨rfl, hb⟩
          have HB5 := hide ((unhide HB4).trans (hb.mono (unhide HB4).size))
          clear hb
          go_wp2_with fail
          go_ret
          exact ⟨rfl, unhide HB5⟩
end Go.Proofs.Ytgalpdjmmpjddaa
