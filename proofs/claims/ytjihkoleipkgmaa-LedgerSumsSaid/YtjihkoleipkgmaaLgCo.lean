/- Walk: a ledger that stands alike. -/
import Derived.Test.YtjihkoleipkgmaaLgPo
import Derived.Test.YtjihkoleipkgmaaShelg
import Derived.Shelf.SlMaps.Clone
namespace Go.Proofs.Ytjihkoleipkgmaa
set_option linter.unusedVariables false
set_option linter.unusedSimpArgs false
open Go.RowKit Go.Maps

theorem cloneAcc_any (w : World) (b n : Nat) (f : ByteArray × ByteArray → Option Value) (h : MapAt keyKeys w b n f) :
    Calls Try.prog 43 #[.map (some b)] w fun e w' => e = .returned (.map (some w.heap.size)) ∧ MapAt keyKeys w' w.heap.size n f ∧ Below w.heap.size w w' := by
  obtain ⟨D, hD, hf⟩ := h
  exact (AnyW.maps_Clone_owns Try.cloneAcc 68 raw b n D w hD).mono fun e w' ⟨h1, h2, h3, h4⟩ => ⟨h1, ⟨D, h2, hf⟩, h4⟩
theorem cloneHo_any (w : World) (b n : Nat) (f : ByteArray → Option Value) (h : MapAt txtKeys w b n f) :
    Calls Try.prog 44 #[.map (some b)] w fun e w' => e = .returned (.map (some w.heap.size)) ∧ MapAt txtKeys w' w.heap.size n f ∧ Below w.heap.size w w' := by
  obtain ⟨D, hD, hf⟩ := h
  exact (AnyW.maps_Clone_owns Try.cloneHo 9 raw b n D w hD).mono fun e w' ⟨h1, h2, h3, h4⟩ => ⟨h1, ⟨D, h2, hf⟩, h4⟩

/-- posts in new memory, between two numbers -/
structure RowIn (w : World) (lo hi : Nat) (v : Value) (P : List Po) : Prop where
  row : ∃ ts : List Pq, ts.length = P.length ∧ w.ownsRow lo 46 poR.sz v P.length (ts.flatMap poR.cells) ∧
    ∀ (i : Nat) (po : Po), P[i]? = some po → ∃ (A : Option Addr) (c : Nat), ts[i]? = some ⟨((i + 1 : Nat) : Int), po.text, A, po.ents.length, c⟩ ∧ ListIn enR w w.heap.size A po.ents ∧ ∀ (b off : Nat), A = some ⟨b, off, none⟩ → (lo ≤ b ∧ b < hi) ∧ v.ownBlock ≠ some b
  own : ∀ g, v.ownBlock = some g → lo ≤ g ∧ g < hi
  le : hi ≤ w.heap.size
theorem RowIn.of {w : World} {lo : Nat} {v : Value} {P : List Po} (h : RowOf w lo v P) : RowIn w lo w.heap.size v P := by
  obtain ⟨ts, h1, h2, h3⟩ := h
  exact ⟨⟨ts, h1, h2, h3⟩, h2.lt, Nat.le_refl _⟩
theorem RowIn.after {w w' : World} {lo hi : Nat} {v : Value} {P : List Po} (h : RowIn w lo hi v P) (hb : Below w.heap.size w w') : RowIn w' lo hi v P := by
  obtain ⟨⟨ts, h1, h2, h3⟩, h4, h5⟩ := h
  refine ⟨⟨ts, h1, own_turn (S := fun _ => False) h2 (.of_below hb) (fun g _ hg => hg), fun i po hi => ?_⟩, h4, Nat.le_trans h5 hb.size⟩
  obtain ⟨A, c, q1, q2, q3⟩ := h3 i po hi
  exact ⟨A, c, q1, q2.after hb, q3⟩
/-- a ledger made of parts -/
theorem ledger_of {w : World} {base p ma mh n lo hi : Nat} {s : Lg} {v : Value} {ow : ByteArray} (hok : LgOk s) (hW : Whole w p 75 #[.string ow, .map (some ma), v, .map (some mh)]) (hA : MapAt keyKeys w ma n (accF s)) (hH : MapAt txtKeys w mh n (holdF s)) (hn : s.P.length ≤ n) (hR : RowIn w lo hi v s.P)
    (h1 : base ≤ ma) (h2 : base ≤ mh) (h3 : base ≤ lo) (h4 : hi ≤ p) (h5 : ma < p) (h6 : mh < p) (h7 : ma ≠ mh) (h8 : hi ≤ ma ∨ ma < lo) (h9 : hi ≤ mh ∨ mh < lo) : LedgerAt w base p s ma mh v n := by
  obtain ⟨⟨ts, q1, q2, q3⟩, q4, q5⟩ := hR
  have q2' : w.ownsRow base 46 poR.sz v s.P.length (ts.flatMap poR.cells) := ownsRow_base_a q2 h3
  refine ⟨hok, ⟨ow, hW⟩, hA, hH, hn, ⟨ts, q1, q2', fun i po hi => ?_⟩, ⟨by omega, by omega, h7, fun g hg => ?_⟩, by omega, h1, h2⟩
  · obtain ⟨A, c, e1, e2, e3⟩ := q3 i po hi
    refine ⟨A, c, e1, e2, fun b off e => ?_⟩
    obtain ⟨⟨l1, l2⟩, l3⟩ := e3 b off e
    refine ⟨⟨by omega, by omega⟩, fun hf => ?_⟩
    rcases hf with hf | hf | hf | hf
    · omega
    · omega
    · omega
    · exact l3 hf
  · have := q4 g hg
    omega

theorem own_in (ts : List Pq) (P : List Po) (A : Option Addr) (n c : Nat) (w : World) (hn : n = ts.length) (hnP : n = P.length) (hlen : n ≤ 5000) (hpl : ∀ po ∈ P, po.ents.length ≤ 100000) (hx : ListIn poR w w.heap.size A ts) (hp : PostsIn w ts P) :
    Calls Try.prog 38 #[.slice A n c] w fun e w' => ∃ A' c' lo hi, e = .returned (.slice A' n c') ∧ RowIn w' lo hi (.slice A' n c') P ∧ w.heap.size ≤ lo ∧ hi ≤ w'.heap.size ∧ Below w.heap.size w w' := by
  refine (own_any ts P A n c w hn hnP hlen hpl hx hp).mono ?_
  rintro e w' ⟨v, rfl, hr, hb⟩
  obtain ⟨ts', h1, h2, h3⟩ := id hr
  obtain ⟨A', c', rfl, -, -, -, -⟩ := list_of_own h2
  rw [← hnP] at hr ⊢
  exact ⟨A', c', _, _, rfl, .of hr, Nat.le_refl _, Nat.le_refl _, hb⟩
theorem cloneAcc_in (w : World) (b n : Nat) (f : ByteArray × ByteArray → Option Value) (h : MapAt keyKeys w b n f) :
    Calls Try.prog 43 #[.map (some b)] w fun e w' => ∃ m, e = .returned (.map (some m)) ∧ MapAt keyKeys w' m n f ∧ w.heap.size ≤ m ∧ m < w'.heap.size ∧ Below w.heap.size w w' :=
  (cloneAcc_any w b n f h).mono fun e w' ⟨h1, h2, h3⟩ => ⟨_, h1, h2, Nat.le_refl _, h2.lt, h3⟩
theorem cloneHo_in (w : World) (b n : Nat) (f : ByteArray → Option Value) (h : MapAt txtKeys w b n f) :
    Calls Try.prog 44 #[.map (some b)] w fun e w' => ∃ m, e = .returned (.map (some m)) ∧ MapAt txtKeys w' m n f ∧ w.heap.size ≤ m ∧ m < w'.heap.size ∧ Below w.heap.size w w' :=
  (cloneHo_any w b n f h).mono fun e w' ⟨h1, h2, h3⟩ => ⟨_, h1, h2, Nat.le_refl _, h2.lt, h3⟩
def CopyQ (w : World) (s : Lg) (n : Nat) (e : Ending) (w' : World) : Prop := ∃ p ma mh v, e = .returned (.pointer (some ⟨p, 0, none⟩)) ∧ LedgerAt w' w.heap.size p s ma mh v n ∧ Below w.heap.size w w'
set_option maxHeartbeats 8000000 in
set_option maxRecDepth 100000 in
theorem Copy_any (w : World) (base p ma mh n : Nat) (s : Lg) (v : Value) (h : LedgerAt w base p s ma mh v n) (hn : n ≤ 5000) (hpl : ∀ po ∈ s.P, po.ents.length ≤ 100000) :
    Calls Try.prog 22 #[.pointer (some ⟨p, 0, none⟩)] w (CopyQ w s n) := by
  obtain ⟨ow, hW⟩ := h.main
  obtain ⟨ts, A, c, rfl, h1, h2, h3, h4, h5⟩ := h.posts
  obtain ⟨np, hnp⟩ : ∃ k, k = s.P.length := ⟨_, rfl⟩
  have HCO := hide (fun W (hb : Below w.heap.size w W) => own_in ts s.P A np c W (by rw [hnp]; exact h1.symm) hnp (by have := h.np; omega) hpl (h2.after hb) (fun i po hi => by obtain ⟨A, c, q1, q2⟩ := h3 i po hi; exact ⟨A, c, q1, q2.after hb⟩))
  have HCA := hide (fun W (hb : Below w.heap.size w W) => cloneAcc_in W ma n (accF s) (h.acc.after hb))
  have HCH := hide (fun W (hb : Below w.heap.size w W) => cloneHo_in W mh n (holdF s) (h.hol.after hb))
  rw [← hnp] at hW
  have HC : Hid (∀ W, Below w.heap.size w W → W.cell? ⟨p, 0, none⟩ = some (.string ow) ∧ W.cell? ⟨p, 1, none⟩ = some (.map (some ma)) ∧ W.cell? ⟨p, 2, none⟩ = some (.slice A np c) ∧ W.cell? ⟨p, 3, none⟩ = some (.map (some mh))) :=
    hide fun W hb => ⟨(hW.after hb).cells 0, (hW.after hb).cells 1, (hW.after hb).cells 2, (hW.after hb).cells 3⟩
  have GB : Hid (Below w.heap.size w w.drew) := hide (Below.refl _ _).drew
  have HL := hide h
  obtain ⟨f0, f1, f2, f3⟩ := unhide HC _ (Below.refl _ w)
  have hpw := hW.lt
  clear h hW h1 h2 h3 h4 h5 hnp hpl
  go_enter Try.func22, Try.ntmps22
  go_wp2_with fail
  go_region_held3 (fun w' => w'.cell? ⟨p, 0, none⟩ = some (.string ow) ∧ w'.cell? ⟨p, 1, none⟩ = some (.map (some ma)) ∧ w'.cell? ⟨p, 2, none⟩ = some (.slice A np c) ∧ w'.cell? ⟨p, 3, none⟩ = some (.map (some mh))) (first | exact unhide HC _ (unhide GB) | exact unhide HC _ ((unhide GB).alloc (unhide GB).size _))
    ((first
      | (go_at_call 43
         (with_reducible refine (unhide HCA _ (unhide GB)).mono ?_)
         rintro e wA ⟨mA, rfl, hA, l1, l2, hb⟩
         have l0 := (unhide GB).size
         have LA := hide (show w.heap.size ≤ mA from Nat.le_trans l0 l1)
         (try have DAO := hide (show hO ≤ mA ∨ mA < lO from .inl (Nat.le_trans (unhide UO) l1)))
         (try have DAH := hide (show mA ≠ mH from fun e => by have := unhide UH; omega))
         (try have UO := hide (Nat.le_trans (unhide UO) hb.size))
         (try have UH := hide (Nat.lt_of_lt_of_le (unhide UH) hb.size))
         (try have FO := hide ((unhide FO).after hb))
         (try have FH := hide ((unhide FH).after hb))
         have UA := hide l2
         have FA := hide hA
         have GB := hide ((unhide GB).trans (hb.mono (unhide GB).size))
         clear hA l1 l2 hb l0)
      | (go_at_call 38
         (with_reducible refine (unhide HCO _ (unhide GB)).mono ?_)
         rintro e wO ⟨AO, cO, lO, hO, rfl, hR, l1, l2, hb⟩
         have l0 := (unhide GB).size
         have LO := hide (show w.heap.size ≤ lO from Nat.le_trans l0 l1)
         (try have DAO := hide (show hO ≤ mA ∨ mA < lO from .inr (Nat.lt_of_lt_of_le (unhide UA) l1)))
         (try have DHO := hide (show hO ≤ mH ∨ mH < lO from .inr (Nat.lt_of_lt_of_le (unhide UH) l1)))
         (try have UA := hide (Nat.lt_of_lt_of_le (unhide UA) hb.size))
         (try have UH := hide (Nat.lt_of_lt_of_le (unhide UH) hb.size))
         (try have FA := hide ((unhide FA).after hb))
         (try have FH := hide ((unhide FH).after hb))
         have UO := hide l2
         have FO := hide hR
         have GB := hide ((unhide GB).trans (hb.mono (unhide GB).size))
         clear hR l1 l2 hb l0)
      | (go_at_call 44
         (with_reducible refine (unhide HCH _ (unhide GB)).mono ?_)
         rintro e wH ⟨mH, rfl, hH, l1, l2, hb⟩
         have l0 := (unhide GB).size
         have LH := hide (show w.heap.size ≤ mH from Nat.le_trans l0 l1)
         (try have DHO := hide (show hO ≤ mH ∨ mH < lO from .inl (Nat.le_trans (unhide UO) l1)))
         (try have DAH := hide (show mA ≠ mH from fun e => by have := unhide UA; omega))
         (try have UO := hide (Nat.le_trans (unhide UO) hb.size))
         (try have UA := hide (Nat.lt_of_lt_of_le (unhide UA) hb.size))
         (try have FO := hide ((unhide FO).after hb))
         (try have FA := hide ((unhide FA).after hb))
         have UH := hide l2
         have FH := hide hH
         have GB := hide ((unhide GB).trans (hb.mono (unhide GB).size))
         clear hH l1 l2 hb l0)))
  all_goals
    go_wp2_with fail
    go_ret
    have l0 := (unhide GB).size
    refine ⟨_, mA, mH, .slice AO np cO, rfl, ledger_of (unhide HL).ok (Whole.made _ _ _) ((unhide FA).alloc _) ((unhide FH).alloc _) (unhide HL).np ((unhide FO).after ((Below.refl _ _).alloc (Nat.le_refl _) _)) (unhide LA) (unhide LH) (unhide LO) (unhide UO) (unhide UA) (unhide UH) (unhide DAH) (unhide DAO) (unhide DHO), (unhide GB).alloc l0 _⟩
end Go.Proofs.Ytjihkoleipkgmaa
