/- Walk: a clone of entries; what booking leaves. -/
import Derived.Test.YtjihkoleipkgmaaLgD
namespace Go.Proofs.Ytjihkoleipkgmaa
set_option linter.unusedVariables false
set_option linter.unusedSimpArgs false
open Go.RowKit Go.Maps

def inX (x : List En) (n c : ByteArray) : Bool := x.any (isE n c)
/-- what changes, by accounts -/
def chF (x : List En) (y : ByteArray × ByteArray) : Option Value := if inX x y.1 y.2 = true then some (.int .i64 (chg x y.1 y.2)) else none
theorem chg_out {x : List En} {n c : ByteArray} (h : inX x n c = false) : chg x n c = 0 := chg_none fun e he hh => by
  have := List.any_eq_false.1 h e he
  simp [isE, hh] at this
theorem chF_some {x : List En} {y : ByteArray × ByteArray} {u : Value} (h : chF x y = some u) : inX x y.1 y.2 = true ∧ u = .int .i64 (chg x y.1 y.2) := by
  unfold chF at h
  split at h
  · rename_i hi; cases h; exact ⟨hi, rfl⟩
  · cases h
/-- the accounts, while changes are booked -/
def accT (s : Lg) (x : List En) (todo : ByteArray × ByteArray → Bool) (y : ByteArray × ByteArray) : Option Value :=
  (findA s.A y.1 y.2).map fun a => .agg #[.int .i64 a.floor, .int .i64 (a.bal + if inX x y.1 y.2 && !todo y then chg x y.1 y.2 else 0), .int .i64 (s.held a)]
theorem accT_start (s : Lg) (x : List En) (y : ByteArray × ByteArray) : accF s y = accT s x (fun z => (chF x z).isSome) y := by
  unfold accF accT
  cases findA s.A y.1 y.2 with
  | none => rfl
  | some a =>
    have e : (inX x y.1 y.2 && !(chF x y).isSome) = false := by
      unfold chF
      cases inX x y.1 y.2 <;> simp
    simp only [Option.map_some, acV]
    rw [e]
    simp
theorem accT_end (s : Lg) (t : ByteArray) (x : List En) (todo : ByteArray × ByteArray → Bool) (y : ByteArray × ByteArray) (ht : todo y = false) : accT s x todo y = accF (bookS s t x) y := by
  unfold accF accT bookS
  simp only
  rw [findA_add]
  cases hf : findA s.A y.1 y.2 with
  | none => rfl
  | some a =>
    obtain ⟨_, e1, e2⟩ := findA_some hf
    simp only [Option.map_some, acV, Lg.held]
    rw [ht, e1, e2]
    cases hi : inX x y.1 y.2
    · rw [chg_out hi]; simp
    · simp
theorem accT_step (s : Lg) (x : List En) (todo : ByteArray × ByteArray → Bool) (y : ByteArray × ByteArray) (hy : inX x y.1 y.2 = true) {a : Ac} (ha : findA s.A y.1 y.2 = some a) (z : ByteArray × ByteArray) :
    (if z = y then some (.agg #[.int .i64 a.floor, .int .i64 (a.bal + chg x y.1 y.2), .int .i64 (s.held a)]) else accT s x todo z) = accT s x (fun z => todo z && !decide (z = y)) z := by
  unfold accT
  by_cases e : z = y
  · subst e
    rw [if_pos rfl, ha, Option.map_some, hy]
    simp
  · rw [if_neg e]
    simp [e]

theorem info_en : (Try.prog.info? 44).map (fun i => (i.zero, i.size, i.bytes)) = some (some (.agg #[.string ⟨#[]⟩, .string ⟨#[]⟩, .int .i64 0]), 3, 40) := by kernel_rfl
theorem info_po : (Try.prog.info? 46).map (fun i => (i.zero, i.size, i.bytes)) = some (some (.agg #[.int .i64 0, .string ⟨#[]⟩, .slice none 0 0]), 3, 48) := by kernel_rfl
theorem info_parts {P : Program} {t : TypeId} {z : Value} {s b : Nat} (h : (P.info? t).map (fun i => (i.zero, i.size, i.bytes)) = some (some z, s, b)) : ∃ i, P.info? t = some i ∧ i.zero = some z ∧ i.size = s ∧ i.bytes = b := by
  obtain ⟨i, hi, he⟩ := Option.map_eq_some_iff.1 h
  simp only [Prod.mk.injEq] at he
  exact ⟨i, hi, he.1, he.2.1, he.2.2⟩

set_option maxHeartbeats 2000000 in
set_option maxRecDepth 100000 in
theorem CloneEn_any (xs : List En) (A : Option Addr) (n c : Nat) (w : World) (hn : n = xs.length) (hlen : n ≤ 100000) (hx : ListIn enR w w.heap.size A xs) :
    Calls Try.prog 61 #[.slice A n c] w fun e w' => ∃ v, e = .returned v ∧ w'.ownsRow w.heap.size 44 enR.sz v n (xs.flatMap enR.cells) ∧ Below w.heap.size w w' := by
  cases A with
  | none =>
    have hxs : xs = [] := by
      cases xs with
      | nil => rfl
      | cons x r => obtain ⟨b, off, e, _⟩ := hx (by simp); cases e
    subst hxs
    simp at hn; subst hn
    have q24 : ∀ (W : World) (a : Option Addr) (n c n' c' : Nat), (binOp .eql 29 (.slice a n c) (.slice none n' c')).run Try.prog W = .ok (.bool a.isNone) W := fun W a n c n' c' => Lib.run_eql_slice_nil W _ _ a n c n' c' Try.underlying29
    go_enter Try.func61, Try.ntmps61
    go_wp2_with fail
    go_ret
    exact ⟨_, rfl, World.ownsRow_nil _ _ _ _, Below.refl _ _⟩
  | some ad =>
    obtain ⟨i0, hi0, hz0, hz1, hz2⟩ := info_parts info_en
    have own0 : (w.alloc (.cells #[] 44)).ownsRow w.heap.size 44 3 (.slice (some ⟨w.heap.size, 0, none⟩) 0 0) 0 [] := World.ownsRow_lit (base := w.heap.size) (e := 44) (size := 3) w #[] 0 (Nat.le_refl _) (by unfold maxLen; omega) (by simp)
    have src1 : Src (w.alloc (.cells #[] 44)) 3 (some ad) n (xs.flatMap enR.cells) := (hx.alloc _).src_n hn
    have q24 : ∀ (W : World) (a : Option Addr) (n c n' c' : Nat), (binOp .eql 29 (.slice a n c) (.slice none n' c')).run Try.prog W = .ok (.bool a.isNone) W := fun W a n c n' c' => Lib.run_eql_slice_nil W _ _ a n c n' c' Try.underlying29
    have O0 := hide own0; have S1 := hide src1
    clear own0 src1 hn hx
    go_enter Try.func61, Try.ntmps61
    go_wp2_with (at_builtin; refine wpList_append_src _ rfl (.tmp 5) (.tmp 6) 29 rfl w.heap.size 44 i0 _ 3 40 Try.underlying29 hi0 hz0 hz1 hz2 rfl (by omega) rfl (unhide O0) rfl (unhide S1) (rows_one enR xs) (by unfold maxLen; omega) (by omega) (by simp) ?_
                 intro v1 w1 own1 hg1 hat1
                 rw [Nat.zero_add, List.nil_append] at own1
                 have hb1 : Below w.heap.size w w1 := below_grown ((Below.refl w.heap.size w).alloc (Nat.le_refl _) _) (unhide O0) (Nat.le_refl _) hg1
                 have F1 := hide (And.intro own1 hb1)
                 clear own1 hb1 hg1 hat1 hi0 hz0 hz1 hz2)
    go_ret
    exact ⟨_, rfl, (unhide F1).1, (unhide F1).2⟩

/-- the clone, as a list -/
theorem Clone_list {base n : Nat} {w' : World} {v : Value} {xs : List En} (h : w'.ownsRow base 44 enR.sz v n (xs.flatMap enR.cells)) : ∃ A c, v = .slice A n c ∧ ListIn enR w' w'.heap.size A xs ∧ ∀ b off, A = some ⟨b, off, none⟩ → base ≤ b ∧ b < w'.heap.size := by
  obtain ⟨A, c, rfl, _, _, _, hl⟩ := list_of_own h
  exact ⟨A, c, rfl, hl, fun b off e => by subst e; exact h.lt b rfl⟩
theorem list_turn {α : Type} {R : Rowing α} {w w' : World} {A : Option Addr} {xs : List α} {S : Nat → Prop} (h : ListIn R w w.heap.size A xs) (ht : Turn S w w') (hA : ∀ b off, A = some ⟨b, off, none⟩ → ¬ S b) : ListIn R w' w'.heap.size A xs := fun hne => by
  obtain ⟨b, off, rfl, hlt, hc⟩ := h hne
  exact ⟨b, off, rfl, Nat.lt_of_lt_of_le hlt ht.size, fun i x hx => (hc i x hx).keep fun o => World.cell?_of_block (ht.block b hlt (hA b off rfl))⟩

theorem book_end {w wo w5 w6 : World} {base p ma mh n : Nat} {s : Lg} {v v6 : Value} {text : ByteArray} {x : List En} {A5 : Option Addr} {c5 : Nat} {ts : List Pq} (h : LedgerAt w base p s ma mh v n) (hok : LgOk (bookS s text x))
    (h1 : ts.length = s.P.length) (h3 : ∀ (i : Nat) (po : Po), s.P[i]? = some po → ∃ (A : Option Addr) (c : Nat), ts[i]? = some ⟨((i + 1 : Nat) : Int), po.text, A, po.ents.length, c⟩ ∧ ListIn enR w w.heap.size A po.ents ∧ ∀ (b off : Nat), A = some ⟨b, off, none⟩ → (base ≤ b ∧ b < w.heap.size) ∧ ¬ foot p ma mh v b)
    (hT : Turn (fun b => b = ma) w wo) (hM : MapAt keyKeys wo ma n (accF (bookS s text x))) (hb : Below wo.heap.size wo w5) (hl : ListIn enR w5 w5.heap.size A5 x) (hA5 : ∀ b off, A5 = some ⟨b, off, none⟩ → wo.heap.size ≤ b ∧ b < w5.heap.size)
    (own6 : w6.ownsRow base 46 poR.sz v6 (s.P.length + 1) ((ts ++ [(⟨((s.P.length + 1 : Nat) : Int), text, A5, x.length, c5⟩ : Pq)]).flatMap poR.cells)) (hg6 : w5.grownBy w6 v.ownBlock) (hat : v6.ownBlock = v.ownBlock ∨ v6.ownBlock = some w5.heap.size) :
    LedgerAt (w6.setCell ⟨p, 2, none⟩ v6) base p (bookS s text x) ma mh v6 (n + 1) ∧ Turn (foot p ma mh v) w (w6.setCell ⟨p, 2, none⟩ v6) ∧ (v6.ownBlock = v.ownBlock ∨ ∃ g, v6.ownBlock = some g ∧ w.heap.size ≤ g) := by
  obtain ⟨ow, k⟩ := h.main
  have hwo := hT.size
  have hw5 := hb.size
  have hpl := k.lt
  have hml := h.acc.lt
  have hhl := h.hol.lt
  obtain ⟨d1, d2, d3, d4⟩ := h.dist
  have tG : Turn (fun b => v.ownBlock = some b) w5 w6 := (Turn.refl _ _).grown hg6 fun k e => .inl e
  have tP : Turn (fun b => b = p) w6 (w6.setCell ⟨p, 2, none⟩ v6) := (Turn.refl (fun b => b = p) w6).setCell (p := ⟨p, 2, none⟩) (.inl rfl) v6
  have tE : Turn (foot p ma mh v) w5 (w6.setCell ⟨p, 2, none⟩ v6) := (tG.mono fun b _ e => .inr (.inr (.inr e))).trans (tP.mono fun b _ e => .inl e)
  have tF : Turn (foot p ma mh v) w (w6.setCell ⟨p, 2, none⟩ v6) := ((hT.mono fun b _ e => .inr (.inl e)).after hb).trans tE
  have hlow := h.low
  have hv6 : ∀ g, v6.ownBlock = some g → v.ownBlock = some g ∨ g = w5.heap.size := fun g e => hat.elim (fun e1 => .inl (e1 ▸ e)) (fun e1 => by rw [e1] at e; injection e with e; exact .inr e.symm)
  refine ⟨⟨hok, ⟨ow, ?_⟩, ?_, ?_, ?_, ⟨ts ++ [⟨((s.P.length + 1 : Nat) : Int), text, A5, x.length, c5⟩], ?_, ?_, ?_⟩, ⟨d1, d2, d3, ?_⟩, hlow⟩, tF, ?_⟩
  · have k2 := (((k.turn hT d1).after hb).turn tG fun e => (d4 p e).1 rfl).put 2 v6
    simpa using k2
  · exact (((hM.after hb).turn tG fun e => (d4 ma e).2.1 rfl).setCell (a := ⟨p, 2, none⟩) (fun e => d1 e.symm) v6).mono (Nat.le_succ _)
  · exact ((((h.hol.turn hT fun e => d3 e.symm).after hb).turn tG fun e => (d4 mh e).2.2 rfl).setCell (a := ⟨p, 2, none⟩) (fun e => d2 e.symm) v6).mono (Nat.le_succ _)
  · have := h.np
    simp [bookS]; omega
  · simp [bookS, h1]
  · have e : (bookS s text x).P.length = s.P.length + 1 := by simp [bookS]
    rw [e]
    refine own_turn own6 tP fun g hg e => ?_
    rcases hv6 g hg with e1 | e1
    · exact (d4 g e1).1 e
    · omega
  · intro i po hi
    have hnew : ∀ b, ¬ foot p ma mh v b → b < w5.heap.size → ¬ foot p ma mh v6 b := fun b hn hlt hf => by
      rcases hf with e | e | e | e
      · exact hn (.inl e)
      · exact hn (.inr (.inl e))
      · exact hn (.inr (.inr (.inl e)))
      · rcases hv6 b e with e1 | e1
        · exact hn (.inr (.inr (.inr e1)))
        · omega
    by_cases hlt : i < s.P.length
    · have hi' : s.P[i]? = some po := by
        have : (bookS s text x).P = s.P ++ [⟨text, x⟩] := rfl
        rwa [this, List.getElem?_append_left hlt] at hi
      obtain ⟨A, c, e1, e2, e3⟩ := h3 i po hi'
      refine ⟨A, c, by rw [List.getElem?_append_left (by omega)]; exact e1, list_turn e2 tF fun b off e => (e3 b off e).2, fun b off e => ⟨⟨(e3 b off e).1.1, Nat.lt_of_lt_of_le (e3 b off e).1.2 tF.size⟩, hnew b (e3 b off e).2 (by have := (e3 b off e).1.2; omega)⟩⟩
    · have hie : i = s.P.length := by
        have h5 := (List.getElem?_eq_some_iff.1 hi).1
        simp [bookS] at h5
        omega
      subst hie
      have hpo : po = ⟨text, x⟩ := by
        have : (bookS s text x).P = s.P ++ [⟨text, x⟩] := rfl
        rw [this, List.getElem?_append_right (Nat.le_refl _)] at hi
        simpa using hi.symm
      subst hpo
      have hnF : ∀ b off, A5 = some ⟨b, off, none⟩ → ¬ foot p ma mh v b := fun b off e hf => by
        have := (h.lt b hf).2
        have := (hA5 b off e).1
        omega
      refine ⟨A5, c5, ?_, list_turn hl tE hnF, fun b off e => ⟨⟨?_, Nat.lt_of_lt_of_le (hA5 b off e).2 tE.size⟩, hnew b (hnF b off e) (hA5 b off e).2⟩⟩
      · rw [List.getElem?_append_right (by omega), h1, Nat.sub_self]; rfl
      · have := (hA5 b off e).1
        omega
  · intro g hg
    rcases hv6 g hg with e1 | e1
    · exact d4 g e1
    · exact ⟨by omega, by omega, by omega⟩
  · rcases hat with e | e
    · exact .inl e
    · exact .inr ⟨_, e, by omega⟩
end Go.Proofs.Ytjihkoleipkgmaa
