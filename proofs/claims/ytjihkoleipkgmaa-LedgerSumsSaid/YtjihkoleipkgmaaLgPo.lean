/- Walks: posts in memory of their own. -/
import Derived.Test.YtjihkoleipkgmaaLgV
namespace Go.Proofs.Ytjihkoleipkgmaa
set_option linter.unusedVariables false
set_option linter.unusedSimpArgs false
open Go.RowKit Go.Maps

set_option maxHeartbeats 2000000 in
set_option maxRecDepth 100000 in
theorem ClonePo_any (xs : List Pq) (A : Option Addr) (n c : Nat) (w : World) (hn : n = xs.length) (hlen : n ≤ 100000) (hx : ListIn poR w w.heap.size A xs) :
    Calls Try.prog 62 #[.slice A n c] w fun e w' => ∃ v, e = .returned v ∧ w'.ownsRow w.heap.size 46 poR.sz v n (xs.flatMap poR.cells) ∧ Below w.heap.size w w' := by
  cases A with
  | none =>
    have hxs : xs = [] := by
      cases xs with
      | nil => rfl
      | cons x r => obtain ⟨b, off, e, _⟩ := hx (by simp); cases e
    subst hxs
    simp at hn; subst hn
    have q24 : ∀ (W : World) (a : Option Addr) (n c n' c' : Nat), (binOp .eql 40 (.slice a n c) (.slice none n' c')).run Try.prog W = .ok (.bool a.isNone) W := fun W a n c n' c' => Lib.run_eql_slice_nil W _ _ a n c n' c' Try.underlying40
    go_enter Try.func62, Try.ntmps62
    go_wp2_with fail
    go_ret
    exact ⟨_, rfl, World.ownsRow_nil _ _ _ _, Below.refl _ _⟩
  | some ad =>
    obtain ⟨i0, hi0, hz0, hz1, hz2⟩ := info_parts info_po
    have own0 : (w.alloc (.cells #[] 46)).ownsRow w.heap.size 46 3 (.slice (some ⟨w.heap.size, 0, none⟩) 0 0) 0 [] := World.ownsRow_lit (base := w.heap.size) (e := 46) (size := 3) w #[] 0 (Nat.le_refl _) (by unfold maxLen; omega) (by simp)
    have src1 : Src (w.alloc (.cells #[] 46)) 3 (some ad) n (xs.flatMap poR.cells) := (hx.alloc _).src_n hn
    have q24 : ∀ (W : World) (a : Option Addr) (n c n' c' : Nat), (binOp .eql 40 (.slice a n c) (.slice none n' c')).run Try.prog W = .ok (.bool a.isNone) W := fun W a n c n' c' => Lib.run_eql_slice_nil W _ _ a n c n' c' Try.underlying40
    have O0 := hide own0; have S1 := hide src1
    clear own0 src1 hn hx
    go_enter Try.func62, Try.ntmps62
    go_wp2_with (at_builtin; refine wpList_append_src _ rfl (.tmp 5) (.tmp 6) 40 rfl w.heap.size 46 i0 _ 3 48 Try.underlying40 hi0 hz0 hz1 hz2 rfl (by omega) rfl (unhide O0) rfl (unhide S1) (rows_one poR xs) (by unfold maxLen; omega) (by omega) (by simp) ?_
                 intro v1 w1 own1 hg1 hat1
                 rw [Nat.zero_add, List.nil_append] at own1
                 have hb1 : Below w.heap.size w w1 := below_grown ((Below.refl w.heap.size w).alloc (Nat.le_refl _) _) (unhide O0) (Nat.le_refl _) hg1
                 have F1 := hide (And.intro own1 hb1)
                 clear own1 hb1 hg1 hat1 hi0 hz0 hz1 hz2)
    go_ret
    exact ⟨_, rfl, (unhide F1).1, (unhide F1).2⟩


/-- posts in a row of their own -/
def RowOf (w : World) (base : Nat) (v : Value) (P : List Po) : Prop := ∃ ts : List Pq, ts.length = P.length ∧ w.ownsRow base 46 poR.sz v P.length (ts.flatMap poR.cells) ∧
  ∀ (i : Nat) (po : Po), P[i]? = some po → ∃ (A : Option Addr) (c : Nat), ts[i]? = some ⟨((i + 1 : Nat) : Int), po.text, A, po.ents.length, c⟩ ∧ ListIn enR w w.heap.size A po.ents ∧ ∀ (b off : Nat), A = some ⟨b, off, none⟩ → (base ≤ b ∧ b < w.heap.size) ∧ v.ownBlock ≠ some b
/-- posts as they are told -/
def PostsIn (w : World) (ts : List Pq) (P : List Po) : Prop := ∀ (i : Nat) (po : Po), P[i]? = some po → ∃ (A : Option Addr) (c : Nat), ts[i]? = some ⟨((i + 1 : Nat) : Int), po.text, A, po.ents.length, c⟩ ∧ ListIn enR w w.heap.size A po.ents
def OwnI (w wr : World) (k : Nat) (v : Value) (ts : List Pq) (P : List Po) : Prop := ∀ (i : Nat) (po : Po), P[i]? = some po → ∃ (A : Option Addr) (c : Nat), ts[i]? = some ⟨((i + 1 : Nat) : Int), po.text, A, po.ents.length, c⟩ ∧
  ((k ≤ i ∧ ListIn enR w w.heap.size A po.ents) ∨ (i < k ∧ ListIn enR wr wr.heap.size A po.ents ∧ ∀ (b off : Nat), A = some ⟨b, off, none⟩ → (w.heap.size ≤ b ∧ b < wr.heap.size) ∧ v.ownBlock ≠ some b))
theorem po_cells (t : Pq) : poR.cells t = [.int .i64 t.num, .string t.text, .slice t.A t.n t.c] := rfl
set_option maxHeartbeats 8000000 in
set_option maxRecDepth 100000 in
theorem own_any (ts : List Pq) (P : List Po) (A : Option Addr) (n c : Nat) (w : World) (hn : n = ts.length) (hnP : n = P.length) (hlen : n ≤ 5000) (hpl : ∀ po ∈ P, po.ents.length ≤ 100000) (hx : ListIn poR w w.heap.size A ts) (hp : PostsIn w ts P) :
    Calls Try.prog 38 #[.slice A n c] w fun e w' => ∃ v, e = .returned v ∧ RowOf w' w.heap.size v P ∧ Below w.heap.size w w' := by
  have HCL := hide (ClonePo_any ts A n c w hn (by omega) hx)
  have HN := hide hn; have HNP := hide hnP; have HPL := hide hpl; have HP := hide hp
  clear hn hnP hpl hx hp
  go_enter Try.func38, Try.ntmps38
  go_wp2_with fail
  (with_reducible refine (unhide HCL).mono ?_); rintro e w1 ⟨v, rfl, own1, hb⟩
  obtain ⟨A1, c1, rfl, hc1, hc2, -, hL1⟩ := list_of_own own1
  unfold maxLen at hc2
  have h0 : OwnI w w1 0 (.slice A1 n c1) ts P := fun i po hi => by
    obtain ⟨A, c, h1, h2⟩ := unhide HP i po hi
    exact ⟨A, c, h1, .inl ⟨Nat.zero_le _, h2⟩⟩
  have H0 := hide (And.intro own1 (And.intro hb h0))
  clear own1 hb hL1 h0 HCL
  go_wp2_with fail
  go_loopw [4, 9] (fun _ i wr => ∃ (k : Nat) (ts' : List Pq), k ≤ n ∧ i = .int .i64 k ∧ ts'.length = n ∧ wr.ownsRow w.heap.size 46 poR.sz (.slice A1 n c1) n (ts'.flatMap poR.cells) ∧ Below w.heap.size w wr ∧ OwnI w wr k (.slice A1 n c1) ts' P) (fun _ i _ => n - (intOf i).toNat)
  case atStart => exact ⟨0, ts, Nat.zero_le _, rfl, (unhide HN).symm, (unhide H0).1, (unhide H0).2.1, (unhide H0).2.2⟩
  case round =>
    obtain ⟨k, ts', hk, rfl, hl', own, hb, hI⟩ := hrel
    obtain ⟨wp, rfl⟩ : ∃ wp : World, wp = wr := ⟨_, rfl⟩
    by_cases hlt : k < n
    · obtain ⟨po, hpo⟩ : ∃ po, P[k]? = some po := ⟨P[k]'(by rw [← unhide HNP]; exact hlt), List.getElem?_eq_getElem _⟩
      obtain ⟨A2, c2, ht, hpk⟩ := hI k po hpo
      have hE : ListIn enR w w.heap.size A2 po.ents := by
        rcases hpk with ⟨-, h⟩ | ⟨h, -⟩
        · exact h
        · omega
      have hEp := hE.after hb
      obtain ⟨g, cap, hv, hbg, hgl⟩ := own.form (by omega)
      cases hv
      have hcell := own.cellAt (k * 3 + 2) (by show k * 3 + 2 < n * 3; omega)
      have hfr := own.frozenAt (k * 3 + 2)
      have hu := rows_at poR ts' k 2 _ (.slice A2 po.ents.length c2) ht rfl
      have hu' : (ts'.flatMap poR.cells)[k * 3 + 2]? = some (.slice A2 po.ents.length c2) := hu
      rw [hu'] at hcell
      obtain ⟨nx, hnx⟩ : ∃ q, q = po.ents.length := ⟨_, rfl⟩
      have hnx5 : nx ≤ 100000 := by rw [hnx]; exact unhide HPL po (List.mem_of_getElem? hpo)
      rw [← hnx] at hcell
      have HCE := hide (CloneEn_any po.ents A2 nx c2 wp hnx hnx5 hEp)
      have i1 : (0 : Int) ≤ (k : Int) := by omega
      have i2 : (k : Int) < (n : Int) := by omega
      have HT := hide (And.intro ht (And.intro hpo hnx))
      have HO := hide own; have HB := hide hb; have HI := hide hI; have HL := hide hl'
      clear ht hpk hE hEp hu hu' hnx hpo own hb hI hl' hnx5
      go_wp2_with fail
      (with_reducible refine (unhide HCE).mono ?_); rintro e w2 ⟨v2, rfl, own2, hb2⟩
      obtain ⟨A3, c3, rfl, hL3, hA3⟩ := Clone_list own2
      have hcell2 := (hb2.cell (p := ⟨g, k * 3 + 2, none⟩) hgl).trans hcell
      have hfr2 := (hb2.frozen (p := ⟨g, k * 3 + 2, none⟩) hgl).trans hfr
      have H2 := hide (And.intro hL3 (And.intro hA3 hb2))
      clear hcell hfr own2 hL3 hA3 hb2 HCE
      go_wp2_with fail
      go_roundw
      case rel =>
        obtain ⟨ht, hpo, hnx⟩ := unhide HT
        obtain ⟨hL3, hA3, hb2⟩ := unhide H2
        have own2 := own_turn (S := fun _ => False) (unhide HO) (.of_below hb2) (fun g _ hg => hg)
        obtain ⟨own3, hg3⟩ := own2.stored (k * 3 + 2) (.slice A3 nx c3)
        have hset := rows_set poR ts' k _ ht ⟨((k + 1 : Nat) : Int), po.text, A3, nx, c3⟩ 2 (by show 2 < 3; omega) (.slice A3 nx c3) rfl
        have hset' : (ts'.flatMap poR.cells).set (k * 3 + 2) (.slice A3 nx c3) = (ts'.set k ⟨((k + 1 : Nat) : Int), po.text, A3, nx, c3⟩).flatMap poR.cells := hset
        rw [hset'] at own3
        have hb2' := (unhide HB).trans (hb2.mono (unhide HB).size)
        have hws := (unhide HB).size
        have hT : Turn (fun b => b = g) wp (w2.setCell ⟨g, k * 3 + 2, none⟩ (.slice A3 nx c3)) := (Turn.of_below (S := fun b => b = g) hb2).setCell (p := ⟨g, k * 3 + 2, none⟩) (.inl rfl) _
        have hT2 : Turn (fun b => b = g) w2 (w2.setCell ⟨g, k * 3 + 2, none⟩ (.slice A3 nx c3)) := (Turn.refl (fun b => b = g) w2).setCell (p := ⟨g, k * 3 + 2, none⟩) (.inl rfl) _
        have hgw : g < wp.heap.size := hgl
        refine ⟨k + 1, _, by omega, by go_num, by rw [List.length_set]; exact unhide HL, own3, hb2'.setCell hbg _, fun i po' hi => ?_⟩
        by_cases hik : i = k
        · subst hik
          rw [hpo] at hi
          cases hi
          refine ⟨A3, c3, by rw [List.getElem?_set_self (by rw [unhide HL]; omega), hnx], .inr ⟨Nat.lt_succ_self _, list_turn hL3 hT2 (fun b off e hb => ?_), fun b off e => ?_⟩⟩
          · have := (hA3 b off e).1; omega
          · have h1 := hA3 b off e
            refine ⟨⟨by omega, Nat.lt_of_lt_of_le h1.2 hT2.size⟩, fun e2 => ?_⟩
            simp [Value.ownBlock] at e2
            omega
        · obtain ⟨A, c, h1, h2⟩ := unhide HI i po' hi
          refine ⟨A, c, by rw [List.getElem?_set_ne (fun e => hik e.symm)]; exact h1, ?_⟩
          rcases h2 with ⟨h3, h4⟩ | ⟨h3, h4, h5⟩
          · exact .inl ⟨by omega, h4⟩
          · refine .inr ⟨by omega, list_turn h4 hT (fun b off e hb => ?_), fun b off e => ⟨⟨(h5 b off e).1.1, Nat.lt_of_lt_of_le (h5 b off e).1.2 hT.size⟩, (h5 b off e).2⟩⟩
            have := (h5 b off e).2
            simp [Value.ownBlock] at this
            omega
      case measure => simp [intOf]; omega
    · obtain rfl : k = n := by omega
      have HF := hide (And.intro own (And.intro hb (And.intro hI hl')))
      clear own hb hI hl'
      go_wp2_with fail
      go_ret
      obtain ⟨own, hb, hI, hl'⟩ := unhide HF
      refine ⟨_, rfl, ⟨ts', by rw [hl', unhide HNP], by rw [← unhide HNP]; exact own, fun i po hi => ?_⟩, hb⟩
      obtain ⟨A, c, h1, h2⟩ := hI i po hi
      have hik : i < k := by rw [unhide HNP]; exact (List.getElem?_eq_some_iff.1 hi).1
      rcases h2 with ⟨h3, -⟩ | ⟨-, h4, h5⟩
      · omega
      · exact ⟨A, c, h1, h4, h5⟩

theorem LedgerAt.posts {w : World} {base p ma mh n : Nat} {s : Lg} {v : Value} (h : LedgerAt w base p s ma mh v n) : ∃ ts A c, v = .slice A s.P.length c ∧ ts.length = s.P.length ∧ ListIn poR w w.heap.size A ts ∧ PostsIn w ts s.P ∧ s.P.length ≤ c ∧ c ≤ maxLen := by
  obtain ⟨ts, h1, h2, h3⟩ := h.row
  obtain ⟨A, c, h4, h5, h6, h7, h8⟩ := list_of_own h2
  exact ⟨ts, A, c, h4, h1, h8, fun i po hi => by obtain ⟨A, c, q1, q2, _⟩ := h3 i po hi; exact ⟨A, c, q1, q2⟩, h5, h6⟩
set_option maxHeartbeats 2000000 in
theorem Posts_any (w : World) (base p ma mh n : Nat) (s : Lg) (v : Value) (h : LedgerAt w base p s ma mh v n) (hn : n ≤ 5000) (hpl : ∀ po ∈ s.P, po.ents.length ≤ 100000) :
    Calls Try.prog 19 #[.pointer (some ⟨p, 0, none⟩)] w fun e w' => ∃ v, e = .returned v ∧ RowOf w' w.heap.size v s.P ∧ Below w.heap.size w w' := by
  obtain ⟨ow, hW⟩ := h.main
  obtain ⟨ts, A, c, rfl, h1, h2, h3, h4, h5⟩ := h.posts
  have HO := hide (own_any ts s.P A s.P.length c w h1.symm rfl (by have := h.np; omega) hpl h2 h3)
  obtain ⟨np, hnp⟩ : ∃ k, k = s.P.length := ⟨_, rfl⟩
  have cP := hW.cells 2
  simp only [List.getElem?_toArray, List.getElem?_cons_zero, List.getElem?_cons_succ] at cP
  rw [← hnp] at cP HO
  clear h hW h1 h2 h3 h4 h5 hnp hpl
  go_enter Try.func19, Try.ntmps19
  go_wp2_with fail
  (with_reducible refine (unhide HO).mono ?_); rintro e w1 ⟨v, rfl, hr, hb⟩
  have HF := hide (And.intro hr hb)
  clear hr hb
  go_wp2_with fail
  go_ret
  exact ⟨_, rfl, (unhide HF).1, (unhide HF).2⟩
end Go.Proofs.Ytjihkoleipkgmaa
