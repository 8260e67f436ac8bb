/- Walks: the reference's rising texts: Put, Due, Texts. -/
import Derived.Test.YtgalpdjmmpjddaaDueA
import Derived.Test.YtgalpdjmmpjddaaBoxA
import Derived.Test.YtgalpdjmmpjddaaPushA
import Derived.Sort.Walk0
namespace Go.Proofs.Ytgalpdjmmpjddaa
set_option linter.unusedVariables false
set_option linter.unusedSimpArgs false
open Go.RowKit Go.Maps

def putGo (s : List UInt8) : Bool → List (List UInt8) → List (List UInt8)
  | d, [] => if d = true then [] else [s]
  | d, x :: r => (if (!d && decide (s ≤ x)) = true then [s] else []) ++ ((if x = s then [] else [x]) ++ putGo s (d || decide (s ≤ x)) r)
def putL (xs : List (List UInt8)) (s : List UInt8) : List (List UInt8) := putGo s false xs
theorem putGo_at (s : List UInt8) (xs : List (List UInt8)) (k : Nat) (x : List UInt8) (d : Bool) (hx : xs[k]? = some x) :
    putGo s d (xs.drop k) = (if (!d && decide (s ≤ x)) = true then [s] else []) ++ ((if x = s then [] else [x]) ++ putGo s (d || decide (s ≤ x)) (xs.drop (k + 1))) := by
  have hk : k < xs.length := (List.getElem?_eq_some_iff.1 hx).1
  rw [List.drop_eq_getElem_cons hk, (List.getElem?_eq_some_iff.1 hx).2, putGo]
/-- an old cell, behind an append to a row of the call's own -/
theorem cell_grown {W w' : World} {base : Nat} {e : TypeId} {size n b off : Nat} {v u : Value} {xs : List Value} (hown : W.ownsRow base e size v n xs) (hg : W.grownBy w' v.ownBlock) (hb : b < base) (hc : W.cell? ⟨b, off, none⟩ = some u) : w'.cell? ⟨b, off, none⟩ = some u := by
  have hlt : b < W.heap.size := by
    rcases Nat.lt_or_ge b W.heap.size with h | h
    · exact h
    · simp [World.cell?, Array.getElem?_eq_none h] at hc
  exact (World.cell?_of_block (a := ⟨b, off, none⟩) (hg.block b hlt (fun e => by have := (hown.lt b e.symm).1; omega))).trans hc
theorem leq_bytes (s : ByteArray) (x : List UInt8) : (Op.bytesLess s.toList (⟨x.toArray⟩ : ByteArray).toList || (s.toList == (⟨x.toArray⟩ : ByteArray).toList)) = decide (s.data.toList ≤ x) := by
  rw [ByteArray.toList_eq, ByteArray.toList_eq, bytesLess_eq, Bool.eq_iff_iff]
  simp only [Bool.or_eq_true, decide_eq_true_eq, beq_iff_eq]
  constructor
  · rintro (h | h)
    · exact List.le_of_lt h
    · rw [h]; exact List.le_refl _
  · intro h
    by_cases e : s.data.toList = x
    · exact .inr e
    · refine .inl ?_
      rcases List.le_total x s.data.toList with h2 | h2
      · exact absurd (List.le_antisymm h h2) e
      · exact Classical.byContradiction fun hn => e (List.le_antisymm h (List.not_lt.1 hn))
theorem ne_bytes (s : ByteArray) (x : List UInt8) : ((⟨x.toArray⟩ : ByteArray).toList == s.toList) = decide (x = s.data.toList) := by
  rw [ByteArray.toList_eq, ByteArray.toList_eq, Bool.eq_iff_iff]
  simp

/-- how two texts stand to each other, in the walk's spelling -/
theorem cmp_bytes (s : ByteArray) (x : List UInt8) :
    (Op.bytesLess s.toList (⟨x.toArray⟩ : ByteArray).toList = true ∧ (s.toList == (⟨x.toArray⟩ : ByteArray).toList) = false ∧ ((⟨x.toArray⟩ : ByteArray).toList == s.toList) = false ∧ s.data.toList ≤ x ∧ x ≠ s.data.toList) ∨
    (Op.bytesLess s.toList (⟨x.toArray⟩ : ByteArray).toList = false ∧ (s.toList == (⟨x.toArray⟩ : ByteArray).toList) = true ∧ ((⟨x.toArray⟩ : ByteArray).toList == s.toList) = true ∧ s.data.toList ≤ x ∧ x = s.data.toList) ∨
    (Op.bytesLess s.toList (⟨x.toArray⟩ : ByteArray).toList = false ∧ (s.toList == (⟨x.toArray⟩ : ByteArray).toList) = false ∧ ((⟨x.toArray⟩ : ByteArray).toList == s.toList) = false ∧ ¬ s.data.toList ≤ x ∧ x ≠ s.data.toList) := by
  have h1 := leq_bytes s x
  have h2 := ne_bytes s x
  have h3 : (s.toList == (⟨x.toArray⟩ : ByteArray).toList) = ((⟨x.toArray⟩ : ByteArray).toList == s.toList) := by
    rw [Bool.eq_iff_iff]; simp only [beq_iff_eq]; exact eq_comm
  rw [h3, h2] at h1 ⊢
  by_cases e : x = s.data.toList
  · refine .inr (.inl ⟨?_, by simp [e], by simp [e], by rw [e]; exact List.le_refl _, e⟩)
    rw [ByteArray.toList_eq, ByteArray.toList_eq, bytesLess_eq, decide_eq_false_iff_not]
    rw [e]; exact List.lt_irrefl _
  · by_cases hle : s.data.toList ≤ x
    · refine .inl ⟨?_, by simp [e], by simp [e], hle, e⟩
      simpa [e, hle] using h1
    · refine .inr (.inr ⟨?_, by simp [e], by simp [e], hle, e⟩)
      simpa [e, hle] using h1

theorem cmp_texts (s : ByteArray) (x : List UInt8) :
    (Op.bytesLess s.toList x = true ∧ (s.toList == x) = false ∧ (x == s.toList) = false ∧ s.data.toList ≤ x ∧ x ≠ s.data.toList) ∨
    (Op.bytesLess s.toList x = false ∧ (s.toList == x) = true ∧ (x == s.toList) = true ∧ s.data.toList ≤ x ∧ x = s.data.toList) ∨
    (Op.bytesLess s.toList x = false ∧ (s.toList == x) = false ∧ (x == s.toList) = false ∧ ¬ s.data.toList ≤ x ∧ x ≠ s.data.toList) := by
  have h := cmp_bytes s x
  have e : (⟨x.toArray⟩ : ByteArray).toList = x := by rw [ByteArray.toList_eq]
  rw [e] at h
  exact h

set_option maxHeartbeats 8000000 in
set_option maxRecDepth 100000 in
theorem Put_any (xs : List (List UInt8)) (A : Option Addr) (n c : Nat) (s : ByteArray) (w : World) (hn : n = xs.length) (hlen : n ≤ 4096) (hx : ListIn stR w w.heap.size A xs) :
    Calls Try.prog 47 #[.slice A n c, .string s] w (TextsQ w (putL xs s.data.toList)) := by
  obtain ⟨i0, hi0, hz0, hz1, hz2⟩ := info_parts info_str
  have HN := hide hn; have HX := hide hx; have HI := hide (And.intro hi0 (And.intro hz0 (And.intro hz1 hz2)))
  obtain ⟨R, hR⟩ : ∃ R, R = putL xs s.data.toList := ⟨_, rfl⟩
  rw [← hR]
  have HR := hide hR
  have own0 : (w.alloc (.cells #[] 9)).ownsRow w.heap.size 9 stR.sz (.slice (some ⟨w.heap.size, 0, none⟩) 0 0) ([] : List (List UInt8)).length (([] : List (List UInt8)).flatMap stR.cells) := World.ownsRow_lit (base := w.heap.size) (e := 9) (size := 1) w #[] 0 (Nat.le_refl _) (by unfold maxLen; omega) (by simp)
  have HO0 := hide own0
  clear hn hx hi0 hz0 hz1 hz2 hR own0
  go_enter Try.func47, Try.ntmps47
  go_wp2_with fail
  go_loopw [5, 6, 7] (fun v dv i wr => ∃ (k : Nat) (ys : List (List UInt8)) (d : Bool) (v0 : Value), v0 = v ∧ k ≤ n ∧ i = .int .i64 k ∧ dv = .bool d ∧ wr.ownsRow w.heap.size 9 stR.sz v0 ys.length (ys.flatMap stR.cells) ∧ ys.length ≤ 2 * k ∧ Hid (R = ys ++ putGo s.data.toList d (xs.drop k)) ∧ Below w.heap.size w wr) (fun _ _ i _ => n - (intOf i).toNat)
  case atStart => exact ⟨0, [], false, _, rfl, by omega, rfl, rfl, unhide HO0, by simp, hide (by rw [unhide HR]; rfl), (Below.refl _ _).alloc (Nat.le_refl _) _⟩
  case round =>
    obtain ⟨k, ys, d, v0, rfl, hk, rfl, rfl, hown, hyl, HF, hb⟩ := hrel
    obtain ⟨wo, rfl⟩ : ∃ wo : World, wo = wr := ⟨_, rfl⟩
    have HO := hide hown; have HB := hide hb
    have hws := hb.size
    by_cases hlt : k < n
    · obtain ⟨x, hx⟩ : ∃ x, xs[k]? = some x := ⟨xs[k]'(by rw [← unhide HN]; exact hlt), List.getElem?_eq_getElem _⟩
      obtain ⟨b, off, rfl, hbb, c0⟩ := st_at ((unhide HX).below hb) hx
      have hst := putGo_at s.data.toList xs k x d hx
      have hws2 := hws
      have hbw : b < w.heap.size := hbb
      have hcmp := cmp_texts s x
      have HS := hide hst
      clear hst hx hown hb hws2
      obtain ⟨hi0, hz0, hz1, hz2⟩ := unhide HI
      obtain ⟨hi0, hz0, hz1, hz2⟩ := unhide HI
      have hyl1 : ys.length ≤ 100000 := by omega
      have hyl2 : (ys ++ [s.data.toList]).length ≤ 100000 := by simp; omega
      rcases hcmp with ⟨q1, q2, q3, q4, q5⟩ | ⟨q1, q2, q3, q4, q5⟩ | ⟨q1, q2, q3, q4, q5⟩
      · skip
        have q6 : (x != s.toList) = true := by rw [bne, q3]; rfl
        have hs2 := unhide HS
        rw [decide_eq_true q4, if_neg q5] at hs2
        have HS2 := hide hs2
        clear q4 q5 hs2 HS
        cases d
        · skip
          go_wp2_with (first
            | (at_builtin; refine wpList_push stR rfl (.tmp 25) (.tmp 27) 51 rfl w.heap.size 9 i0 _ 16 Try.underlying51 hi0 hz0 hz1 hz2 rfl (by omega) rfl (unhide HO) s.data.toList rfl rfl hyl1 hws ?_; intro v1 w1 own1 hg1; have b1 := below_grown (unhide HB) (unhide HO) (Nat.le_refl _) hg1; have c0 := cell_grown (unhide HO) hg1 hbw c0; have O1 := hide own1; have B1 := hide b1; have hw1 := b1.size; clear own1 b1 hg1)
            | (at_builtin; refine wpList_push stR rfl (.tmp 35) (.tmp 40) 51 rfl w.heap.size 9 i0 _ 16 Try.underlying51 hi0 hz0 hz1 hz2 rfl (by omega) rfl (unhide O1) x rfl rfl hyl2 hw1 ?_; intro v5 w5 own5 hg5; have b5 := below_grown (unhide B1) (unhide O1) (Nat.le_refl _) hg5; have O5 := hide own5; have B5 := hide b5; clear own5 b5 hg5))
          go_roundw
          case rel => exact ⟨k + 1, ys ++ [s.data.toList] ++ [x], true, _, rfl, by omega, by go_num, rfl, unhide O5, by first | omega | (simp; omega), hide (by rw [unhide HF, unhide HS2]; first | rfl | simp), unhide B5⟩
          case measure => simp [intOf]; omega
        · skip
          go_wp2_with (at_builtin; refine wpList_push stR rfl (.tmp 35) (.tmp 40) 51 rfl w.heap.size 9 i0 _ 16 Try.underlying51 hi0 hz0 hz1 hz2 rfl (by omega) rfl (unhide HO) x rfl rfl hyl1 hws ?_; intro v5 w5 own5 hg5; have b5 := below_grown (unhide HB) (unhide HO) (Nat.le_refl _) hg5; have O5 := hide own5; have B5 := hide b5; clear own5 b5 hg5)
          go_roundw
          case rel => exact ⟨k + 1, ys ++ [x], true, _, rfl, by omega, by go_num, rfl, unhide O5, by first | omega | (simp; omega), hide (by rw [unhide HF, unhide HS2]; first | rfl | simp), unhide B5⟩
          case measure => simp [intOf]; omega
      · skip
        have q6 : (x != s.toList) = false := by rw [bne, q3]; rfl
        have hs2 := unhide HS
        rw [decide_eq_true q4, if_pos q5] at hs2
        have HS2 := hide hs2
        clear q4 q5 hs2 HS
        cases d
        · skip
          go_wp2_with (at_builtin; refine wpList_push stR rfl (.tmp 25) (.tmp 27) 51 rfl w.heap.size 9 i0 _ 16 Try.underlying51 hi0 hz0 hz1 hz2 rfl (by omega) rfl (unhide HO) s.data.toList rfl rfl hyl1 hws ?_; intro v1 w1 own1 hg1; have b1 := below_grown (unhide HB) (unhide HO) (Nat.le_refl _) hg1; have c0 := cell_grown (unhide HO) hg1 hbw c0; have O1 := hide own1; have B1 := hide b1; have hw1 := b1.size; clear own1 b1 hg1)
          go_roundw
          case rel => exact ⟨k + 1, ys ++ [s.data.toList], true, _, rfl, by omega, by go_num, rfl, unhide O1, by first | omega | (simp; omega), hide (by rw [unhide HF, unhide HS2]; first | rfl | simp), unhide B1⟩
          case measure => simp [intOf]; omega
        · skip
          go_wp2_with fail
          go_roundw
          case rel => exact ⟨k + 1, ys, true, _, rfl, by omega, by go_num, rfl, unhide HO, by first | omega | (simp; omega), hide (by rw [unhide HF, unhide HS2]; first | rfl | simp), unhide HB⟩
          case measure => simp [intOf]; omega
      · skip
        have q6 : (x != s.toList) = true := by rw [bne, q3]; rfl
        have hs2 := unhide HS
        rw [decide_eq_false q4, if_neg q5] at hs2
        have HS2 := hide hs2
        clear q4 q5 hs2 HS
        cases d
        · skip
          go_wp2_with (at_builtin; refine wpList_push stR rfl (.tmp 35) (.tmp 40) 51 rfl w.heap.size 9 i0 _ 16 Try.underlying51 hi0 hz0 hz1 hz2 rfl (by omega) rfl (unhide HO) x rfl rfl hyl1 hws ?_; intro v5 w5 own5 hg5; have b5 := below_grown (unhide HB) (unhide HO) (Nat.le_refl _) hg5; have O5 := hide own5; have B5 := hide b5; clear own5 b5 hg5)
          go_roundw
          case rel => exact ⟨k + 1, ys ++ [x], false, _, rfl, by omega, by go_num, rfl, unhide O5, by first | omega | (simp; omega), hide (by rw [unhide HF, unhide HS2]; first | rfl | simp), unhide B5⟩
          case measure => simp [intOf]; omega
        · skip
          go_wp2_with (at_builtin; refine wpList_push stR rfl (.tmp 35) (.tmp 40) 51 rfl w.heap.size 9 i0 _ 16 Try.underlying51 hi0 hz0 hz1 hz2 rfl (by omega) rfl (unhide HO) x rfl rfl hyl1 hws ?_; intro v5 w5 own5 hg5; have b5 := below_grown (unhide HB) (unhide HO) (Nat.le_refl _) hg5; have O5 := hide own5; have B5 := hide b5; clear own5 b5 hg5)
          go_roundw
          case rel => exact ⟨k + 1, ys ++ [x], true, _, rfl, by omega, by go_num, rfl, unhide O5, by first | omega | (simp; omega), hide (by rw [unhide HF, unhide HS2]; first | rfl | simp), unhide B5⟩
          case measure => simp [intOf]; omega
    · have hend : xs.drop k = [] := List.drop_eq_nil_of_le (by rw [← unhide HN]; omega)
      have hf := unhide HF
      rw [hend, putGo] at hf
      have hyl1 : ys.length ≤ 100000 := by omega
      obtain ⟨hi0, hz0, hz1, hz2⟩ := unhide HI
      clear hend hown hb
      cases d
      · have HE := hide hf
        clear hf
        go_wp2_with (at_builtin; refine wpList_push stR rfl (.tmp 44) (.tmp 46) 51 rfl w.heap.size 9 i0 _ 16 Try.underlying51 hi0 hz0 hz1 hz2 rfl (by omega) rfl (unhide HO) s.data.toList rfl rfl hyl1 hws ?_; intro v1 w1 own1 hg1; have b1 := below_grown (unhide HB) (unhide HO) (Nat.le_refl _) hg1; have O1 := hide own1; have B1 := hide b1; clear own1 b1 hg1)
        go_ret
        obtain ⟨A', c', hv, -, -, -, hL⟩ := list_of_own (unhide O1)
        rw [unhide HE]
        exact ⟨A', c', by rw [hv]; rfl, hL, unhide B1⟩
      · have HE := hide hf
        clear hf
        go_wp2_with fail
        go_ret
        obtain ⟨A', c', hv, -, -, -, hL⟩ := list_of_own (unhide HO)
        rw [unhide HE]
        exact ⟨A', c', by rw [hv]; simp, by simpa using hL, unhide HB⟩

/-- put one behind the other -/
def rdueL (bs : List Bx) (day : Int) : List (List UInt8) := (dueL bs day).foldl putL []
theorem dueL_take (bs : List Bx) (day : Int) (k : Nat) (x : Bx) (hx : bs[k]? = some x) : dueL (bs.take (k + 1)) day = dueL (bs.take k) day ++ if dueB day x = true then [x.nm] else [] := by
  have hk : k < bs.length := (List.getElem?_eq_some_iff.1 hx).1
  rw [List.take_succ_eq_append_getElem hk, (List.getElem?_eq_some_iff.1 hx).2]
  unfold dueL
  rw [List.filter_append, List.map_append, List.filter_cons]
  cases dueB day x <;> simp
theorem rdueL_take (bs : List Bx) (day : Int) (k : Nat) (x : Bx) (hx : bs[k]? = some x) : rdueL (bs.take (k + 1)) day = if dueB day x = true then putL (rdueL (bs.take k) day) x.nm else rdueL (bs.take k) day := by
  unfold rdueL
  rw [dueL_take bs day k x hx, List.foldl_append]
  cases dueB day x <;> simp
theorem putGo_len (s : List UInt8) (d : Bool) (xs : List (List UInt8)) : (putGo s d xs).length ≤ xs.length + 1 ∧ (d = true → (putGo s d xs).length ≤ xs.length) := by
  induction xs generalizing d with
  | nil => cases d <;> simp [putGo]
  | cons x r ih =>
    rw [putGo]
    cases d
    · cases h : decide (s ≤ x)
      · have := (ih false).1
        simp only [Bool.not_false, Bool.and_false, Bool.false_eq_true, if_false, Bool.or_self, List.nil_append, List.length_append, List.length_cons]
        refine ⟨?_, fun h => by cases h⟩
        split <;> simp <;> omega
      · have := (ih true).2 rfl
        simp only [Bool.not_false, Bool.and_self, if_true, Bool.or_true, List.length_append, List.length_cons]
        refine ⟨?_, fun h => by cases h⟩
        split <;> simp <;> omega
    · have := (ih true).2 rfl
      simp only [Bool.not_true, Bool.false_and, Bool.false_eq_true, if_false, Bool.true_or, List.nil_append, List.length_append, List.length_cons]
      refine ⟨?_, fun _ => ?_⟩
      all_goals (split <;> simp <;> omega)
theorem rdueL_len (bs : List Bx) (day : Int) : (rdueL bs day).length ≤ bs.length := by
  have h : ∀ (l acc : List (List UInt8)), (l.foldl putL acc).length ≤ acc.length + l.length := by
    intro l
    induction l with
    | nil => intro acc; simp
    | cons s r ih =>
      intro acc
      rw [List.foldl_cons]
      have h1 := ih (putL acc s)
      have h2 := (putGo_len s false acc).1
      unfold putL at h1 ⊢
      simp only [List.length_cons]
      omega
  have h1 := h (dueL bs day) []
  have h2 : (dueL bs day).length ≤ bs.length := by unfold dueL; rw [List.length_map]; exact List.length_filter_le _ _
  unfold rdueL
  simp at h1
  omega

set_option maxHeartbeats 8000000 in
set_option maxRecDepth 100000 in
theorem RDue_any (bs : List Bx) (A : Option Addr) (n c : Nat) (day : Int) (w : World) (hn : n = bs.length) (hlen : n ≤ 4000) (hx : ListIn bxR w w.heap.size A bs) :
    Calls Try.prog 27 #[.slice A n c, .int .i64 day] w (TextsQ w (rdueL bs day)) := by
  have HN := hide hn; have HX := hide hx
  obtain ⟨R, hR⟩ : ∃ R, R = rdueL bs day := ⟨_, rfl⟩
  rw [← hR]
  have HR := hide hR
  clear hn hx hR
  go_enter Try.func27, Try.ntmps27
  go_wp2_with fail
  go_loopw [5, 6] (fun v i wr => ∃ (k : Nat) (S : Option Addr) (cS : Nat), k ≤ n ∧ i = .int .i64 k ∧ v = .slice S (rdueL (bs.take k) day).length cS ∧ ListIn stR wr wr.heap.size S (rdueL (bs.take k) day) ∧ Below w.heap.size w wr) (fun _ i _ => n - (intOf i).toNat)
  case atStart => exact ⟨0, _, _, by omega, rfl, rfl, ListIn.nil, (Below.refl _ _).alloc (Nat.le_refl _) _⟩
  case round =>
    obtain ⟨k, S, cS, hk, rfl, rfl, hL, hb⟩ := hrel
    obtain ⟨wo, rfl⟩ : ∃ wo : World, wo = wr := ⟨_, rfl⟩
    by_cases hlt : k < n
    · obtain ⟨x, hx⟩ : ∃ x, bs[k]? = some x := ⟨bs[k]'(by rw [← unhide HN]; exact hlt), List.getElem?_eq_getElem _⟩
      obtain ⟨b, off, rfl, hbb, c0, c1, c2, c3⟩ := box_at ((unhide HX).below hb) hx
      have hst := rdueL_take bs day k x hx
      have hln := rdueL_len (bs.take k) day
      have htk := List.length_take_le k bs
      have hdd : dueB day x = (decide (x.state = 0) && decide (x.day ≤ day)) := rfl
      have HB := hide hb
      have HP := hide (Put_any (rdueL (bs.take k) day) S _ cS x.name wo rfl (by omega) hL)
      have HL := hide hL
      obtain ⟨L, hLd⟩ : ∃ L, L = rdueL (bs.take k) day := ⟨_, rfl⟩
      rw [← hLd] at hst HP HL ⊢
      clear hx hln htk hb hL hLd
      cases hd : dueB day x
      · rw [hd] at hdd hst
        rw [if_neg (by simp)] at hst
        have HS := hide hst
        clear hst hd HP
        by_cases h0 : x.state = 0
        · have t0 : decide (x.state = 0) = true := by simpa using h0
          have t1 : (x.state == 0) = true := by simpa using h0
          have t2 : decide (x.day ≤ day) = false := by rw [t0] at hdd; simpa using hdd.symm
          clear h0 hdd
          go_wp2_with fail
          go_roundw
          case rel => exact ⟨k + 1, S, cS, by omega, by go_num, by rw [unhide HS], by rw [unhide HS]; exact unhide HL, unhide HB⟩
          case measure => simp [intOf]; omega
        · have t0 : decide (x.state = 0) = false := by simpa using h0
          have t1 : (x.state == 0) = false := by simpa using h0
          clear h0 hdd
          go_wp2_with fail
          go_roundw
          case rel => exact ⟨k + 1, S, cS, by omega, by go_num, by rw [unhide HS], by rw [unhide HS]; exact unhide HL, unhide HB⟩
          case measure => simp [intOf]; omega
      · rw [hd] at hdd hst
        rw [if_pos rfl] at hst
        have h2 := hdd.symm
        simp only [Bool.and_eq_true] at h2
        obtain ⟨t0, t2⟩ := h2
        have t1 : (x.state == 0) = true := by simpa using t0
        have HS := hide hst
        clear hst hd hdd
        go_wp2_with fail
        (with_reducible refine (unhide HP).mono ?_); rintro e w3 ⟨S3, c3', rfl, hL3, hb3⟩
        have HF := hide (And.intro hL3 ((unhide HB).trans (hb3.mono (unhide HB).size)))
        clear hL3 hb3 HP
        go_wp2_with fail
        go_roundw
        case rel => exact ⟨k + 1, S3, c3', by omega, by go_num, by rw [unhide HS], by rw [unhide HS]; exact (unhide HF).1, (unhide HF).2⟩
        case measure => simp [intOf]; omega
    · have hend : R = rdueL (bs.take k) day := by rw [unhide HR, List.take_of_length_le (by rw [← unhide HN]; omega)]
      have HE := hide hend
      have HF := hide (And.intro hL hb)
      clear hend hL hb
      go_wp2_with fail
      go_ret
      exact ⟨S, cS, by rw [unhide HE]; rfl, by rw [unhide HE]; exact (unhide HF).1, (unhide HF).2⟩

set_option maxHeartbeats 4000000 in
set_option maxRecDepth 100000 in
theorem Texts_same (xs : List (List UInt8)) (A B : Option Addr) (n c d : Nat) (w : World) (hn : n = xs.length) (hlen : n ≤ 4096) (hx : ListIn stR w w.heap.size A xs) (hy : ListIn stR w w.heap.size B xs) :
    Calls Try.prog 26 #[.slice A n c, .slice B n d] w fun e w' => e = .returned (.bool true) ∧ Below w.heap.size w w' := by
  have HN := hide hn; have HX := hide hx; have HY := hide hy
  clear hn hx hy
  go_enter Try.func26, Try.ntmps26
  go_wp2_with fail
  go_loopw [5] (fun i wr => ∃ k : Nat, k ≤ n ∧ i = .int .i64 k ∧ Below w.heap.size w wr) (fun i _ => n - (intOf i).toNat)
  case atStart => exact ⟨0, by omega, rfl, Below.refl _ _⟩
  case round =>
    obtain ⟨k, hk, rfl, hb⟩ := hrel
    obtain ⟨wo, rfl⟩ : ∃ wo : World, wo = wr := ⟨_, rfl⟩
    by_cases hlt : k < n
    · obtain ⟨x, hx⟩ : ∃ x, xs[k]? = some x := ⟨xs[k]'(by rw [← unhide HN]; exact hlt), List.getElem?_eq_getElem _⟩
      obtain ⟨b1, o1, rfl, hbb1, c1⟩ := st_at ((unhide HX).below hb) hx
      obtain ⟨b2, o2, rfl, hbb2, c2⟩ := st_at ((unhide HY).below hb) hx
      have HB := hide hb
      have i1 : (0 : Int) ≤ (k : Int) := by omega
      have i2 : (k : Int) < (n : Int) := by omega
      clear hx hb
      go_wp2_with fail
      go_quiet (fail)
      go_wp2_with fail
      all_goals
        go_roundw
        case rel => exact ⟨k + 1, by omega, by go_num, by first | exact unhide HB | (have hb := unhide HB; exact ⟨hb.os, hb.tape, hb.output, hb.size, hb.block⟩)⟩
        case measure => simp [intOf]; omega
    · have HB := hide hb
      clear hb
      go_wp2_with fail
      go_ret
      exact ⟨rfl, unhide HB⟩
end Go.Proofs.Ytgalpdjmmpjddaa
