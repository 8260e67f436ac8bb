/- Walks: the holds in a row; the total of a currency. -/
import Derived.Test.YtjihkoleipkgmaaLgU
namespace Go.Proofs.Ytjihkoleipkgmaa
set_option linter.unusedVariables false
set_option linter.unusedSimpArgs false
open Go.RowKit Go.Maps

theorem mapsKeys_any (mb : Option Nat) (W : World) : Calls Try.prog 57 #[.map mb] W fun e w' => e = .returned (.func (.func 75) #[] #[.pointer (some ⟨W.heap.size, 0, none⟩)]) ∧ w' = W.alloc (.cells #[.map mb] 73) :=
  callsIn_wide.1 (Go.Proofs.Try.maps_Keys_57 mb W)
theorem sortedKeys_any (b n : Nat) (f : ByteArray → Option Value) (w : World) (h : MapAt txtKeys w b n f) (hn : n ≤ 100000) :
    Calls Try.prog 56 #[.func (.func 75) #[] #[.pointer (some ⟨w.heap.size, 0, none⟩)]] (w.alloc (.cells #[.map (some b)] 73)) fun e w' => ∃ (v : Value) (ks : List ByteArray), e = .returned v ∧ Rising ks ∧ (∀ s, s ∈ ks ↔ s.size ≤ maxLen ∧ (f s).isSome = true) ∧ ks.length ≤ n ∧
      w'.ownsRow w.heap.size 9 txtR.sz v ks.length (ks.flatMap txtR.cells) ∧ Below w.heap.size w w' := by
  obtain ⟨D, hD, hnd, hm⟩ := h.keys
  have hsz := hD.size_le
  refine (callsIn_wide.1 (Go.Proofs.Try.slices_Sorted_keys_56_57 b n D raw w hD (by unfold maxLen; omega) (by omega))).mono ?_
  rintro e w' ⟨v, ss, rfl, hS, hrow, _, hb⟩
  obtain ⟨ks, k1, k2, k3, k4⟩ := keys_row (w := w) (b := b) (n := n) hnd hm hS
  rw [← k3] at hrow
  have hlen : ks.length ≤ n := by
    rw [k3, hS.length_eq]
    have : (Go.strKeys D).length = Maps.size D := by
      obtain ⟨es, rfl, _⟩ := hD.entries txtKeyed
      simp [Go.strKeys, Maps.size]
    omega
  refine ⟨v, ks, rfl, k1, k2, hlen, ?_, ((Below.refl _ w).alloc (Nat.le_refl _) _).trans (hb.mono (by simp))⟩
  have e : (ss.mergeSort (fun x y => decide (x ≤ y))).map encStr = ks.flatMap txtR.cells := k4
  rw [e] at hrow
  exact ownsRow_base_a hrow (by simp)

/-- holds in a row -/
def hoR : Rowing Ho where
  sz := 4
  cells h := [.string h.id, .string h.acct, .string h.cur, .int .i64 h.amt]
  pos := by omega
  len _ := rfl
  one x u hu := by
    simp at hu
    rcases hu with rfl | rfl | rfl | rfl <;> rfl
theorem info_ho : (Try.prog.info? 66).map (fun i => (i.zero, i.size, i.bytes)) = some (some (.agg #[.string ⟨#[]⟩, .string ⟨#[]⟩, .string ⟨#[]⟩, .int .i64 0]), 4, 56) := by kernel_rfl
/-- the holds, by their names -/
structure HoldsOf (s : Lg) (gs : List Ho) : Prop where
  rise : gs.Pairwise fun g h => g.id.data.toList < h.id.data.toList
  mem : ∀ g, g ∈ gs ↔ g ∈ s.H
theorem holds_of {s : Lg} (h : LgOk s) {ks : List ByteArray} (hr : Rising ks) (hm : ∀ i, i ∈ ks ↔ i.size ≤ maxLen ∧ (holdF s i).isSome = true) : HoldsOf s (ks.map (hoOf s)) := by
  have hid : ∀ i ∈ ks, (hoOf s i).id = i ∧ hoOf s i ∈ s.H := fun i hi => by
    have h1 := ((hm i).1 hi).2
    unfold holdF at h1
    unfold hoOf
    cases hf : findH s.H i with
    | none => rw [hf] at h1; simp at h1
    | some g => obtain ⟨h2, h3⟩ := findH_some hf; exact ⟨h3, h2⟩
  refine ⟨?_, fun g => ⟨fun hg => ?_, fun hg => ?_⟩⟩
  · rw [List.pairwise_map]
    exact hr.imp_of_mem fun {a b} ha hb hab => by rw [(hid a ha).1, (hid b hb).1]; exact hab
  · obtain ⟨i, hi, rfl⟩ := List.mem_map.1 hg
    exact (hid i hi).2
  · have hf := findH_mem h hg
    refine List.mem_map.2 ⟨g.id, (hm g.id).2 ⟨?_, ?_⟩, ?_⟩
    · have := okName_size (h.hold g hg).1; unfold maxLen; omega
    · unfold holdF; rw [hf]; rfl
    · unfold hoOf; rw [hf]; rfl
def HoldsQ (w : World) (s : Lg) (e : Ending) (w' : World) : Prop := ∃ (A : Option Addr) (c : Nat) (gs : List Ho), e = .returned (.slice A gs.length c) ∧ HoldsOf s gs ∧ ListIn hoR w' w'.heap.size A gs ∧ gs.length ≤ c ∧ c ≤ maxLen ∧ gs.length ≤ 100000 ∧ Below w.heap.size w w'

set_option maxHeartbeats 8000000 in
set_option maxRecDepth 100000 in
theorem Holds_any (w : World) (base p ma mh n : Nat) (s : Lg) (v : Value) (h : LedgerAt w base p s ma mh v n) (hn : n ≤ 5000) :
    Calls Try.prog 30 #[.pointer (some ⟨p, 0, none⟩)] w (HoldsQ w s) := by
  obtain ⟨ow, hW⟩ := h.main
  have HL := hide h
  have cP := hW.cells 3
  simp only [List.getElem?_toArray, List.getElem?_cons_zero, List.getElem?_cons_succ] at cP
  obtain ⟨i0, hi0, hz0, hz1, hz2⟩ := info_parts info_ho
  unfold HoldsQ
  clear h hW
  go_enter Try.func30, Try.ntmps30
  go_wp2_with fail
  (with_reducible refine (mapsKeys_any _ _).mono ?_); rintro e w3 ⟨rfl, rfl⟩
  go_wp2_with fail
  (with_reducible refine (sortedKeys_any mh n (holdF s) w (unhide HL).hol (by omega)).mono ?_); rintro e w4 ⟨vk, ks, rfl, hri, hks, hkl, hrow, hb4⟩
  obtain ⟨A4, c4, rfl, hc4, hc5, -, hL4⟩ := list_of_own hrow
  unfold maxLen at hc5
  have HHO := hide (holds_of (unhide HL).ok hri hks)
  have hW4 : ∃ ow, Whole w4 p 75 #[.string ow, .map (some ma), v, .map (some mh)] := by obtain ⟨ow, k⟩ := (unhide HL).main; exact ⟨ow, k.after hb4⟩
  obtain ⟨ow4, hW4⟩ := hW4
  have hM4 := (unhide HL).hol.after hb4
  obtain ⟨m, hm⟩ : ∃ m, m = ks.length := ⟨_, rfl⟩
  rw [← hm] at hkl hc4 ⊢
  have H4 := hide (And.intro hL4 (And.intro hM4 (And.intro hW4 hb4)))
  have HKM := hide hm; have HKS := hide hks
  clear hrow hL4 hM4 hb4 hW4 hm hks hri cP
  go_wp2_with fail
  go_loopw [3, 13] (fun o i wr => ∃ (j : Nat) (v0 : Value), j ≤ m ∧ i = .int .i64 j ∧ o = v0 ∧ wr.ownsRow w4.heap.size 66 hoR.sz v0 ((ks.take j).map (hoOf s)).length (((ks.take j).map (hoOf s)).flatMap hoR.cells) ∧ Below w4.heap.size w4 wr) (fun _ i _ => m - (intOf i).toNat)
  case atStart => exact ⟨0, _, by omega, rfl, rfl, World.ownsRow_nil _ _ _ _, Below.refl _ _⟩
  case round =>
    obtain ⟨j, v0, hj, rfl, rfl, own, hb⟩ := hrel
    obtain ⟨wq, rfl⟩ : ∃ wq : World, wq = wr := ⟨_, rfl⟩
    by_cases hlt : j < m
    · obtain ⟨i, hi⟩ : ∃ i, ks[j]? = some i := ⟨ks[j]'(by rw [← unhide HKM]; exact hlt), List.getElem?_eq_getElem _⟩
      obtain ⟨b4, off4, rfl, hbb, c0⟩ := txt_at ((unhide H4).1.below hb) hi
      have hsz : i.size ≤ maxLen := ((unhide HKS i).1 (List.mem_of_getElem? hi)).1
      have hlk : (Instr.lookup 73 (.map (some mh)) (.string i) false).run Try.prog wq = .ok (.agg #[.string (hoOf s i).id, .string (hoOf s i).acct, .string (hoOf s i).cur, .int .i64 (hoOf s i).amt]) wq := look_hold ((unhide H4).2.1.below hb (unhide H4).2.1.lt) i hsz false
      have cP := ((unhide H4).2.2.1.after hb).cells 3
      simp only [List.getElem?_toArray, List.getElem?_cons_zero, List.getElem?_cons_succ] at cP
      have htk : (ks.take j).map (hoOf s) ++ [hoOf s i] = (ks.take (j + 1)).map (hoOf s) := by
        rw [List.take_add_one, hi, List.map_append]; rfl
      have hyl : ((ks.take j).map (hoOf s)).length ≤ 100000 := by rw [List.length_map, List.length_take]; omega
      have hws := hb.size
      have i1 : (0 : Int) ≤ (j : Int) := by omega
      have i2 : (j : Int) < (m : Int) := by omega
      have HO := hide own; have HB := hide hb; have HTK := hide htk
      clear own hb htk hi hsz
      go_wp2_with (at_builtin; refine wpList_push hoR rfl (.tmp 17) (.tmp 24) 52 rfl w4.heap.size 66 i0 _ 56 Try.underlying52 hi0 hz0 hz1 hz2 rfl (by omega) rfl (unhide HO) (hoOf s i) rfl rfl hyl hws ?_; intro v1 w5 own1 hg1; have H5 := hide (And.intro own1 hg1); clear own1 hg1)
      go_roundw
      case rel =>
        obtain ⟨own1, hg1⟩ := unhide H5
        rw [unhide HTK] at own1
        exact ⟨j + 1, _, by omega, by go_num, rfl, own1, below_grown (unhide HB) (unhide HO) (Nat.le_refl _) hg1⟩
      case measure => simp [intOf]; omega
    · have hjm : j = m := by omega
      subst hjm
      rw [List.take_of_length_le (by rw [← unhide HKM]; omega)] at own
      have HF := hide (And.intro own hb)
      clear own hb
      go_wp2_with fail
      go_ret
      have hsz := (unhide H4).2.2.2.size
      obtain ⟨A', c', hv, h1, h2, h3, h4⟩ := list_of_own (unhide HF).1
      refine ⟨A', c', ks.map (hoOf s), by rw [hv]; rfl, unhide HHO, h4, h1, h2, by rw [List.length_map, ← unhide HKM]; omega, (unhide H4).2.2.2.trans ((unhide HF).2.mono hsz)⟩

/-- balances of a currency of which a key tells -/
def totI (s : Lg) (c : ByteArray) (todo : ByteArray × ByteArray → Bool) : Int := ((s.A.filter fun a => decide (a.cur = c) && !todo (a.name, a.cur)).map Ac.bal).sum
def totOf (s : Lg) (c : ByteArray) : Int := ((s.A.filter fun a => decide (a.cur = c)).map Ac.bal).sum
theorem sum_pick {α : Type} (f : α → Int) (p q : α → Bool) (r : α → α → Prop) (a : α) (hpa : p a = false) (hqa : q a = true) : ∀ (l : List α), l.Pairwise r → a ∈ l → (∀ b ∈ l, b ≠ a → q b = p b) → (∀ x, r x a → x ≠ a) → (∀ x, r a x → x ≠ a) → ((l.filter q).map f).sum = ((l.filter p).map f).sum + f a
  | [], _, h, _, _, _ => by simp at h
  | x :: t, hp, h, hq, hr1, hr2 => by
    obtain ⟨h1, h2⟩ := List.pairwise_cons.1 hp
    rcases List.mem_cons.1 h with rfl | h
    · have e : t.filter q = t.filter p := List.filter_congr fun b hb => hq b (List.mem_cons_of_mem _ hb) (hr2 b (h1 b hb))
      rw [List.filter_cons, List.filter_cons, hpa, hqa, e]
      simp
      omega
    · have hx : q x = p x := hq x List.mem_cons_self (hr1 x (h1 a h))
      have ih := sum_pick f p q r a hpa hqa t h2 h (fun b hb => hq b (List.mem_cons_of_mem _ hb)) hr1 hr2
      rw [List.filter_cons, List.filter_cons, hx]
      cases p x <;> simp [ih]
      omega
theorem totI_step {s : Lg} (h : LgOk s) (c : ByteArray) (todo : ByteArray × ByteArray → Bool) {a : Ac} {n u : ByteArray} (ha : findA s.A n u = some a) (ht : todo (n, u) = true) :
    totI s c (fun y => todo y && !decide (y = (n, u))) = totI s c todo + (if u = c then a.bal else 0) := by
  obtain ⟨h1, h2, h3⟩ := findA_some ha
  unfold totI
  by_cases hu : u = c
  · rw [if_pos hu]
    have hne : ∀ x : Ac, ¬ (x.name = a.name ∧ x.cur = a.cur) → x ≠ a := fun x hx e => hx (by rw [e]; exact ⟨rfl, rfl⟩)
    refine sum_pick Ac.bal _ _ _ a ?_ ?_ s.A h.apartA h1 ?_ hne (fun x hx => hne x fun e => hx ⟨e.1.symm, e.2.symm⟩)
    · rw [h2, h3, ht]; simp
    · rw [h2, h3]; simp [hu]
    · intro b hb hba
      have : (b.name, b.cur) ≠ (n, u) := fun e => by
        have h4 := findA_mem h hb
        obtain ⟨e1, e2⟩ := Prod.mk.inj e
        rw [e1, e2, ha] at h4
        exact hba (Option.some.inj h4).symm
      simp [this]
  · rw [if_neg hu, Int.add_zero]
    congr 2
    refine List.filter_congr fun b hb => ?_
    by_cases hb2 : b.cur = c
    · have : (b.name, b.cur) ≠ (n, u) := fun e => hu ((Prod.mk.inj e).2.symm.trans hb2)
      simp [this]
    · simp [hb2]
theorem wrap_add (a b : Int) : wrap64 (wrap64 a + b) = wrap64 (a + b) := by unfold wrap64; omega
set_option maxHeartbeats 8000000 in
set_option maxRecDepth 100000 in
theorem Total_any (w : World) (base p ma mh n : Nat) (s : Lg) (v : Value) (c : ByteArray) (h : LedgerAt w base p s ma mh v n) (hn : n ≤ 5000) (hc : c.size ≤ maxLen) :
    Calls Try.prog 21 #[.pointer (some ⟨p, 0, none⟩), .string c] w fun e w' => e = .returned (.int .i64 (wrap64 (totOf s c))) ∧ Below w.heap.size w w' := by
  obtain ⟨ow, hW⟩ := h.main
  have HL := hide h
  have cP := hW.cells 1
  simp only [List.getElem?_toArray, List.getElem?_cons_zero, List.getElem?_cons_succ] at cP
  have hml := h.acc.lt
  have HM := hide h.acc
  clear h hW
  go_enter Try.func21, Try.ntmps21
  go_wp2_with (at_range; refine wpList_going _ rfl _ 72 rfl 68 70 (J := keyKeys) Try.underlying72 ma n rfl (unhide HM) ?_; intro w1 cnt hgo hgr hs1)
  try go_frame
  have hst : totI s c (fun x => (accF s x).isSome) = 0 := by
    unfold totI
    have : s.A.filter (fun a => decide (a.cur = c) && !(accF s (a.name, a.cur)).isSome) = [] := List.filter_eq_nil_iff.2 fun a ha => by
      have h1 := findA_mem (unhide HL).ok ha
      unfold accF
      simp only [h1]
      simp
    rw [this]; rfl
  have HST := hide hst
  clear hst
  go_loopw [5, 6, 7] (fun o _ _ wr => ∃ (todo : ByteArray × ByteArray → Bool) (cnt : Nat), Going keyKeys wr ma w.heap.size n (accF s) todo cnt ∧ o = .int .i64 (wrap64 (totI s c todo)) ∧ Below w.heap.size w wr) (fun _ _ _ wr => wr.rangeLeft ma w.heap.size)
  case atStart =>
    exact ⟨_, _, hgo, by rw [unhide HST]; simp [wrap64], (Below.refl w.heap.size w).grown hgr (Nat.le_refl _) (fun q hq => by cases hq)⟩
  case round =>
    obtain ⟨todo, cnt2, hg, rfl, hb⟩ := hrel
    obtain ⟨wq, rfl⟩ : ∃ wq : World, wq = wr := ⟨_, rfl⟩
    have HB := hide hb
    clear hb hgo hgr hs1
    go_wp2_with (at_next; refine wpList_going_next _ rfl _ rfl (fun key kl h => key_inv h) rfl hg ?_ ?_)
    · intro hc0 hl0
      have he : totI s c todo = totOf s c := by
        unfold totI totOf
        congr 2
        refine List.filter_congr fun a ha => ?_
        have h1 := (unhide HL).ok.name a ha
        have q1 := okName_size h1.1
        have q2 := okCur_size h1.2
        rw [hl0 a.name a.cur ⟨by show a.name.size ≤ maxLen; unfold maxLen; omega, by show a.cur.size ≤ maxLen; unfold maxLen; omega⟩]
        simp
      rw [he]
      clear hc0 hl0 hg he
      go_wp2_with fail
      go_ret
      exact ⟨rfl, unhide HB⟩
    · intro yn yc u w2 cnt3 hgood htodo hfx hg2 hlt hgr2 hsz2 hen
      obtain ⟨a, ha, rfl⟩ : ∃ a, findA s.A yn yc = some a ∧ acV s a = u := by
        unfold accF at hfx
        simp only at hfx
        cases hf : findA s.A yn yc with
        | none => rw [hf] at hfx; simp at hfx
        | some a => rw [hf] at hfx; exact ⟨a, rfl, Option.some.inj hfx⟩
      have hst := totI_step (unhide HL).ok c todo ha htodo
      simp only [acV] at hen ⊢
      have ekv : keyKeys.kv (yn, yc) = .agg #[.string yn, .string yc] := rfl
      simp only [ekv] at hen ⊢
      clear ekv hsz2
      have hb2 := (unhide HB).grown hgr2 (unhide HB).size (fun q hq => by cases hq; exact Nat.le_refl _)
      obtain ⟨q1, hq1⟩ : ∃ q, q = a.floor := ⟨_, rfl⟩
      obtain ⟨q2, hq2⟩ : ∃ q, q = a.bal := ⟨_, rfl⟩
      obtain ⟨q3, hq3⟩ : ∃ q, q = s.held a := ⟨_, rfl⟩
      obtain ⟨z, hz⟩ : ∃ q, q = totI s c todo := ⟨_, rfl⟩
      rw [← hq1, ← hq2, ← hq3] at hen ⊢
      rw [← hq2, ← hz] at hst
      rw [← hz]
      have HST2 := hide hst
      have HG2 := hide hg2; have HLT := hide hlt; have HG1 := hide hg
      have HB2 := hide hb2
      have HBA := hide (((Below.refl w2.heap.size w2).alloc (Nat.le_refl _) (.cells #[.string yn, .string yc] 68)).alloc (by simp) (.cells #[.int .i64 q1, .int .i64 q2, .int .i64 q3] 70))
      clear ha htodo hfx hst hg2 hlt hg hgr2 hb2 hq1 hq2 hq3 hz hgood
      have HFIN := hide (And.intro ((unhide HG2).kept (grown_below (unhide HBA) none) (by simp) (by simp)) ((unhide HB2).trans ((unhide HBA).mono (unhide HB2).size)))
      by_cases hu : yc = c
      · have e1 : (yc.toList == c.toList) = true := eqS_true hu
        have HU := hide hu
        clear hu
        go_wp2_with fail
        go_roundw
        case rel => exact ⟨_, _, (unhide HFIN).1, by rw [unhide HST2, if_pos (unhide HU), wrap_add], (unhide HFIN).2⟩
        case measure => rw [(unhide HFIN).1.measure, (unhide HG1).measure]; exact unhide HLT
      · have e1 : (yc.toList == c.toList) = false := eqS_false hu
        have HU := hide hu
        clear hu
        go_wp2_with fail
        go_roundw
        case rel => exact ⟨_, _, (unhide HFIN).1, by rw [unhide HST2, if_neg (unhide HU), Int.add_zero], (unhide HFIN).2⟩
        case measure => rw [(unhide HFIN).1.measure, (unhide HG1).measure]; exact unhide HLT
end Go.Proofs.Ytjihkoleipkgmaa
