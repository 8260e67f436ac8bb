/- Walk: all accounts, with their balances. -/
import Derived.Test.YtjihkoleipkgmaaLgZ
namespace Go.Proofs.Ytjihkoleipkgmaa
set_option linter.unusedVariables false
set_option linter.unusedSimpArgs false
open Go.RowKit Go.Maps

/-- an account as an entry -/
def toEn (a : Ac) : En := ⟨a.name, a.cur, a.bal⟩
/-- the accounts in their order -/
structure AccOf (s : Lg) (ys : List En) : Prop where
  perm : ys.Perm (s.A.map toEn)
  rise : ys.Pairwise fun x y => enCmp x y < 0
theorem AccOf.of {s : Lg} (hs : LgOk s) {xs ys : List En} (hp : xs.Perm (s.A.map toEn)) (h : SortedEn xs ys) : AccOf s ys := by
  have hpp := h.1.trans hp
  refine ⟨hpp, ?_⟩
  have hnd : (s.A.map toEn).Pairwise fun x y => enCmp x y ≠ 0 := by
    rw [List.pairwise_map]
    refine hs.apartA.imp fun {a b} hab e => hab ?_
    rw [enCmp_zero] at e
    exact e
  have hnd2 : ys.Pairwise fun x y => enCmp x y ≠ 0 := (hpp.pairwise_iff (fun {x y} hxy e => hxy (by have := enCmp_swap x y; omega))).2 hnd
  exact (h.2.and hnd2).imp fun {x y} ⟨h1, h2⟩ => by omega
theorem AccOf.mem {s : Lg} {ys : List En} (h : AccOf s ys) {y : En} (hy : y ∈ ys) : ∃ a ∈ s.A, toEn a = y := by
  have := h.perm.mem_iff.1 hy
  rw [List.mem_map] at this
  exact this
theorem AccOf.unique {s : Lg} {ys zs : List En} (h : AccOf s ys) (k : AccOf s zs) : ys = zs :=
  List.Perm.eq_of_pairwise (le := fun x y => enCmp x y < 0) (fun x y _ _ h1 h2 => by have := enCmp_swap x y; omega) h.rise k.rise (h.perm.trans k.perm.symm)

/-- the accounts that were come to -/
def seenA (s : Lg) (todo : ByteArray × ByteArray → Bool) (xs : List En) : Prop := xs.Perm ((s.A.filter fun a => !todo (a.name, a.cur)).map toEn)
theorem filter_pick {α : Type} (p q : α → Bool) (r : α → α → Prop) (a : α) (hpa : p a = false) (hqa : q a = true) : ∀ (l : List α), l.Pairwise r → a ∈ l → (∀ b ∈ l, b ≠ a → q b = p b) → (∀ x, r x a → x ≠ a) → (∀ x, r a x → x ≠ a) → (l.filter q).Perm (a :: l.filter p)
  | [], _, h, _, _, _ => by simp at h
  | x :: t, hp, h, hq, hr1, hr2 => by
    obtain ⟨h1, h2⟩ := List.pairwise_cons.1 hp
    rcases List.mem_cons.1 h with rfl | h
    · have e : t.filter q = t.filter p := List.filter_congr fun b hb => hq b (List.mem_cons_of_mem _ hb) (hr2 b (h1 b hb))
      rw [List.filter_cons, List.filter_cons, hpa, hqa, e]
      simp
    · have hx : q x = p x := hq x List.mem_cons_self (hr1 x (h1 a h))
      have ih := filter_pick p q r a hpa hqa t h2 h (fun b hb => hq b (List.mem_cons_of_mem _ hb)) hr1 hr2
      rw [List.filter_cons, List.filter_cons, hx]
      cases p x
      · simpa using ih
      · simp only [if_true]
        exact (ih.cons x).trans (.swap a x _)
theorem seen_step {s : Lg} (h : LgOk s) {todo : ByteArray × ByteArray → Bool} {a : Ac} {n u : ByteArray} (ha : findA s.A n u = some a) (ht : todo (n, u) = true) {xs : List En} (hx : seenA s todo xs) :
    seenA s (fun y => todo y && !decide (y = (n, u))) (xs ++ [⟨n, u, a.bal⟩]) := by
  obtain ⟨h1, h2, h3⟩ := findA_some ha
  have hne : ∀ x : Ac, ¬ (x.name = a.name ∧ x.cur = a.cur) → x ≠ a := fun x hx e => hx (by rw [e]; exact ⟨rfl, rfl⟩)
  have hf := filter_pick (fun a => !todo (a.name, a.cur)) (fun b => !(todo (b.name, b.cur) && !decide ((b.name, b.cur) = (n, u)))) _ a (by simp only [h2, h3, ht]; rfl) (by simp [h2, h3]) s.A h.apartA h1 (fun b hb hba => by
      have : (b.name, b.cur) ≠ (n, u) := fun e => by
        have h4 := findA_mem h hb
        obtain ⟨e1, e2⟩ := Prod.mk.inj e
        rw [e1, e2, ha] at h4
        exact hba (Option.some.inj h4).symm
      simp [this]) hne (fun x hx => hne x fun e => hx ⟨e.1.symm, e.2.symm⟩)
  have h5 := hf.map toEn
  have h6 : toEn a = ⟨n, u, a.bal⟩ := by unfold toEn; rw [h2, h3]
  refine List.Perm.trans ?_ h5.symm
  rw [List.map_cons, h6]
  exact (List.perm_append_comm (l₁ := xs) (l₂ := [_])).trans (List.Perm.cons _ hx)

def AccountsQ (w : World) (s : Lg) (e : Ending) (w' : World) : Prop := ∃ (A : Option Addr) (c : Nat) (ys : List En), e = .returned (.slice A ys.length c) ∧ AccOf s ys ∧ ListIn enR w' w'.heap.size A ys ∧ ys.length ≤ c ∧ c ≤ maxLen ∧ ys.length ≤ 100000 ∧ Below w.heap.size w w'
set_option maxHeartbeats 8000000 in
set_option maxRecDepth 100000 in
theorem Accounts_any (w : World) (base p ma mh n : Nat) (s : Lg) (v : Value) (h : LedgerAt w base p s ma mh v n) (hn : n ≤ 5000) (hA : s.A.length ≤ 5000) :
    Calls Try.prog 20 #[.pointer (some ⟨p, 0, none⟩)] w (AccountsQ w s) := by
  obtain ⟨ow, hW⟩ := h.main
  have HL := hide h
  have cP := hW.cells 1
  simp only [List.getElem?_toArray, List.getElem?_cons_zero, List.getElem?_cons_succ] at cP
  have hml := h.acc.lt
  have HM := hide h.acc
  have HAL := hide hA
  obtain ⟨i0, hi0, hz0, hz1, hz2⟩ := info_parts info_en
  unfold AccountsQ
  clear h hW hA
  go_enter Try.func20, Try.ntmps20
  go_wp2_with (at_range; refine wpList_going _ rfl _ 72 rfl 68 70 (J := keyKeys) Try.underlying72 ma n rfl (unhide HM) ?_; intro w1 cnt hgo hgr hs1)
  try go_frame
  have hst : seenA s (fun x => (accF s x).isSome) [] := by
    unfold seenA
    have : s.A.filter (fun a => !(accF s (a.name, a.cur)).isSome) = [] := List.filter_eq_nil_iff.2 fun a ha => by
      have h1 := findA_mem (unhide HL).ok ha
      unfold accF
      simp only [h1]
      simp
    rw [this]; exact .refl _
  have hb1 := (Below.refl w.heap.size w).grown hgr (Nat.le_refl _) (fun q hq => by cases hq)
  have HST := hide (And.intro hst (And.intro hgo hb1))
  have hw1 : w1.heap.size = w.heap.size + 1 := hs1
  have HW1 := hide hw1
  clear hst hgo hgr hs1 hb1 hw1
  go_loopw [3, 4, 5] (fun o _ _ wr => ∃ (todo : ByteArray × ByteArray → Bool) (cnt : Nat) (v0 : Value) (xs : List En), Going keyKeys wr ma w.heap.size n (accF s) todo cnt ∧ v0 = o ∧ wr.ownsRow w1.heap.size 44 enR.sz v0 xs.length (xs.flatMap enR.cells) ∧ seenA s todo xs ∧ Below w.heap.size w wr ∧ w1.heap.size ≤ wr.heap.size) (fun _ _ _ wr => wr.rangeLeft ma w.heap.size)
  case atStart =>
    exact ⟨_, _, _, [], (unhide HST).2.1, rfl, World.ownsRow_nil _ _ _ _, (unhide HST).1, (unhide HST).2.2, Nat.le_refl _⟩
  case round =>
    obtain ⟨todo, cnt2, v0, xs, hg, rfl, own, hsn, hb, hws⟩ := hrel
    obtain ⟨wq, rfl⟩ : ∃ wq : World, wq = wr := ⟨_, rfl⟩
    have HB := hide (And.intro own (And.intro hsn (And.intro hb hws)))
    clear own hsn hb hws
    go_wp2_with (at_next; refine wpList_going_next _ rfl _ rfl (fun key kl h => key_inv h) rfl hg ?_ ?_)
    · intro hc0 hl0
      obtain ⟨own, hsn, hb, hws⟩ := unhide HB
      have hp : xs.Perm (s.A.map toEn) := by
        have : s.A.filter (fun a => !todo (a.name, a.cur)) = s.A := List.filter_eq_self.2 fun a ha => by
          have h1 := (unhide HL).ok.name a ha
          have q1 := okName_size h1.1
          have q2 := okCur_size h1.2
          rw [hl0 a.name a.cur ⟨by show a.name.size ≤ maxLen; unfold maxLen; omega, by show a.cur.size ≤ maxLen; unfold maxLen; omega⟩]
          rfl
        unfold seenA at hsn
        rw [this] at hsn
        exact hsn
      have hlen : xs.length ≤ 5000 := by rw [hp.length_eq, List.length_map]; exact unhide HAL
      have HSO := hide (sortEn_any rfl (by omega) own)
      have HP := hide (And.intro hp (And.intro hb hws))
      have HLN := hide hlen
      have hw1 := unhide HW1
      have HW2 := hide (show w.heap.size ≤ w1.heap.size by omega)
      obtain ⟨nx, hnx⟩ : ∃ k, k = xs.length := ⟨_, rfl⟩
      rw [← hnx] at HSO
      have HNX := hide hnx
      clear hc0 hl0 hg own hsn hb hws hp hlen hw1 hnx
      go_wp2_with fail
      (with_reducible refine (unhide HSO).mono ?_); rintro e w3 ⟨rfl, ⟨ys, hys, own3⟩, hb3⟩
      obtain ⟨A3, c3, rfl, h1, h2, h3, h4⟩ := list_of_own own3
      have hacc := AccOf.of (unhide HL).ok (unhide HP).1 hys
      have hfb := (unhide HP).2.1.trans (hb3.mono (unhide HW2))
      have HF := hide (And.intro hacc (And.intro h4 (And.intro h1 (And.intro h2 (And.intro h3 hfb)))))
      clear own3 hys hb3 h1 h2 h3 h4 hacc hfb HSO
      go_wp2_with fail
      go_ret
      obtain ⟨q1, q2, q3, q4, q5, q6⟩ := unhide HF
      subst q5
      exact ⟨A3, c3, ys, rfl, q1, q2, q3, q4, by have := unhide HLN; have := unhide HNX; omega, q6⟩
    · intro yn yc u w2 cnt3 hgood htodo hfx hg2 hlt hgr2 hsz2 hen
      obtain ⟨a, ha, rfl⟩ : ∃ a, findA s.A yn yc = some a ∧ acV s a = u := by
        unfold accF at hfx
        simp only at hfx
        cases hf : findA s.A yn yc with
        | none => rw [hf] at hfx; simp at hfx
        | some a => rw [hf] at hfx; exact ⟨a, rfl, Option.some.inj hfx⟩
      obtain ⟨own, hsn, hb, hws⟩ := unhide HB
      have hst := seen_step (unhide HL).ok ha htodo hsn
      simp only [acV] at hen ⊢
      have ekv : keyKeys.kv (yn, yc) = .agg #[.string yn, .string yc] := rfl
      simp only [ekv] at hen ⊢
      clear ekv hsz2
      have hb2 := hb.grown hgr2 hb.size (fun q hq => by cases hq; exact Nat.le_refl _)
      have hlx : xs.length ≤ 5000 := by
        have h1 : xs.length = ((s.A.filter fun a => !todo (a.name, a.cur)).map toEn).length := hsn.length_eq
        rw [List.length_map] at h1
        have h2 := List.length_filter_le (fun a => !todo (a.name, a.cur)) s.A
        have := unhide HAL
        omega
      have own2 : w2.ownsRow w1.heap.size 44 enR.sz v0 xs.length (xs.flatMap enR.cells) := own.kept hgr2 (by
        cases hv : v0.ownBlock with
        | none => exact .inl rfl
        | some g =>
          right; intro e; injection e with e
          have := (own.lt g hv).1
          have := unhide HW1
          omega)
      obtain ⟨q1, hq1⟩ : ∃ q, q = a.floor := ⟨_, rfl⟩
      obtain ⟨q2, hq2⟩ : ∃ q, q = a.bal := ⟨_, rfl⟩
      obtain ⟨q3, hq3⟩ : ∃ q, q = s.held a := ⟨_, rfl⟩
      rw [← hq1, ← hq2, ← hq3] at hen ⊢
      rw [← hq2] at hst
      have hba := ((Below.refl w2.heap.size w2).alloc (Nat.le_refl _) (.cells #[.string yn, .string yc] 68)).alloc (by simp) (.cells #[.int .i64 q1, .int .i64 q2, .int .i64 q3] 70)
      have ownA := (own2.alloc (.cells #[.string yn, .string yc] 68)).alloc (.cells #[.int .i64 q1, .int .i64 q2, .int .i64 q3] 70)
      have hgA := hg2.kept (grown_below hba none) (by simp) (by simp)
      have hbA := hb2.trans (hba.mono hb2.size)
      have hwsA : w1.heap.size ≤ ((w2.alloc (.cells #[.string yn, .string yc] 68)).alloc (.cells #[.int .i64 q1, .int .i64 q2, .int .i64 q3] 70)).heap.size := by
        have := hgr2.size
        simp
        omega
      have HG1 := hide hg; have HLT := hide hlt
      have HFIN := hide (And.intro hgA (And.intro hbA hst))
      have HO := hide ownA
      clear ha htodo hfx hst hg hg2 hlt hgr2 hb2 hq1 hq2 hq3 hgood own hsn hb hws own2 hba hgA hbA
      have hyl : xs.length ≤ 100000 := by omega
      obtain ⟨W4, hW4⟩ : ∃ W, ((w2.alloc (.cells #[.string yn, .string yc] 68)).alloc (.cells #[.int .i64 q1, .int .i64 q2, .int .i64 q3] 70)) = W := ⟨_, rfl⟩
      have k1 := ((Whole.made w2 68 #[.string yn, .string yc]).alloc (.cells #[.int .i64 q1, .int .i64 q2, .int .i64 q3] 70)).cells
      have k2 := (Whole.made_at (w2.alloc (.cells #[.string yn, .string yc] 68)) 70 #[.int .i64 q1, .int .i64 q2, .int .i64 q3] (w2.heap.size + 1) (by simp)).cells
      rw [hW4] at HFIN HO hwsA k1 k2
      have c1 := k1 0; have c2 := k1 1; have c3 := k2 1
      simp only [List.getElem?_toArray, List.getElem?_cons_zero, List.getElem?_cons_succ] at c1 c2 c3
      have hz4 : w2.heap.size + 1 + 1 = W4.heap.size := by rw [← hW4]; simp
      have HZ4 := hide hz4
      clear k1 k2 hlx hz4
      go_wp2_with (at_builtin; go_must ((refine wpList_push enR rfl (.tmp 16) (.tmp 24) 29 rfl w1.heap.size 44 i0 _ 40 Try.underlying29 hi0 hz0 hz1 hz2 rfl (by omega) rfl (unhide HO) ⟨yn, yc, q2⟩ rfl rfl hyl hwsA ?_; intro v1 w5 own1 hg1; have H5 := hide (And.intro own1 hg1); clear own1 hg1)))
      go_roundw
      case rel =>
        obtain ⟨own1, hg1⟩ := unhide H5
        obtain ⟨f1, f2, f3⟩ := unhide HFIN
        have e0 := unhide HW1
        have hg5 : Going keyKeys w5 ma w.heap.size n (accF s) _ _ := f1.kept hg1 (fun e => by
          have := (unhide HO).lt _ e.symm
          omega) (fun e => by
          have := (unhide HO).lt _ e.symm
          omega)
        exact ⟨_, _, _, _, hg5, rfl, own1, f3, below_grown f2 (unhide HO) (by omega) hg1, Nat.le_trans hwsA hg1.size⟩
      case measure =>
        obtain ⟨own1, hg1⟩ := unhide H5
        obtain ⟨f1, f2, f3⟩ := unhide HFIN
        have e0 := unhide HW1
        have hg5 : Going keyKeys w5 ma w.heap.size n (accF s) _ _ := f1.kept hg1 (fun e => by
          have := (unhide HO).lt _ e.symm
          omega) (fun e => by
          have := (unhide HO).lt _ e.symm
          omega)
        rw [hg5.measure, (unhide HG1).measure]; exact unhide HLT
end Go.Proofs.Ytjihkoleipkgmaa
