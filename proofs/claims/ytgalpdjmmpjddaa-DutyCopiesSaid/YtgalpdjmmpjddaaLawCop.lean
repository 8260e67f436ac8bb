/- Walk: the law DutyCopies. -/
import Derived.Test.YtgalpdjmmpjddaaPutA
import Derived.Test.YtgalpdjmmpjddaaLimP
namespace Go.Proofs.Ytgalpdjmmpjddaa
set_option linter.unusedVariables false
set_option linter.unusedSimpArgs false
open Go.RowKit Go.Maps

/-- a text put among rising ones -/
theorem putGo_done (s : List UInt8) (xs : List (List UInt8)) (h : ∀ x ∈ xs, x ≠ s) : putGo s true xs = xs := by
  induction xs with
  | nil => rfl
  | cons x r ih =>
    have := ih (fun y hy => h y (List.mem_cons_of_mem _ hy))
    rw [putGo, if_neg (h x (List.mem_cons_self))]
    simp [this]
theorem putL_perm (s : List UInt8) (xs : List (List UInt8)) (h : ∀ x ∈ xs, x ≠ s) : (putL xs s).Perm (xs ++ [s]) := by
  unfold putL
  induction xs with
  | nil => exact List.Perm.refl _
  | cons x r ih =>
    have hr := fun y hy => h y (List.mem_cons_of_mem _ hy)
    rw [putGo, if_neg (h x (List.mem_cons_self))]
    cases hd : decide (s ≤ x)
    · simp only [Bool.not_false, Bool.and_false, Bool.false_eq_true, if_false, Bool.or_self, List.nil_append, List.cons_append]
      exact (ih hr).cons x
    · simp only [Bool.not_false, Bool.and_self, if_true, Bool.or_true]
      rw [putGo_done s r hr]
      exact (List.perm_append_comm (l₁ := [s]) (l₂ := x :: r))
theorem putL_sorted (s : List UInt8) (xs : List (List UInt8)) (h : ∀ x ∈ xs, x ≠ s) (hs : xs.Pairwise (fun a b => leB a b = true)) : (putL xs s).Pairwise (fun a b => leB a b = true) := by
  unfold putL
  induction xs with
  | nil => simp [putGo]
  | cons x r ih =>
    have hr := fun y hy => h y (List.mem_cons_of_mem _ hy)
    obtain ⟨h1, h2⟩ := List.pairwise_cons.1 hs
    rw [putGo, if_neg (h x (List.mem_cons_self))]
    cases hd : decide (s ≤ x)
    · simp only [Bool.not_false, Bool.and_false, Bool.false_eq_true, if_false, Bool.or_self, List.nil_append, List.cons_append]
      refine List.pairwise_cons.2 ⟨fun y hy => ?_, ih hr h2⟩
      have hp := (putL_perm s r hr).mem_iff.1 hy
      rcases List.mem_append.1 hp with hp | hp
      · exact h1 y hp
      · simp at hp; subst hp
        have : ¬ y ≤ x := by simpa using hd
        rcases List.le_total x y with h3 | h3
        · simpa [leB] using h3
        · exact absurd h3 this
    · simp only [Bool.not_false, Bool.and_self, if_true, Bool.or_true]
      rw [putGo_done s r hr]
      have hsx : s ≤ x := by simpa using hd
      refine List.pairwise_cons.2 ⟨fun y hy => ?_, List.pairwise_cons.2 ⟨h1, h2⟩⟩
      rcases List.mem_cons.1 hy with rfl | hy
      · simpa [leB] using hsx
      · have := h1 y hy
        simp only [leB, decide_eq_true_eq] at this ⊢
        exact List.le_trans hsx this
theorem fold_put (l acc : List (List UInt8)) (hl : (acc ++ l).Nodup) (ha : acc.Pairwise (fun a b => leB a b = true)) : (l.foldl putL acc).Perm (acc ++ l) ∧ (l.foldl putL acc).Pairwise (fun a b => leB a b = true) := by
  induction l generalizing acc with
  | nil => exact ⟨by simp, ha⟩
  | cons s r ih =>
    have hne : ∀ x ∈ acc, x ≠ s := by
      intro x hx e
      subst e
      have := (List.nodup_append.1 hl).2.2 x hx x (List.mem_cons_self)
      exact this rfl
    have hp := putL_perm s acc hne
    have hq : (putL acc s ++ r).Perm (acc ++ s :: r) := by
      have := hp.append_right r
      simpa using this
    obtain ⟨h1, h2⟩ := ih (putL acc s) (hq.nodup_iff.2 hl) (putL_sorted s acc hne ha)
    exact ⟨h1.trans hq, h2⟩
theorem rdueL_sort {bs : List Bx} (ha : Apart bs) (day : Int) : rdueL bs day = (dueL bs day).mergeSort leB := by
  obtain ⟨h1, h2⟩ := fold_put (dueL bs day) [] (by simpa using due_nodup ha day) List.Pairwise.nil
  have tr : ∀ a b c : List UInt8, leB a b = true → leB b c = true → leB a c = true := fun a b c h1 h2 => by simp only [leB, decide_eq_true_eq] at *; exact List.le_trans h1 h2
  have to : ∀ a b : List UInt8, (leB a b || leB b a) = true := fun a b => by simp only [leB, Bool.or_eq_true, decide_eq_true_eq]; exact List.le_total a b
  refine List.Perm.eq_of_pairwise (le := fun a b => leB a b = true) (fun a b _ _ h1 h2 => ?_) h2 (List.pairwise_mergeSort tr to _) ((h1.trans (by simp)).trans (List.mergeSort_perm _ leB).symm)
  simp only [leB, decide_eq_true_eq] at h1 h2
  exact List.le_antisymm h1 h2

/-- a bond behind what is done to it, and its copy, which stands -/
structure CopI (w wr : World) (lim : Int) (k p m nn p2 m2 n2 N : Nat) (A : Option Addr) (bs bs2 : List Bx) : Prop where
  nk : nn ≤ 60 + k
  bk : bs2.length ≤ 60 + k
  ne : p ≠ m
  mb : w.heap.size ≤ m
  mm : m ≠ m2
  pm : m ≠ p2
  bond : BondAt wr p lim m nn bs2
  inv : Inv lim bs2
  copy : BondAt wr p2 lim m2 n2 bs
  list : ListIn bxR wr wr.heap.size A bs
  below : Below w.heap.size w wr
theorem CopI.after {w wr w' : World} {lim : Int} {k p m nn p2 m2 n2 N : Nat} {A : Option Addr} {bs bs2 : List Bx} (h : CopI w wr lim k p m nn p2 m2 n2 N A bs bs2) (hb : Below wr.heap.size wr w') : CopI w w' lim k p m nn p2 m2 n2 N A bs bs2 :=
  ⟨h.nk, h.bk, h.ne, h.mb, h.mm, h.pm, h.bond.after hb, h.inv, h.copy.after hb, h.list.after hb, h.below.trans (hb.mono h.below.size)⟩
theorem MapAt.grown {P : Program} {k : TypeId} {κ : Type} {J : Keying P k κ} {w w' : World} {b n m : Nat} {f : κ → Option Value} (h : MapAt J w b n f) (hg : w.grownBy w' (some m)) (hne : b ≠ m) : MapAt J w' b n f :=
  h.kept hg (by intro e; injection e with e; exact hne e)
theorem CopI.step {w wr w' : World} {lim : Int} {k p m nn p2 m2 n2 N : Nat} {A : Option Addr} {bs bs2 bs3 : List Bx} (h : CopI w wr lim k p m nn p2 m2 n2 N A bs bs2) (hbo : BondAt w' p lim m (nn + 1) bs3) (hg : wr.grownBy w' (some m)) (hl : bs3.length ≤ bs2.length + 1) (hi : Inv lim bs3) :
    CopI w w' lim (k + 1) p m (nn + 1) p2 m2 n2 N A bs bs3 := by
  have h1 := h.nk; have h2 := h.bk; have h3 := h.mb
  exact ⟨by omega, by omega, h.ne, h.mb, h.mm, h.pm, hbo, hi, ⟨h.copy.1.grown hg (by intro e; injection e with e; exact h.pm e.symm), h.copy.2.grown hg (Ne.symm h.mm)⟩, h.list.grown h.bond.2 hg, h.below.grown hg h.below.size (fun j hj => by cases hj; exact h3)⟩

set_option maxHeartbeats 8000000 in
set_option maxRecDepth 100000 in
theorem DutyCopies_any (limit : Int) (xs ys : List Oq) (OA MA : Option Addr) (n c q d : Nat) (w : World) (hn : n = xs.length) (hm : n ≤ maxLen) (hx : ListIn oqR w w.heap.size OA xs) (hs : ∀ x ∈ xs, x.box.size ≤ maxLen ∧ x.to_.size ≤ maxLen)
    (hq : q = ys.length) (hqm : q ≤ maxLen) (hy : ListIn oqR w w.heap.size MA ys) (ht : ∀ x ∈ ys, x.box.size ≤ maxLen ∧ x.to_.size ≤ maxLen) :
    Calls Try.prog 7 #[.int .i64 limit, .slice OA n c, .slice MA q d] w fun e w' => e = .returned (.bool true) ∧ Below w.heap.size w w' := by
  have HAW := hide awake_any
  unfold AwakeQ at HAW
  have H1 := hide (long_any xs OA n c w hn hm hx hs)
  have H2 := hide (fun W (hb : Below w.heap.size w W) => long_any ys MA q d W hq hqm (hy.after hb) ht)
  obtain ⟨lg, hlg⟩ : ∃ b, b = mLong xs := ⟨_, rfl⟩
  obtain ⟨lh, hlh⟩ : ∃ b, b = mLong ys := ⟨_, rfl⟩
  rw [← hlg] at H1
  rw [← hlh] at H2
  have HN := hide hn; have HX := hide hx; have HS := hide hs; have HLG := hide hlg; have HLH := hide hlh
  have HQ := hide hq; have HY := hide hy; have HT := hide ht
  clear hn hx hs hlg hlh hq hy ht
  go_enter Try.func7, Try.ntmps7
  go_wp2_with fail
  (with_reducible refine (unhide H1).mono ?_); rintro e w1 ⟨rfl, hb⟩
  have HB1 := hide hb
  clear hb H1
  cases lg
  case true =>
    go_wp2_with fail
    (with_reducible refine (unhide HAW _).mono ?_); rintro e w2 ⟨rfl, hb⟩
    have HB2 := hide ((unhide HB1).trans (hb.mono (unhide HB1).size))
    clear hb
    go_wp2_with fail
    go_ret
    exact ⟨rfl, unhide HB2⟩
  case false =>
    have HW2 := hide (unhide H2 _ (unhide HB1))
    clear H2
    go_wp2_with fail
    (with_reducible refine (unhide HW2).mono ?_); rintro e w1' ⟨rfl, hb⟩
    have HB1' := hide ((unhide HB1).trans (hb.mono (unhide HB1).size))
    clear hb HW2
    cases lh
    case true =>
      go_wp2_with fail
      (with_reducible refine (unhide HAW _).mono ?_); rintro e w2 ⟨rfl, hb⟩
      have HB2 := hide ((unhide HB1').trans (hb.mono (unhide HB1').size))
      clear hb
      go_wp2_with fail
      go_ret
      exact ⟨rfl, unhide HB2⟩
    case false =>
      go_wp2_with fail
      (with_reducible refine (play_any limit xs OA n c _ (unhide HN) (by rw [unhide HN]; exact mLong_len (unhide HLG).symm) ((unhide HX).after (unhide HB1')) (unhide HS)).mono ?_); rintro e w2 ⟨p, m, nn, N, cN, A, bs, rfl, hI⟩
      have hlb := limI_bd limit
      generalize limI limit = lim at *
      have hbs := (unhide HB1').size
      have HCP := hide (Copy_any p m nn lim bs w2 hI.bond (by have := hI.nk; omega) hlb.1 hlb.2)
      have HI := hide hI; have HLB := hide hlb
      clear hI hlb
      go_wp2_with fail
      (with_reducible refine (unhide HCP).mono ?_); rintro e w3 ⟨p2, m2, n2, rfl, hn2, hp2, hm2, hne2, hB2, hb2⟩
      have hI := unhide HI
      have h3 : CopI w w3 lim 0 p m nn p2 m2 n2 N A bs bs := by
        have := hI.bond.2.lt
        have := hI.len
        exact ⟨by have := hI.nk; omega, by have := hI.lenk; omega, hI.ne, by have := hI.mb; omega, by omega, by omega, hI.bond.after hb2, hI.inv, hB2, hI.list.after hb2, (unhide HB1').trans ((hI.below.trans (hb2.mono hI.below.size)).mono (unhide HB1').size)⟩
      have hN : N = bs.length := hI.len
      have hNk := hI.lenk
      have hn2k : n2 ≤ 60 := by have := hI.nk; omega
      have H3 := hide h3; have HNN := hide hN; have HOK := hide hI.inv
      have hq60 : q ≤ 60 := by rw [unhide HQ]; exact mLong_len (unhide HLH).symm
      clear hI h3 hN hB2 hb2 hp2 hm2 hne2 HCP HI hn2
      go_wp2_with fail
      go_loopw [33] (fun i wr => ∃ (k k2 : Nat) (bs2 : List Bx), k ≤ q ∧ i = .int .i64 k ∧ CopI w wr lim k p m k2 p2 m2 n2 N A bs bs2) (fun i _ => q - (intOf i).toNat)
      case atStart => exact ⟨0, _, _, by omega, rfl, unhide H3⟩
      case round =>
        obtain ⟨k, k2, bs2, hk, rfl, hI⟩ := hrel
        obtain ⟨wo, rfl⟩ : ∃ wo : World, wo = wr := ⟨_, rfl⟩
        by_cases hlt : k < q
        · obtain ⟨x, hx⟩ : ∃ x, ys[k]? = some x := ⟨ys[k]'(by rw [← unhide HQ]; exact hlt), List.getElem?_eq_getElem _⟩
          obtain ⟨b, off, rfl, hbb, c0, c1, c2, c3, c4⟩ := oq_at ((unhide HY).after hI.below) hx
          obtain ⟨hz1, hz2⟩ := unhide HT x (List.mem_of_getElem? hx)
          have hal := (Below.refl wo.heap.size wo).alloc (Nat.le_refl _) (.cells #[.int .i64 x.kind, .int .i64 x.day, .string x.box, .string x.to_, .int .i64 x.n] 57)
          have hI1 := hI.after hal
          have hnk := hI1.nk; have hbk := hI1.bk
          have HE := hide (EnterQ_any p m k2 lim x.n x.day x.box bs2 _ hz1 hI1.bond (by omega) hI1.ne hI1.inv.ok)
          have HX2 := hide (Export_any p m k2 lim x.box bs2 _ hz1 hI1.bond (by omega) hI1.ne)
          have HI1 := hide hI1
          clear hI hal hx hI1
          by_cases e1 : x.kind = 1
          · have q1a : (x.kind == 1) = true := by simpa using e1
            have q1b : decide (x.kind = 1) = true := by simpa using e1
            clear e1
            go_wp2_with fail
            (with_reducible refine (unhide HE).mono ?_); rintro e w4 ⟨rfl, hBO, hg⟩
            have HI4 := hide ((unhide HI1).step hBO hg (entered_length _ _ _ _ _) ((unhide HI1).inv.entered (by omega) hz1))
            clear hBO hg c0 c1 c2 c3 c4
            go_wp2_with fail
            go_roundw
            case rel => exact ⟨k + 1, _, _, by omega, by go_num, unhide HI4⟩
            case measure => simp [intOf]; omega
          · have q1a : (x.kind == 1) = false := by simpa using e1
            have q1b : decide (x.kind = 1) = false := by simpa using e1
            clear e1
            go_wp2_with fail
            (with_reducible refine (unhide HX2).mono ?_); rintro e w4 ⟨rfl, hBO, hg⟩
            have HI4 := hide ((unhide HI1).step hBO hg (by rw [left_length]; omega) ((unhide HI1).inv.left _ _ (by omega)))
            clear hBO hg c0 c1 c2 c3 c4
            go_wp2_with fail
            go_roundw
            case rel => exact ⟨k + 1, _, _, by omega, by go_num, unhide HI4⟩
            case measure => simp [intOf]; omega
        · have HU := hide (Used_any p2 m2 n2 lim bs wo hI.copy (unhide HOK).ok)
          have HB := hide hI.below
          have HRU := hide (fun W (hb : Below wo.heap.size wo W) => RUsed_any bs A N cN W (unhide HNN) (by omega) (hI.list.after hb) (unhide HOK).ok.duty)
          have HD := hide (fun W (hb : Below wo.heap.size wo W) => Due_any p2 m2 n2 lim 1048576 bs W (hI.copy.after hb) (unhide HOK).ok (by omega))
          have HRD := hide (fun W (hb : Below wo.heap.size wo W) => RDue_any bs A N cN 1048576 W (unhide HNN) (by omega) (hI.list.after hb))
          have hln : ((dueL bs 1048576).mergeSort leB).length ≤ 4096 := by
            rw [List.length_mergeSort]
            have h1 := List.length_filter_le (dueB 1048576) bs
            have h2 := unhide HNN
            unfold dueL
            rw [List.length_map]; omega
          rw [rdueL_sort (unhide HOK).ok.apart] at HRD
          generalize (dueL bs 1048576).mergeSort leB = L at *
          generalize used bs = u at *
          clear hI
          go_wp2_with fail
          (with_reducible refine (unhide HU).mono ?_); rintro e w4 ⟨rfl, hb4⟩
          have H4 := hide (unhide HRU _ hb4)
          have HB4 := hide hb4
          clear hb4 HU HRU
          go_wp2_with fail
          (with_reducible refine (unhide H4).mono ?_); rintro e w5 ⟨rfl, rfl⟩
          have H5 := hide (unhide HD _ (unhide HB4))
          clear H4 HD
          go_wp2_with fail
          (with_reducible refine (unhide H5).mono ?_); rintro e w6 ⟨A6, c6, rfl, hL6, hb6⟩
          have HB6 := hide ((unhide HB4).trans (hb6.mono (unhide HB4).size))
          have H6 := hide (unhide HRD _ (unhide HB6))
          have HL6 := hide hL6
          clear hL6 hb6 H5 HRD
          go_wp2_with fail
          (with_reducible refine (unhide H6).mono ?_); rintro e w7 ⟨A7, c7, rfl, hL7, hb7⟩
          have HB7 := hide ((unhide HB6).trans (hb7.mono (unhide HB6).size))
          have HT7 := hide (Texts_same L A6 A7 L.length c6 c7 w7 rfl hln ((unhide HL6).after hb7) hL7)
          clear hL7 hb7 H6 HL6 hln
          generalize L.length = ln at *
          go_wp2_with fail
          (with_reducible refine (unhide HT7).mono ?_); rintro e w8 ⟨rfl, hb8⟩
          have HB8 := hide ((unhide HB).trans (((unhide HB7).trans (hb8.mono (unhide HB7).size)).mono (unhide HB).size))
          clear hb8 HT7
          go_wp2_with fail
          (with_reducible refine (unhide HAW _).mono ?_); rintro e w9 ⟨rfl, hb⟩
          have HB9 := hide ((unhide HB8).trans (hb.mono (unhide HB8).size))
          clear hb
          go_wp2_with fail
          go_ret
          exact ⟨rfl, unhide HB9⟩
end Go.Proofs.Ytgalpdjmmpjddaa
