/- The law LedgerRefuses, walked. -/
import Derived.Test.YtjihkoleipkgmaaLgAl
import Derived.Test.YtjihkoleipkgmaaLgCo
import Derived.Test.YtjihkoleipkgmaaLgX
namespace Go.Proofs.Ytjihkoleipkgmaa
set_option linter.unusedVariables false
set_option linter.unusedSimpArgs false
open Go.RowKit Go.Maps

/-- few accounts, short posts -/
structure Few (s : Lg) (k : Nat) : Prop where
  len : s.A.length ≤ k
  ents : ∀ po ∈ s.P, po.ents.length ≤ 70
theorem Few.mono {s : Lg} {k m : Nat} (h : Few s k) (hk : k ≤ m) : Few s m := ⟨Nat.le_trans h.len hk, h.ents⟩
theorem Few.book {s : Lg} {k : Nat} (h : Few s k) (t : ByteArray) (x : List En) (hx : x.length ≤ 70) : Few (bookS s t x) k := by
  refine ⟨?_, fun po hpo => ?_⟩
  · show (addA x s.A).length ≤ k
    unfold addA
    rw [List.length_map]; exact h.len
  · rcases List.mem_append.1 (show po ∈ s.P ++ [_] from hpo) with h1 | h1
    · exact h.ents po h1
    · simp at h1; subst h1; exact hx
theorem Few.act {s : Lg} {k : Nat} (h : Few s k) (x : Aa) (hx : x.ents.length ≤ 70) : Few (actS s x) (k + 1) := by
  have h' := h.mono (Nat.le_succ k)
  unfold actS
  split
  · split
    · refine ⟨?_, h.ents⟩
      show (s.A ++ [_]).length ≤ k + 1
      have := h.len
      simp
      omega
    · exact h'
  · split
    · split
      · exact h'.book _ _ hx
      · exact h'
    · split
      · split
        · exact ⟨h'.len, h'.ents⟩
        · exact h'
      · split
        · split
          · refine Few.book (s := lessS s (hoOf s x.a) x.n) ⟨h'.len, h'.ents⟩ _ _ ?_
            unfold takeX; simp
          · exact h'
        · split
          · exact ⟨h'.len, h'.ents⟩
          · exact h'
theorem few_fold {xs : List Aa} (hx : ∀ x ∈ xs, x.ents.length ≤ 70) {s : Lg} {k : Nat} (h : Few s k) : Few (xs.foldl actS s) (k + xs.length) := by
  induction xs generalizing s k with
  | nil => exact h
  | cons x t ih =>
    have h2 := ih (fun y hy => hx y (List.mem_cons_of_mem _ hy)) (h.act x (hx x List.mem_cons_self))
    exact h2.mono (by simp; omega)
theorem few_run {xs : List Aa} (hx : ∀ x ∈ xs, x.ents.length ≤ 70) : Few (runS xs) xs.length := by
  have := few_fold hx (s := ⟨[], [], []⟩) (k := 0) ⟨Nat.le_refl _, fun po h => by simp at h⟩
  exact this.mono (by omega)
/-- an error changes nothing -/
theorem act_bad {s : Lg} {x : Aa} (h : actE s x ≠ 0) : actS s x = s := by
  unfold actE at h
  unfold actS
  split
  · rename_i h1; rw [if_pos h1] at h; rw [if_neg h]
  · rename_i h1
    rw [if_neg h1] at h
    split
    · rename_i h2; rw [if_pos h2] at h; rw [if_neg h]
    · rename_i h2
      rw [if_neg h2] at h
      split
      · rename_i h3; rw [if_pos h3] at h; rw [if_neg h]
      · rename_i h3
        rw [if_neg h3] at h
        split
        · rename_i h4; rw [if_pos h4] at h; rw [if_neg h]
        · rename_i h4
          rw [if_neg h4] at h
          unfold letE at h
          cases hf : findH s.H x.a with
          | none => rfl
          | some g => rw [hf] at h; simp at h

/-- a turn of what lies below leaves a ledger as it stands -/
theorem LedgerAt.far {w w' : World} {base p ma mh n : Nat} {s : Lg} {v : Value} {S : Nat → Prop} (h : LedgerAt w base p s ma mh v n) (ht : Turn S w w') (hS : ∀ k, S k → k < base) : LedgerAt w' base p s ma mh v n where
  ok := h.ok
  main := by obtain ⟨ow, k⟩ := h.main; exact ⟨ow, k.turn ht fun e => by have := hS _ e; have := h.low.1; omega⟩
  acc := h.acc.turn ht fun e => by have := hS _ e; have := h.low.2.1; omega
  hol := h.hol.turn ht fun e => by have := hS _ e; have := h.low.2.2; omega
  np := h.np
  row := by
    obtain ⟨vs, h1, h2, h3⟩ := h.row
    refine ⟨vs, h1, own_turn h2 ht (fun g hg e => by have := hS _ e; have := (h.rowlt g hg).1; omega), fun i po hp => ?_⟩
    obtain ⟨A, c, e, hl, hn⟩ := h3 i po hp
    exact ⟨A, c, e, list_turn hl ht (fun b off e hb => by have := hS _ hb; have := (hn b off e).1.1; omega), fun b off e => ⟨⟨(hn b off e).1.1, Nat.lt_of_lt_of_le (hn b off e).1.2 ht.size⟩, (hn b off e).2⟩⟩
  dist := h.dist
  low := h.low
set_option maxHeartbeats 8000000 in
set_option maxRecDepth 100000 in
theorem LedgerRefuses_any (xs : List Aa) (A : Option Addr) (nn c : Nat) (x : Aa) (w : World) (hn : nn = xs.length) (hc : nn ≤ maxLen) (hl : ListIn aaR w w.heap.size A xs) (hs : ∀ x ∈ xs, x.Came w) (hx : x.Came w) :
    Calls Try.prog 6 #[.slice A nn c, .agg #[.int .u8 (x.kind : Int), .string x.a, .string x.b, .string x.c, .int .i64 x.n, .slice x.A x.ents.length x.cap]] w fun e w' => e = .returned (.bool true) ∧ Below w.heap.size w w' := by
  have HN := hide hn; have HX := hide hl; have HS := hide hs; have HC := hide hc; have HXC := hide hx
  obtain ⟨fb, hfb⟩ : ∃ b, b = fewB xs := ⟨_, rfl⟩
  have HFB := hide hfb
  obtain ⟨fb2, hfb2⟩ : ∃ b, b = fewB [x] := ⟨_, rfl⟩
  have HFB2 := hide hfb2
  have k0 := Whole.made w 31 #[.int .u8 (x.kind : Int), .string x.a, .string x.b, .string x.c, .int .i64 x.n, .slice x.A x.ents.length x.cap]
  have b0 := (Below.refl w.heap.size w).alloc (Nat.le_refl _) (.cells #[.int .u8 (x.kind : Int), .string x.a, .string x.b, .string x.c, .int .i64 x.n, .slice x.A x.ents.length x.cap] 31)
  generalize hW0 : w.alloc (.cells #[.int .u8 (x.kind : Int), .string x.a, .string x.b, .string x.c, .int .i64 x.n, .slice x.A x.ents.length x.cap] 31) = W0 at *
  have K0 := hide k0; have B0 := hide b0
  clear hn hl hs hc hfb hfb2 hx k0 b0
  go_enter Try.func6, Try.ntmps6
  go_wp2_with fail
  (with_reducible refine (awake_any _).mono ?_); rintro e w1 ⟨rfl, hb⟩
  have B1 := hide ((unhide B0).trans (hb.mono (unhide B0).size))
  have K1 := hide ((unhide K0).after hb)
  have HF := hide (few_any w1 xs A nn c (unhide HN) (unhide HC) ((unhide HX).after (unhide B1)) (fun x hx => ⟨(unhide HS x hx).a, (unhide HS x hx).len⟩))
  rw [← unhide HFB] at HF
  clear hb hW0
  go_wp2_with fail
  (with_reducible refine (unhide HF).mono ?_); rintro e w1' ⟨rfl, rfl⟩
  clear HF
  cases fb with
  | false =>
    go_wp2_with fail
    (with_reducible refine (awake_any w1).mono ?_); rintro e w2 ⟨rfl, hb⟩
    have B2 := hide ((unhide B1).trans (hb.mono (unhide B1).size))
    clear hb
    go_wp2_with fail
    go_ret
    exact ⟨rfl, unhide B2⟩
  | true =>
    have cA := (unhide K1).cells
    have hl1 : ListIn aaR (w1.alloc (.cells #[.int .u8 (x.kind : Int), .string x.a, .string x.b, .string x.c, .int .i64 x.n, .slice x.A x.ents.length x.cap] 31)) (w1.alloc (.cells #[.int .u8 (x.kind : Int), .string x.a, .string x.b, .string x.c, .int .i64 x.n, .slice x.A x.ents.length x.cap] 31)).heap.size (some ⟨w1.heap.size, 0, none⟩) [x] := list_made aaR w1 w1.heap.size rfl 31 [x]
    have hb1 := (Below.refl w1.heap.size w1).alloc (Nat.le_refl _) (.cells #[.int .u8 (x.kind : Int), .string x.a, .string x.b, .string x.c, .int .i64 x.n, .slice x.A x.ents.length x.cap] 31)
    have B2 := hide ((unhide B1).trans (hb1.mono (unhide B1).size))
    have K2 := hide ((unhide K1).after hb1)
    have HF2 := hide (few_any _ [x] (some ⟨w1.heap.size, 0, none⟩) 1 1 rfl (by unfold maxLen; omega) hl1 (fun y hy => by
      obtain rfl : y = x := by simpa using hy
      exact ⟨(unhide HXC).a, (unhide HXC).len⟩))
    rw [← unhide HFB2] at HF2
    clear hl1 hb1
    go_wp2_with fail
    (with_reducible refine (unhide HF2).mono ?_); rintro e w1' ⟨rfl, hw⟩
    subst hw
    clear HF2 cA
    generalize (w1.alloc (.cells #[.int .u8 (x.kind : Int), .string x.a, .string x.b, .string x.c, .int .i64 x.n, .slice x.A x.ents.length x.cap] 31)) = w2 at *
    cases fb2 with
    | false =>
      go_wp2_with fail
      (with_reducible refine (awake_any w2).mono ?_); rintro e w3 ⟨rfl, hb⟩
      have B3 := hide ((unhide B2).trans (hb.mono (unhide B2).size))
      clear hb
      go_wp2_with fail
      go_ret
      exact ⟨rfl, unhide B3⟩
    | true =>
      obtain ⟨h40, hin⟩ := few_in (unhide HS) (unhide HFB).symm
      rw [← unhide HN] at h40
      obtain ⟨-, hxin⟩ := few_in (w := w) (xs := [x]) (fun y hy => by
        obtain rfl : y = x := by simpa using hy
        exact unhide HXC) (unhide HFB2).symm
      have hxin := hxin x (by simp)
      have HP := hide (played_any w2 xs A nn c (unhide HN) (by omega) ((unhide HX).after (unhide B2)) (fun x hx => (hin x hx).after (unhide B2)))
      have hfew := few_run (xs := xs) (fun y hy => (hin y hy).good.len)
      rw [← unhide HN] at hfew
      obtain ⟨s, hsr⟩ : ∃ s, s = runS xs := ⟨_, rfl⟩
      rw [← hsr] at HP hfew
      have HXI := hide hxin
      have HFW := hide hfew
      clear hin hsr hxin hfew
      go_wp2_with fail
      (with_reducible refine (unhide HP).mono ?_); rintro e w3 ⟨v, rfl, hL, hb⟩
      have H3 := hide (And.intro hL ((unhide B2).trans (hb.mono (unhide B2).size)))
      have K3 := hide ((unhide K2).after hb)
      have HCP := hide (Copy_any w3 _ _ _ _ _ _ _ hL (by omega) (fun po hpo => by have := (unhide HFW).ents po hpo; omega))
      have hw2 := (unhide B2).size
      clear hL hb HP
      go_wp2_with fail
      (with_reducible refine (unhide HCP).mono ?_); rintro e w4 ⟨p2, ma2, mh2, v2, rfl, hL2, hb⟩
      have hL1 := (unhide H3).1.after hb
      have hin4 := (unhide HXI).after ((unhide H3).2.trans (hb.mono (unhide H3).2.size))
      have HDO := hide (do_any w4 _ _ _ _ _ _ v x hL1 (by omega) hin4.good hin4.list (fun hne b off e hf => by
        have h1 := (unhide HXI).far hne b off e
        have h2 := (hL1.lt b hf).1
        omega))
      have H4 := hide (And.intro hL2 (And.intro hL1 ((unhide H3).2.trans (hb.mono (unhide H3).2.size))))
      have cA := ((unhide K3).after hb).cells
      clear hL2 hb HCP hin4 hL1
      obtain ⟨er, her⟩ : ∃ e, e = actE s x := ⟨_, rfl⟩
      rw [← her] at HDO
      have HER := hide her
      clear her
      go_wp2_with fail
      (with_reducible refine (unhide HDO).mono ?_); rintro e w5 ⟨rfl, hq⟩
      have HQ := hide hq
      clear hq HDO cA
      have hB5 : Below w.heap.size w w5 := by
        obtain ⟨v', h1, h2, h3⟩ := unhide HQ
        exact (unhide H4).2.2.trans (h2.below (fun k hk => by have := ((unhide H4).2.1.lt k hk).1; omega) (unhide H4).2.2.size)
      have B5 := hide hB5
      clear hB5
      by_cases h0 : er = 0
      · subst h0
        go_wp2_with fail
        go_ret
        exact ⟨rfl, unhide B5⟩
      · have d0 : (er == 0) = false := by simpa using h0
        have hbad := act_bad (s := s) (x := x) (by rw [← unhide HER]; exact h0)
        have HAL : Hid (Calls Try.prog 23 #[.pointer (some ⟨w2.heap.size + 2, 0, none⟩), .pointer (some ⟨p2, 0, none⟩)] w5 fun e w' => e = .returned (.bool true) ∧ Below w5.heap.size w5 w') := by
          obtain ⟨v', h1, h2, h3⟩ := unhide HQ
          rw [hbad] at h1
          have hf := (unhide H4).1.far h2 (fun k hk => ((unhide H3).1.lt k hk).2)
          exact hide (alike_any w5 _ _ _ _ _ _ _ _ _ _ s v' v2 h1 hf (by omega) (by omega) (by have := (unhide HFW).len; omega) (fun po hpo => by have := (unhide HFW).ents po hpo; omega))
        clear h0 hbad
        go_wp2_with fail
        (with_reducible refine (unhide HAL).mono ?_); rintro e w6 ⟨rfl, hb⟩
        have B6 := hide ((unhide B5).trans (hb.mono (unhide B5).size))
        clear hb HAL
        go_wp2_with fail
        go_ret
        exact ⟨rfl, unhide B6⟩
end Go.Proofs.Ytjihkoleipkgmaa
