/- Walks: a new ledger; an act. -/
import Derived.Test.YtjihkoleipkgmaaLgR
namespace Go.Proofs.Ytjihkoleipkgmaa
set_option linter.unusedVariables false
set_option linter.unusedSimpArgs false
open Go.RowKit Go.Maps

/-- an act -/
structure Aa where
  kind : Nat
  a : ByteArray
  b : ByteArray
  c : ByteArray
  n : Int
  ents : List En
  A : Option Addr
  cap : Nat
def aaR : Rowing Aa where
  sz := 6
  cells x := [.int .u8 (x.kind : Int), .string x.a, .string x.b, .string x.c, .int .i64 x.n, .slice x.A x.ents.length x.cap]
  pos := by omega
  len _ := rfl
  one x u hu := by
    simp at hu
    rcases hu with rfl | rfl | rfl | rfl | rfl | rfl <;> rfl
def actE (s : Lg) (x : Aa) : Int := if x.kind % 5 = 0 then openE s x.a x.c x.n else if x.kind % 5 = 1 then postE s x.a x.ents else if x.kind % 5 = 2 then holdE s x.a x.b x.c x.n else if x.kind % 5 = 3 then takeE s x.a x.b x.n else letE s x.a
def actN (s : Lg) (x : Aa) : Int := if x.kind % 5 = 1 then postN s x.a x.ents else 0
def actS (s : Lg) (x : Aa) : Lg := if x.kind % 5 = 0 then (if openE s x.a x.c x.n = 0 then openS s x.a x.c x.n else s) else if x.kind % 5 = 1 then (if postE s x.a x.ents = 0 then bookS s x.a x.ents else s)
  else if x.kind % 5 = 2 then (if holdE s x.a x.b x.c x.n = 0 then holdS s x.a x.b x.c x.n else s) else if x.kind % 5 = 3 then (if takeE s x.a x.b x.n = 0 then takeS s (hoOf s x.a) x.b x.n (takeT x.a) else s)
  else match findH s.H x.a with
    | some g => letS s g
    | none => s
def ActQ (w : World) (base p ma mh n : Nat) (v : Value) (s' : Lg) (w' : World) : Prop := ∃ v', LedgerAt w' base p s' ma mh v' (n + 2) ∧ Turn (foot p ma mh v) w w' ∧ (v'.ownBlock = v.ownBlock ∨ ∃ g, v'.ownBlock = some g ∧ w.heap.size ≤ g)
structure Aa.Good (x : Aa) : Prop where
  kind : x.kind < 256
  a : x.a.size ≤ 60
  b : x.b.size ≤ maxLen
  c : x.c.size ≤ maxLen
  n : -9223372036854775808 ≤ x.n ∧ x.n ≤ 9223372036854775807
  len : x.ents.length ≤ 70
  ents : ∀ e ∈ x.ents, e.acct.size ≤ maxLen ∧ e.cur.size ≤ maxLen
theorem ok_holds {s : Lg} (h : LgOk s) : ∀ g ∈ s.H, g.acct.size ≤ maxLen ∧ g.cur.size ≤ maxLen := fun g hg => by
  obtain ⟨_, _, _, a, ha⟩ := h.hold g hg
  obtain ⟨h1, h2, h3⟩ := findA_some ha
  have h4 := h.name a h1
  rw [← h2, ← h3]
  have q1 := okName_size h4.1
  have q2 := okCur_size h4.2
  unfold maxLen
  omega

def NewQ (w : World) (ow : ByteArray) (e : Ending) (w' : World) : Prop := e = .returned (.pointer (some ⟨w.heap.size + 2, 0, none⟩)) ∧ LedgerAt w' w.heap.size (w.heap.size + 2) ⟨[], [], []⟩ w.heap.size (w.heap.size + 1) (.slice none 0 0) 0 ∧ Below w.heap.size w w'
theorem empty_ok : LgOk ⟨[], [], []⟩ := ⟨.nil, .nil, by simp, by simp, by simp⟩
theorem New_any (ow : ByteArray) (w : World) : Calls Try.prog 28 #[.string ow] w (NewQ w ow) := by
  have hmm := @run_makeMap Try.prog
  unfold NewQ
  go_enter Try.func28, Try.ntmps28
  go_wp2_with fail
  go_ret
  refine ⟨rfl, ⟨empty_ok, ⟨ow, Whole.made_at _ _ _ _ (by simp)⟩, ?_, ?_, Nat.le_refl _, ⟨[], rfl, ?_, fun i po hp => by simp at hp⟩, ⟨by omega, by omega, by omega, fun g hg => by simp [Value.ownBlock] at hg⟩, by omega, by omega, by omega⟩, ?_⟩
  · exact (((MapAt.made keyKeys w).alloc _).alloc _).congr fun y _ => by unfold accF findA; rfl
  · have hm := MapAt.made txtKeys (w.alloc (.map #[] 0))
    rw [show (w.alloc (.map #[] 0)).heap.size = w.heap.size + 1 by simp] at hm
    exact (hm.alloc _).congr fun y _ => (by rfl : _ = holdF ⟨[], [], []⟩ y)
  · exact World.ownsRow_nil _ _ _ _
  · exact (((Below.refl w.heap.size w).alloc (Nat.le_refl _) _).alloc (by simp) _).alloc (by simp; omega) _
theorem act_0 (s : Lg) (x : Aa) (h : x.kind % 5 = 0) : actE s x = openE s x.a x.c x.n ∧ actN s x = 0 ∧ actS s x = (if openE s x.a x.c x.n = 0 then openS s x.a x.c x.n else s) := by
  unfold actE actN actS; simp [h]
theorem act_1 (s : Lg) (x : Aa) (h : x.kind % 5 = 1) : actE s x = postE s x.a x.ents ∧ actN s x = postN s x.a x.ents ∧ actS s x = (if postE s x.a x.ents = 0 then bookS s x.a x.ents else s) := by
  unfold actE actN actS; simp [h]
theorem act_2 (s : Lg) (x : Aa) (h : x.kind % 5 = 2) : actE s x = holdE s x.a x.b x.c x.n ∧ actN s x = 0 ∧ actS s x = (if holdE s x.a x.b x.c x.n = 0 then holdS s x.a x.b x.c x.n else s) := by
  unfold actE actN actS; simp [h]
theorem act_3 (s : Lg) (x : Aa) (h : x.kind % 5 = 3) : actE s x = takeE s x.a x.b x.n ∧ actN s x = 0 ∧ actS s x = (if takeE s x.a x.b x.n = 0 then takeS s (hoOf s x.a) x.b x.n (takeT x.a) else s) := by
  unfold actE actN actS; simp [h]
theorem act_4 (s : Lg) (x : Aa) (h : x.kind % 5 = 4) : actE s x = letE s x.a ∧ actN s x = 0 ∧ actS s x = (match findH s.H x.a with | some g => letS s g | none => s) := by
  unfold actE actN actS; simp [h]
theorem ActQ.of2 {w W w' : World} {base p ma mh n : Nat} {v : Value} {s' : Lg} (hb : Below w.heap.size w W) (h : LedgerAt w' base p s' ma mh v (n + 1) ∧ Turn (foot p ma mh v) W w') : ActQ w base p ma mh n v s' w' :=
  ⟨v, h.1.mono (by omega), (Turn.of_below hb).trans h.2, .inl rfl⟩
theorem ActQ.of3 {w W w' : World} {base p ma mh n : Nat} {v : Value} {s' : Lg} (hb : Below w.heap.size w W) (h : ∃ v', LedgerAt w' base p s' ma mh v' (n + 1) ∧ Turn (foot p ma mh v) W w' ∧ (v'.ownBlock = v.ownBlock ∨ ∃ g, v'.ownBlock = some g ∧ W.heap.size ≤ g)) : ActQ w base p ma mh n v s' w' := by
  obtain ⟨v', h1, h2, h3⟩ := h
  exact ⟨v', h1.mono (by omega), (Turn.of_below hb).trans h2, h3.imp id fun ⟨g, e, hg⟩ => ⟨g, e, Nat.le_trans hb.size hg⟩⟩
theorem ActQ.of4 {w W w' : World} {base p ma mh n : Nat} {v : Value} {s' : Lg} (hb : Below w.heap.size w W) (h : ∃ v', LedgerAt w' base p s' ma mh v' (n + 2) ∧ Turn (foot p ma mh v) W w' ∧ (v'.ownBlock = v.ownBlock ∨ ∃ g, v'.ownBlock = some g ∧ W.heap.size ≤ g)) : ActQ w base p ma mh n v s' w' := by
  obtain ⟨v', h1, h2, h3⟩ := h
  exact ⟨v', h1, (Turn.of_below hb).trans h2, h3.imp id fun ⟨g, e, hg⟩ => ⟨g, e, Nat.le_trans hb.size hg⟩⟩
set_option maxHeartbeats 8000000 in
set_option maxRecDepth 100000 in
theorem do_any (w : World) (base p ma mh n : Nat) (s : Lg) (v : Value) (x : Aa) (h : LedgerAt w base p s ma mh v n) (hn : n ≤ 3900) (hx : x.Good) (hl : ListIn enR w w.heap.size x.A x.ents) (hfA : x.ents ≠ [] → ∀ b off, x.A = some ⟨b, off, none⟩ → ¬ foot p ma mh v b) :
    Calls Try.prog 13 #[.pointer (some ⟨p, 0, none⟩), .agg #[.int .u8 (x.kind : Int), .string x.a, .string x.b, .string x.c, .int .i64 x.n, .slice x.A x.ents.length x.cap]] w fun e w' => e = .returned (.tuple #[.int .i64 (actN s x), .int .i64 (actE s x)]) ∧ ActQ w base p ma mh n v (actS s x) w' := by
  obtain ⟨k, x1, x2, x3, x4, xe, xA, xc⟩ := x
  obtain ⟨g1, g2, g3, g4, g5, g6, g7⟩ := hx
  simp only at g1 g2 g3 g4 g5 g6 g7 hl hfA ⊢
  obtain ⟨nx, hnx⟩ : ∃ n, n = xe.length := ⟨_, rfl⟩
  rw [← hnx] at g6 ⊢
  have hk0 : (0 : Int) ≤ (k : Int) := by omega
  have k1 := Whole.made w 31 #[.int .u8 (k : Int), .string x1, .string x2, .string x3, .int .i64 x4, .slice xA nx xc]
  have hb := (Below.refl w.heap.size w).alloc (Nat.le_refl _) (.cells #[.int .u8 (k : Int), .string x1, .string x2, .string x3, .int .i64 x4, .slice xA nx xc] 31)
  have hL := h.after hb
  have hl1 := hl.after hb
  have hsz : (w.alloc (.cells #[.int .u8 (k : Int), .string x1, .string x2, .string x3, .int .i64 x4, .slice xA nx xc] 31)).heap.size = w.heap.size + 1 := by simp
  have HL := hide h
  have HN := hide hnx
  have HB := hide hb
  have HH := hide (ok_holds h.ok)
  have hr : k % 5 < 5 := Nat.mod_lt _ (by omega)
  generalize hW1 : w.alloc (.cells #[.int .u8 (k : Int), .string x1, .string x2, .string x3, .int .i64 x4, .slice xA nx xc] 31) = W1 at *
  have cA := k1.cells
  have HW1 := hide hW1
  clear h hb hl k1 hnx
  by_cases r0 : k % 5 = 0
  · skip
    have m0 : (k : Int) % 5 = 0 := by omega
    have HC := hide (Open_any W1 base p ma mh n s v x1 x3 x4 hL (by omega) (by unfold maxLen; omega) g4)
    have HA := hide (show actE s ⟨k, x1, x2, x3, x4, xe, xA, xc⟩ = _ ∧ actN s ⟨k, x1, x2, x3, x4, xe, xA, xc⟩ = _ ∧ actS s ⟨k, x1, x2, x3, x4, xe, xA, xc⟩ = _ from act_0 _ _ r0)
    clear r0 hr hl1 hfA hsz hL
    go_enter Try.func13, Try.ntmps13
    go_wp2_with fail
    (with_reducible refine (unhide HC).mono ?_); rintro e w2 ⟨rfl, hq⟩
    have HQ := hide hq
    clear hq
    go_wp2_with fail
    go_ret2
    have hb := unhide HB
    obtain ⟨q1, q2, q3⟩ := unhide HA
    rw [q1, q2, q3]
    exact ⟨rfl, ActQ.of2 hb (unhide HQ)⟩
  by_cases r1 : k % 5 = 1
  · skip
    have m0 : (k : Int) % 5 = 1 := by omega
    have HC := hide (Post_any W1 base p ma mh n s v x1 xe xA nx xc hL (by omega) hl1 (unhide HN) (by omega) (by unfold maxLen; omega) g7 hfA)
    have HA := hide (show actE s ⟨k, x1, x2, x3, x4, xe, xA, xc⟩ = _ ∧ actN s ⟨k, x1, x2, x3, x4, xe, xA, xc⟩ = _ ∧ actS s ⟨k, x1, x2, x3, x4, xe, xA, xc⟩ = _ from act_1 _ _ r1)
    clear r0 r1 hr hl1 hfA hsz hL
    go_enter Try.func13, Try.ntmps13
    go_wp2_with fail
    (with_reducible refine (unhide HC).mono ?_); rintro e w2 ⟨rfl, hq⟩
    have HQ := hide hq
    clear hq
    go_wp2_with fail
    go_ret2
    have hb := unhide HB
    obtain ⟨q1, q2, q3⟩ := unhide HA
    rw [q1, q2, q3]
    exact ⟨rfl, ActQ.of3 hb (unhide HQ)⟩
  by_cases r2 : k % 5 = 2
  · skip
    have m0 : (k : Int) % 5 = 2 := by omega
    have HC := hide (Hold_any W1 base p ma mh n s v x1 x2 x3 x4 hL (by omega) (by unfold maxLen; omega) g3 g4)
    have HA := hide (show actE s ⟨k, x1, x2, x3, x4, xe, xA, xc⟩ = _ ∧ actN s ⟨k, x1, x2, x3, x4, xe, xA, xc⟩ = _ ∧ actS s ⟨k, x1, x2, x3, x4, xe, xA, xc⟩ = _ from act_2 _ _ r2)
    clear r0 r1 r2 hr hl1 hfA hsz hL
    go_enter Try.func13, Try.ntmps13
    go_wp2_with fail
    (with_reducible refine (unhide HC).mono ?_); rintro e w2 ⟨rfl, hq⟩
    have HQ := hide hq
    clear hq
    go_wp2_with fail
    go_ret2
    have hb := unhide HB
    obtain ⟨q1, q2, q3⟩ := unhide HA
    rw [q1, q2, q3]
    exact ⟨rfl, ActQ.of2 hb (unhide HQ)⟩
  by_cases r3 : k % 5 = 3
  · skip
    have m0 : (k : Int) % 5 = 3 := by omega
    have HC := hide (Take_any W1 base p ma mh n s v x1 x2 x4 hL hn (by omega) g3 (unhide HH) g5)
    have HA := hide (show actE s ⟨k, x1, x2, x3, x4, xe, xA, xc⟩ = _ ∧ actN s ⟨k, x1, x2, x3, x4, xe, xA, xc⟩ = _ ∧ actS s ⟨k, x1, x2, x3, x4, xe, xA, xc⟩ = _ from act_3 _ _ r3)
    clear r0 r1 r2 r3 hr hl1 hfA hsz hL
    go_enter Try.func13, Try.ntmps13
    go_wp2_with fail
    (with_reducible refine (unhide HC).mono ?_); rintro e w2 ⟨rfl, hq⟩
    have HQ := hide hq
    clear hq
    go_wp2_with fail
    go_ret2
    have hb := unhide HB
    obtain ⟨q1, q2, q3⟩ := unhide HA
    rw [q1, q2, q3]
    exact ⟨rfl, ActQ.of4 hb (unhide HQ)⟩
  have r4 : k % 5 = 4 := by omega
  have m0 : (k : Int) % 5 = 4 := by omega
  have HC := hide (Let_any W1 base p ma mh n s v x1 hL (by omega) (by unfold maxLen; omega) (unhide HH))
  have HA := hide (show actE s ⟨k, x1, x2, x3, x4, xe, xA, xc⟩ = _ ∧ actN s ⟨k, x1, x2, x3, x4, xe, xA, xc⟩ = _ ∧ actS s ⟨k, x1, x2, x3, x4, xe, xA, xc⟩ = _ from act_4 _ _ r4)
  clear r0 r1 r2 r3 r4 hr hl1 hfA hsz hL
  go_enter Try.func13, Try.ntmps13
  go_wp2_with fail
  (with_reducible refine (unhide HC).mono ?_); rintro e w2 ⟨rfl, hq⟩
  have HQ := hide hq
  clear hq
  go_wp2_with fail
  go_ret2
  have hb := unhide HB
  obtain ⟨q1, q2, q3⟩ := unhide HA
  rw [q1, q2, q3]
  exact ⟨rfl, ActQ.of2 hb (unhide HQ)⟩
end Go.Proofs.Ytjihkoleipkgmaa
