/- Walk: calls of both. (printed by gen_play.py) -/
import Derived.Test.YtgalpdjmmpjddaaPlayP
namespace Go.Proofs.Ytgalpdjmmpjddaa
set_option linter.unusedVariables false
set_option linter.unusedSimpArgs false
open Go.RowKit Go.Maps

/-- what play answers -/
def PlayQ (w : World) (limit : Int) (e : Ending) (w' : World) : Prop := ∃ p m n N c A bs, e = .returned (.tuple #[.pointer (some ⟨p, 0, none⟩), .slice A N c]) ∧ PlayI w w' (limI limit) 60 p m n N A bs

set_option maxHeartbeats 16000000 in
set_option maxRecDepth 100000 in
theorem play_any (limit : Int) (xs : List Oq) (OA : Option Addr) (n c : Nat) (w : World) (hn : n = xs.length) (hlen : n ≤ 60) (hx : ListIn oqR w w.heap.size OA xs) (hs : ∀ x ∈ xs, x.box.size ≤ maxLen ∧ x.to_.size ≤ maxLen) :
    Calls Try.prog 15 #[.int .i64 limit, .slice OA n c] w (PlayQ w limit) := by
  have HN := hide hn; have HX := hide hx; have HS := hide hs
  have hlb := limI_bd limit
  have HLB := hide hlb
  obtain ⟨lim, hlim⟩ : ∃ l, l = limI limit := ⟨_, rfl⟩
  have HOP := hide (Open_any limit w)
  have HRE := hide (fun xs A n c s d day W => REnter_any xs A n c limit s d day W)
  unfold PlayQ
  rw [← hlim] at HOP HRE HLB ⊢
  clear hn hx hs hlb hlim
  go_enter Try.func15, Try.ntmps15
  go_wp2_with fail
  (with_reducible refine (unhide HOP).mono ?_); rintro e w1 ⟨rfl, hB, hb⟩
  have h0 : PlayI w w1 lim 0 (w.heap.size + 1) w.heap.size 0 0 none [] := ⟨rfl, Nat.le_refl _, Nat.le_refl _, by omega, by omega, Nat.le_refl _, hB, ListIn.nil, Inv.nil (unhide HLB).1, hb⟩
  have H0 := hide h0
  clear h0 hB hb HOP
  go_wp2_with fail
  go_loopw [6, 7, 19] (fun b l i wr => ∃ (k p m nn N cN : Nat) (A : Option Addr) (bs : List Bx), k ≤ n ∧ i = .int .i64 k ∧ b = .pointer (some ⟨p, 0, none⟩) ∧ l = .slice A N cN ∧ PlayI w wr lim k p m nn N A bs) (fun _ _ i _ => n - (intOf i).toNat)
  case atStart => exact ⟨0, _, _, 0, 0, 0, none, [], by omega, rfl, rfl, rfl, unhide H0⟩
  case round =>
    obtain ⟨k, p, m, nn, N, cN, A, bs, hk, rfl, rfl, rfl, hI⟩ := hrel
    obtain ⟨wo, rfl⟩ : ∃ wo : World, wo = wr := ⟨_, rfl⟩
    by_cases hlt : k < n
    · obtain ⟨x, hx⟩ : ∃ x, xs[k]? = some x := ⟨xs[k]'(by rw [← unhide HN]; exact hlt), List.getElem?_eq_getElem _⟩
      obtain ⟨b, off, rfl, hbb, c0, c1, c2, c3, c4⟩ := oq_at ((unhide HX).after hI.below) hx
      obtain ⟨hz1, hz2⟩ := unhide HS x (List.mem_of_getElem? hx)
      have hal := (Below.refl wo.heap.size wo).alloc (Nat.le_refl _) (.cells #[.int .i64 x.kind, .int .i64 x.day, .string x.box, .string x.to_, .int .i64 x.n] 57)
      have hI1 := hI.after hal
      have hK1 := Whole.made wo 57 #[.int .i64 x.kind, .int .i64 x.day, .string x.box, .string x.to_, .int .i64 x.n]
      have hmo := hI.bond.2.lt
      have HI1 := hide hI1; have HK1 := hide hK1
      have hNk := hI1.lenk; have hnk := hI1.nk
      clear hI hal hx hI1 hK1
      by_cases e1 : x.kind = 1
      · skip
        have q1a : (x.kind == 1) = true := by simpa using e1
        have q1b : decide (x.kind = 1) = true := by simpa using e1
        clear e1
        go_wp2_with fail
        clear c0 c1 c2 c3 c4
        have hc := (unhide HK1).cells
        have o0 := hc 0; have o1 := hc 1; have o2 := hc 2; have o3 := hc 3; have o4 := hc 4
        simp only [List.getElem?_toArray, List.getElem?_cons_zero, List.getElem?_cons_succ] at o0 o1 o2 o3 o4
        clear hc
        generalize wo.alloc (.cells #[.int .i64 x.kind, .int .i64 x.day, .string x.box, .string x.to_, .int .i64 x.n] 57) = W1 at *
        go_wp2_with fail
        have hI := unhide HI1
        have hr := hide (unhide HRE bs A N cN x.box x.n x.day W1 hz1 hI.len (by omega) hI.list hI.inv.ok)
        have hp := hide (fun W (hb : Below W1.heap.size W1 W) => EnterQ_any p m nn lim x.n x.day x.box bs W hz1 (hI.bond.after hb) (by omega) hI.ne hI.inv.ok)
        have hlen2 : (entered lim bs x.box x.n x.day).length ≤ bs.length + 1 := entered_length _ _ _ _ _
        have hinv2 : Inv lim (entered lim bs x.box x.n x.day) := hI.inv.entered (by have := hI.len; omega) hz1
        have HINV := hide (And.intro hlen2 hinv2)
        clear hlen2 hinv2
        clear hI
        generalize (entered lim bs x.box x.n x.day) = bs2 at *
        generalize enterE lim bs x.box x.n x.day = er at *
        (with_reducible refine (unhide hr).mono ?_); rintro e w2 ⟨A', N', c', rfl, hN', hL', hb2⟩
        have o := ((unhide HK1).after hb2).cells
        have r1 := o 1; have r2 := o 2; have r3 := o 3; have r4 := o 4
        simp only [List.getElem?_toArray, List.getElem?_cons_zero, List.getElem?_cons_succ] at r1 r2 r3 r4
        have HP2 := hide (unhide hp _ hb2)
        have HF2 := hide (And.intro hN' (And.intro hL' hb2))
        clear o o0 o1 o2 o3 o4 hN' hL' hb2 hr hp
        go_wp2_with fail
        (with_reducible refine (unhide HP2).mono ?_); rintro e w3 ⟨rfl, hBO, hg⟩
        obtain ⟨hN', hL', hb2⟩ := unhide HF2
        have hI3 := (unhide HI1).step hb2 hL' hBO hg (unhide HINV).1 (unhide HINV).2
        rw [← hN'] at hI3
        have HI3 := hide hI3
        clear hI3 hN' hL' hb2 hBO hg r1 r2 r3 r4 HP2 HF2 HINV
        have hI3 := unhide HI3
        have HU := hide (Used_any p m (nn + 1) lim bs2 _ hI3.bond hI3.inv.ok)
        have HRU := hide (fun W (hb : Below w3.heap.size w3 W) => RUsed_any bs2 A' N' c' W hI3.len (by have := hI3.lenk; omega) (hI3.after hb).list hI3.inv.ok.duty)
        clear hI3
        generalize used bs2 = us at *
        go_wp2_with fail
        (with_reducible refine (unhide HU).mono ?_); rintro e w4 ⟨rfl, hb4⟩
        have HRU2 := hide (unhide HRU _ hb4)
        have HI4 := hide ((unhide HI3).after hb4)
        clear hb4 HRU HU
        go_wp2_with fail
        (with_reducible refine (unhide HRU2).mono ?_); rintro e w5 ⟨rfl, rfl⟩
        clear HRU2
        go_wp2_with fail
        go_roundw
        case rel => exact ⟨k + 1, p, m, (nn + 1), N', c', A', bs2, by omega, by go_num, rfl, rfl, unhide HI4⟩
        case measure => simp [intOf]; omega
      by_cases e2 : x.kind = 2
      · skip
        have q1a : (x.kind == 1) = false := by simpa using e1
        have q1b : decide (x.kind = 1) = false := by simpa using e1
        have q2a : (x.kind == 2) = true := by simpa using e2
        have q2b : decide (x.kind = 2) = true := by simpa using e2
        clear e1 e2
        go_wp2_with fail
        clear c0 c1 c2 c3 c4
        have hc := (unhide HK1).cells
        have o0 := hc 0; have o1 := hc 1; have o2 := hc 2; have o3 := hc 3; have o4 := hc 4
        simp only [List.getElem?_toArray, List.getElem?_cons_zero, List.getElem?_cons_succ] at o0 o1 o2 o3 o4
        clear hc
        generalize wo.alloc (.cells #[.int .i64 x.kind, .int .i64 x.day, .string x.box, .string x.to_, .int .i64 x.n] 57) = W1 at *
        go_wp2_with fail
        have hI := unhide HI1
        have hr := hide (RRelease_any bs A N cN x.box x.n W1 hI.len (by omega) hI.list hI.inv.ok.apart)
        have hp := hide (fun W (hb : Below W1.heap.size W1 W) => Release_any p m nn lim x.n x.box bs W hz1 (hI.bond.after hb) (by omega) hI.ne)
        have hlen2 : (left bs x.box 1 (relE bs x.box x.n)).length ≤ bs.length + 1 := by rw [left_length]; omega
        have hinv2 : Inv lim (left bs x.box 1 (relE bs x.box x.n)) := hI.inv.left _ _ (by omega)
        have HINV := hide (And.intro hlen2 hinv2)
        clear hlen2 hinv2
        clear hI
        generalize (left bs x.box 1 (relE bs x.box x.n)) = bs2 at *
        generalize relE bs x.box x.n = er at *
        (with_reducible refine (unhide hr).mono ?_); rintro e w2 ⟨A', N', c', rfl, hN', hL', hb2⟩
        have o := ((unhide HK1).after hb2).cells
        have r1 := o 1; have r2 := o 2; have r3 := o 3; have r4 := o 4
        simp only [List.getElem?_toArray, List.getElem?_cons_zero, List.getElem?_cons_succ] at r1 r2 r3 r4
        have HP2 := hide (unhide hp _ hb2)
        have HF2 := hide (And.intro hN' (And.intro hL' hb2))
        clear o o0 o1 o2 o3 o4 hN' hL' hb2 hr hp
        go_wp2_with fail
        (with_reducible refine (unhide HP2).mono ?_); rintro e w3 ⟨rfl, hBO, hg⟩
        obtain ⟨hN', hL', hb2⟩ := unhide HF2
        have hI3 := (unhide HI1).step hb2 hL' hBO hg (unhide HINV).1 (unhide HINV).2
        rw [← hN'] at hI3
        have HI3 := hide hI3
        clear hI3 hN' hL' hb2 hBO hg r1 r2 r3 r4 HP2 HF2 HINV
        have hI3 := unhide HI3
        have HU := hide (Used_any p m (nn + 1) lim bs2 _ hI3.bond hI3.inv.ok)
        have HRU := hide (fun W (hb : Below w3.heap.size w3 W) => RUsed_any bs2 A' N' c' W hI3.len (by have := hI3.lenk; omega) (hI3.after hb).list hI3.inv.ok.duty)
        clear hI3
        generalize used bs2 = us at *
        go_wp2_with fail
        (with_reducible refine (unhide HU).mono ?_); rintro e w4 ⟨rfl, hb4⟩
        have HRU2 := hide (unhide HRU _ hb4)
        have HI4 := hide ((unhide HI3).after hb4)
        clear hb4 HRU HU
        go_wp2_with fail
        (with_reducible refine (unhide HRU2).mono ?_); rintro e w5 ⟨rfl, rfl⟩
        clear HRU2
        go_wp2_with fail
        go_roundw
        case rel => exact ⟨k + 1, p, m, (nn + 1), N', c', A', bs2, by omega, by go_num, rfl, rfl, unhide HI4⟩
        case measure => simp [intOf]; omega
      by_cases e3 : x.kind = 3
      · skip
        have q1a : (x.kind == 1) = false := by simpa using e1
        have q1b : decide (x.kind = 1) = false := by simpa using e1
        have q2a : (x.kind == 2) = false := by simpa using e2
        have q2b : decide (x.kind = 2) = false := by simpa using e2
        have q3a : (x.kind == 3) = true := by simpa using e3
        have q3b : decide (x.kind = 3) = true := by simpa using e3
        clear e1 e2 e3
        go_wp2_with fail
        clear c0 c1 c2 c3 c4
        have hc := (unhide HK1).cells
        have o0 := hc 0; have o1 := hc 1; have o2 := hc 2; have o3 := hc 3; have o4 := hc 4
        simp only [List.getElem?_toArray, List.getElem?_cons_zero, List.getElem?_cons_succ] at o0 o1 o2 o3 o4
        clear hc
        generalize wo.alloc (.cells #[.int .i64 x.kind, .int .i64 x.day, .string x.box, .string x.to_, .int .i64 x.n] 57) = W1 at *
        go_wp2_with fail
        have hI := unhide HI1
        have hr := hide (RTransit_any bs A N cN x.box x.to_ x.day W1 hI.len (by omega) hI.list hI.inv.ok.apart hz2)
        have hp := hide (fun W (hb : Below W1.heap.size W1 W) => Transit_any p m nn lim x.day x.box x.to_ bs W hz1 hz2 (hI.bond.after hb) (by omega) hI.ne)
        have hlen2 : (left bs x.box 2 (traE bs x.box x.to_ x.day)).length ≤ bs.length + 1 := by rw [left_length]; omega
        have hinv2 : Inv lim (left bs x.box 2 (traE bs x.box x.to_ x.day)) := hI.inv.left _ _ (by omega)
        have HINV := hide (And.intro hlen2 hinv2)
        clear hlen2 hinv2
        clear hI
        generalize (left bs x.box 2 (traE bs x.box x.to_ x.day)) = bs2 at *
        generalize traE bs x.box x.to_ x.day = er at *
        (with_reducible refine (unhide hr).mono ?_); rintro e w2 ⟨A', N', c', rfl, hN', hL', hb2⟩
        have o := ((unhide HK1).after hb2).cells
        have r1 := o 1; have r2 := o 2; have r3 := o 3; have r4 := o 4
        simp only [List.getElem?_toArray, List.getElem?_cons_zero, List.getElem?_cons_succ] at r1 r2 r3 r4
        have HP2 := hide (unhide hp _ hb2)
        have HF2 := hide (And.intro hN' (And.intro hL' hb2))
        clear o o0 o1 o2 o3 o4 hN' hL' hb2 hr hp
        go_wp2_with fail
        (with_reducible refine (unhide HP2).mono ?_); rintro e w3 ⟨rfl, hBO, hg⟩
        obtain ⟨hN', hL', hb2⟩ := unhide HF2
        have hI3 := (unhide HI1).step hb2 hL' hBO hg (unhide HINV).1 (unhide HINV).2
        rw [← hN'] at hI3
        have HI3 := hide hI3
        clear hI3 hN' hL' hb2 hBO hg r1 r2 r3 r4 HP2 HF2 HINV
        have hI3 := unhide HI3
        have HU := hide (Used_any p m (nn + 1) lim bs2 _ hI3.bond hI3.inv.ok)
        have HRU := hide (fun W (hb : Below w3.heap.size w3 W) => RUsed_any bs2 A' N' c' W hI3.len (by have := hI3.lenk; omega) (hI3.after hb).list hI3.inv.ok.duty)
        clear hI3
        generalize used bs2 = us at *
        go_wp2_with fail
        (with_reducible refine (unhide HU).mono ?_); rintro e w4 ⟨rfl, hb4⟩
        have HRU2 := hide (unhide HRU _ hb4)
        have HI4 := hide ((unhide HI3).after hb4)
        clear hb4 HRU HU
        go_wp2_with fail
        (with_reducible refine (unhide HRU2).mono ?_); rintro e w5 ⟨rfl, rfl⟩
        clear HRU2
        go_wp2_with fail
        go_roundw
        case rel => exact ⟨k + 1, p, m, (nn + 1), N', c', A', bs2, by omega, by go_num, rfl, rfl, unhide HI4⟩
        case measure => simp [intOf]; omega
      by_cases e4 : x.kind = 4
      · skip
        have q1a : (x.kind == 1) = false := by simpa using e1
        have q1b : decide (x.kind = 1) = false := by simpa using e1
        have q2a : (x.kind == 2) = false := by simpa using e2
        have q2b : decide (x.kind = 2) = false := by simpa using e2
        have q3a : (x.kind == 3) = false := by simpa using e3
        have q3b : decide (x.kind = 3) = false := by simpa using e3
        have q4a : (x.kind == 4) = true := by simpa using e4
        have q4b : decide (x.kind = 4) = true := by simpa using e4
        clear e1 e2 e3 e4
        go_wp2_with fail
        clear c0 c1 c2 c3 c4
        have hc := (unhide HK1).cells
        have o0 := hc 0; have o1 := hc 1; have o2 := hc 2; have o3 := hc 3; have o4 := hc 4
        simp only [List.getElem?_toArray, List.getElem?_cons_zero, List.getElem?_cons_succ] at o0 o1 o2 o3 o4
        clear hc
        generalize wo.alloc (.cells #[.int .i64 x.kind, .int .i64 x.day, .string x.box, .string x.to_, .int .i64 x.n] 57) = W1 at *
        go_wp2_with fail
        have hI := unhide HI1
        have hr := hide (RExport_any bs A N cN x.box W1 hI.len (by omega) hI.list hI.inv.ok.apart)
        have hp := hide (fun W (hb : Below W1.heap.size W1 W) => Export_any p m nn lim x.box bs W hz1 (hI.bond.after hb) (by omega) hI.ne)
        have hlen2 : (left bs x.box 2 (opE bs x.box)).length ≤ bs.length + 1 := by rw [left_length]; omega
        have hinv2 : Inv lim (left bs x.box 2 (opE bs x.box)) := hI.inv.left _ _ (by omega)
        have HINV := hide (And.intro hlen2 hinv2)
        clear hlen2 hinv2
        clear hI
        generalize (left bs x.box 2 (opE bs x.box)) = bs2 at *
        generalize opE bs x.box = er at *
        (with_reducible refine (unhide hr).mono ?_); rintro e w2 ⟨A', N', c', rfl, hN', hL', hb2⟩
        have o := ((unhide HK1).after hb2).cells
        have r1 := o 1; have r2 := o 2; have r3 := o 3; have r4 := o 4
        simp only [List.getElem?_toArray, List.getElem?_cons_zero, List.getElem?_cons_succ] at r1 r2 r3 r4
        have HP2 := hide (unhide hp _ hb2)
        have HF2 := hide (And.intro hN' (And.intro hL' hb2))
        clear o o0 o1 o2 o3 o4 hN' hL' hb2 hr hp
        go_wp2_with fail
        (with_reducible refine (unhide HP2).mono ?_); rintro e w3 ⟨rfl, hBO, hg⟩
        obtain ⟨hN', hL', hb2⟩ := unhide HF2
        have hI3 := (unhide HI1).step hb2 hL' hBO hg (unhide HINV).1 (unhide HINV).2
        rw [← hN'] at hI3
        have HI3 := hide hI3
        clear hI3 hN' hL' hb2 hBO hg r1 r2 r3 r4 HP2 HF2 HINV
        have hI3 := unhide HI3
        have HU := hide (Used_any p m (nn + 1) lim bs2 _ hI3.bond hI3.inv.ok)
        have HRU := hide (fun W (hb : Below w3.heap.size w3 W) => RUsed_any bs2 A' N' c' W hI3.len (by have := hI3.lenk; omega) (hI3.after hb).list hI3.inv.ok.duty)
        clear hI3
        generalize used bs2 = us at *
        go_wp2_with fail
        (with_reducible refine (unhide HU).mono ?_); rintro e w4 ⟨rfl, hb4⟩
        have HRU2 := hide (unhide HRU _ hb4)
        have HI4 := hide ((unhide HI3).after hb4)
        clear hb4 HRU HU
        go_wp2_with fail
        (with_reducible refine (unhide HRU2).mono ?_); rintro e w5 ⟨rfl, rfl⟩
        clear HRU2
        go_wp2_with fail
        go_roundw
        case rel => exact ⟨k + 1, p, m, (nn + 1), N', c', A', bs2, by omega, by go_num, rfl, rfl, unhide HI4⟩
        case measure => simp [intOf]; omega
      by_cases e5 : x.kind = 5
      · skip
        have q1a : (x.kind == 1) = false := by simpa using e1
        have q1b : decide (x.kind = 1) = false := by simpa using e1
        have q2a : (x.kind == 2) = false := by simpa using e2
        have q2b : decide (x.kind = 2) = false := by simpa using e2
        have q3a : (x.kind == 3) = false := by simpa using e3
        have q3b : decide (x.kind = 3) = false := by simpa using e3
        have q4a : (x.kind == 4) = false := by simpa using e4
        have q4b : decide (x.kind = 4) = false := by simpa using e4
        have q5a : (x.kind == 5) = true := by simpa using e5
        have q5b : decide (x.kind = 5) = true := by simpa using e5
        clear e1 e2 e3 e4 e5
        go_wp2_with fail
        clear c0 c1 c2 c3 c4
        have hc := (unhide HK1).cells
        have o0 := hc 0; have o1 := hc 1; have o2 := hc 2; have o3 := hc 3; have o4 := hc 4
        simp only [List.getElem?_toArray, List.getElem?_cons_zero, List.getElem?_cons_succ] at o0 o1 o2 o3 o4
        clear hc
        generalize wo.alloc (.cells #[.int .i64 x.kind, .int .i64 x.day, .string x.box, .string x.to_, .int .i64 x.n] 57) = W1 at *
        go_wp2_with fail
        have hcp := hide (Copy_any p m nn lim bs W1 (unhide HI1).bond (by omega) (unhide HLB).1 (unhide HLB).2)
        clear o0 o1 o2 o3 o4
        (with_reducible refine (unhide hcp).mono ?_); rintro e w3 ⟨p2, m2, n2, rfl, hn2, hp2, hm2, hne2, hB2, hb2⟩
        have hI1 := unhide HI1
        have hI3 : PlayI w w3 lim (k + 1) p2 m2 n2 N A bs := ⟨hI1.len, by omega, by omega, hne2, by have := hI1.below.size; omega, by have := hI1.below.size; omega, hB2, hI1.list.after hb2, hI1.inv, hI1.below.trans (hb2.mono hI1.below.size)⟩
        have HI3 := hide hI3
        clear hI3 hI1 hn2 hp2 hm2 hne2 hB2 hb2 hcp
        go_wp2_with fail
        have hI3 := unhide HI3
        have HU := hide (Used_any p2 m2 n2 lim bs _ hI3.bond hI3.inv.ok)
        have HRU := hide (fun W (hb : Below w3.heap.size w3 W) => RUsed_any bs A N cN W hI3.len (by have := hI3.lenk; omega) (hI3.after hb).list hI3.inv.ok.duty)
        clear hI3
        generalize used bs = us at *
        go_wp2_with fail
        (with_reducible refine (unhide HU).mono ?_); rintro e w4 ⟨rfl, hb4⟩
        have HRU2 := hide (unhide HRU _ hb4)
        have HI4 := hide ((unhide HI3).after hb4)
        clear hb4 HRU HU
        go_wp2_with fail
        (with_reducible refine (unhide HRU2).mono ?_); rintro e w5 ⟨rfl, rfl⟩
        clear HRU2
        go_wp2_with fail
        go_roundw
        case rel => exact ⟨k + 1, p2, m2, n2, N, cN, A, bs, by omega, by go_num, rfl, rfl, unhide HI4⟩
        case measure => simp [intOf]; omega
      · skip
        have q1a : (x.kind == 1) = false := by simpa using e1
        have q1b : decide (x.kind = 1) = false := by simpa using e1
        have q2a : (x.kind == 2) = false := by simpa using e2
        have q2b : decide (x.kind = 2) = false := by simpa using e2
        have q3a : (x.kind == 3) = false := by simpa using e3
        have q3b : decide (x.kind = 3) = false := by simpa using e3
        have q4a : (x.kind == 4) = false := by simpa using e4
        have q4b : decide (x.kind = 4) = false := by simpa using e4
        have q5a : (x.kind == 5) = false := by simpa using e5
        have q5b : decide (x.kind = 5) = false := by simpa using e5
        clear e1 e2 e3 e4 e5
        go_wp2_with fail
        clear c0 c1 c2 c3 c4
        generalize wo.alloc (.cells #[.int .i64 x.kind, .int .i64 x.day, .string x.box, .string x.to_, .int .i64 x.n] 57) = w3 at *
        have HI3 := hide ((unhide HI1).more (Nat.le_succ k))
        have hI3 := unhide HI3
        have HU := hide (Used_any p m nn lim bs _ hI3.bond hI3.inv.ok)
        have HRU := hide (fun W (hb : Below w3.heap.size w3 W) => RUsed_any bs A N cN W hI3.len (by have := hI3.lenk; omega) (hI3.after hb).list hI3.inv.ok.duty)
        clear hI3
        generalize used bs = us at *
        go_wp2_with fail
        (with_reducible refine (unhide HU).mono ?_); rintro e w4 ⟨rfl, hb4⟩
        have HRU2 := hide (unhide HRU _ hb4)
        have HI4 := hide ((unhide HI3).after hb4)
        clear hb4 HRU HU
        go_wp2_with fail
        (with_reducible refine (unhide HRU2).mono ?_); rintro e w5 ⟨rfl, rfl⟩
        clear HRU2
        go_wp2_with fail
        go_roundw
        case rel => exact ⟨k + 1, p, m, nn, N, cN, A, bs, by omega, by go_num, rfl, rfl, unhide HI4⟩
        case measure => simp [intOf]; omega
    · have HF := hide (hI.more (by omega : k ≤ 60))
      clear hI
      go_wp2_with fail
      go_ret2
      exact ⟨_, _, _, _, _, _, _, rfl, unhide HF⟩
end Go.Proofs.Ytgalpdjmmpjddaa
