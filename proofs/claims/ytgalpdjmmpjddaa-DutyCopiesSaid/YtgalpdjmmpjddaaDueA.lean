/- Walk: entered boxes as of a day. -/
import Derived.Test.YtgalpdjmmpjddaaDueP
namespace Go.Proofs.Ytgalpdjmmpjddaa
set_option linter.unusedVariables false
set_option linter.unusedSimpArgs false
open Go.RowKit Go.Maps

/-- texts that a call hands back: a new row of these -/
def TextsQ (w : World) (ss : List (List UInt8)) (e : Ending) (w' : World) : Prop := ∃ A c, e = .returned (.slice A ss.length c) ∧ ListIn stR w' w'.heap.size A ss ∧ Below w.heap.size w w'

theorem enc_name (s : ByteArray) : encStr s.data.toList = .string s := rfl

set_option maxHeartbeats 8000000 in
set_option maxRecDepth 100000 in
theorem Due_any (p m n : Nat) (lim day : Int) (bs : List Bx) (w : World) (hB : BondAt w p lim m n bs) (hok : BsOk bs) (hn : n ≤ 4000) :
    Calls Try.prog 21 #[.pointer (some ⟨p, 0, none⟩), .int .i64 day] w (TextsQ w ((dueL bs day).mergeSort leB)) := by
  obtain ⟨i0, hi0, hz0, hz1, hz2⟩ := info_parts info_str
  have cB := hB.1.cells
  have hmw := hB.2.lt
  have HB := hide hB; have HOK := hide hok; have HI := hide (And.intro hi0 (And.intro hz0 (And.intro hz1 hz2)))
  clear hB hok hi0 hz0 hz1 hz2
  go_enter Try.func21, Try.ntmps21
  go_wp2_with (at_range; refine wpList_going_le _ rfl _ 94 rfl 9 93 (J := strKeys) Try.underlying94 m n rfl (unhide HB).2 ?_; intro w2 cnt hcnt hgo hgr hs2)
  go_frame
  have hbl : Below w.heap.size w w2 := ⟨hgr.os, hgr.tape, hgr.output, hgr.size, fun i hi => hgr.block i hi (by simp)⟩
  go_loopw [5, 6, 7] (fun v _ _ wr => ∃ (v0 : Value) (todo : ByteArray → Bool) (cnt : Nat) (ss : List (List UInt8)), v0 = v ∧ Going strKeys wr m w.heap.size n (boxF bs) todo cnt ∧ ss.length + cnt ≤ n ∧ wr.ownsRow (w.heap.size + 1) 9 1 v0 ss.length (ss.map encStr) ∧ Hid (ss.Perm (doneL bs day todo)) ∧ Below w.heap.size w wr) (fun _ _ _ wr => wr.rangeLeft m w.heap.size)
  case atStart =>
    exact ⟨_, _, _, [], rfl, hgo, by simpa using hcnt, World.ownsRow_nil _ _ _ _, hide (by rw [doneL_start bs day _ (fun x hx => by rw [boxF_mem (unhide HOK).apart hx]; rfl)]), hbl⟩
  case round =>
    obtain ⟨v0, todo, cnt2, ss, rfl, hg, hlen, hown, HP, hb⟩ := hrel
    obtain ⟨wo, rfl⟩ : ∃ wo : World, wo = wr := ⟨_, rfl⟩
    have HO := hide hown; have HBW := hide hb
    clear hown hb
    go_wp2_with (at_next; refine wpList_going_next _ rfl _ rfl (fun key kl h => str_inv h) rfl hg ?_ ?_)
    · intro hc0 hl0
      have hend : ss.Perm (dueL bs day) := by rw [← doneL_end bs day todo (fun x hx => hl0 x.name ((unhide HOK).size x hx))]; exact unhide HP
      have hst : (dueL bs day).mergeSort leB = ss.mergeSort leB := (Go.mergeSort_of_perm hend).symm
      have HE := hide hst
      clear hend hst HP
      rcases Nat.eq_zero_or_pos ss.length with hz | hz
      · have hss : ss = [] := List.eq_nil_of_length_eq_zero hz
        have hown : wo.ownsRow (w.heap.size + 1) 9 stR.sz v0 0 (([] : List (List UInt8)).flatMap stR.cells) := by have := unhide HO; rw [hss] at this; exact this
        obtain ⟨A, c, hv, -, -, -, hL⟩ := list_of_own hown
        subst hv
        have HF := hide hss
        clear hown hL hz hss
        go_wp2_with fail
        (with_reducible refine (sort_none _ _ _).mono ?_); rintro e w3 ⟨rfl, rfl⟩
        go_wp2_with fail
        go_ret
        have hq : ss.mergeSort leB = [] := by rw [unhide HF]; exact List.mergeSort_nil
        refine ⟨A, c, ?_, ?_, unhide HBW⟩
        · rw [unhide HE, hq]; rfl
        · rw [unhide HE, hq]; exact ListIn.nil
      · obtain ⟨g, cap, hv, hbg, hlt⟩ := (unhide HO).form hz
        have hown := unhide HO
        rw [hv] at hown
        have HS := hide (sort_own (w.heap.size + 1) g cap ss.length ss wo hown (by omega))
        subst hv
        clear hown HO
        go_wp2_with fail
        (with_reducible refine (unhide HS).mono ?_); rintro e w3 ⟨rfl, hown3, hg3⟩
        have HF := hide (And.intro hown3 ((unhide HBW).grown hg3 (unhide HBW).size (fun j hj => by cases hj; omega)))
        clear hown3 hg3 HS
        go_wp2_with fail
        go_ret
        obtain ⟨hown3, hb3⟩ := unhide HF
        rw [← st_flat] at hown3
        obtain ⟨A, c, hv, -, -, -, hL⟩ := list_of_own (R := stR) hown3
        cases hv
        refine ⟨some ⟨g, 0, none⟩, cap, ?_, ?_, hb3⟩
        · show _ = Ending.returned (.slice (some ⟨g, 0, none⟩) ((dueL bs day).mergeSort leB).length cap)
          rw [unhide HE, List.length_mergeSort]
          rfl
        · rw [unhide HE]; exact hL
    · intro nm v w3 cnt3 hgood htodo hfx hg2 hlt hgr2 hsz2 hen
      obtain ⟨x, hx, rfl, rfl⟩ := boxF_some hfx
      obtain ⟨hp1, hp2⟩ := perm_step (unhide HP) hx (unhide HOK).apart htodo
      have hb3 : Below w.heap.size w w3 := (unhide HBW).grown hgr2 (unhide HBW).size (fun q hq => by cases hq; exact Nat.le_refl _)
      have hown3 := (unhide HO).kept hgr2 (.inr (fun e => by have := ((unhide HO).lt _ e).1; omega))
      have hal := ((Below.refl w3.heap.size w3).alloc (Nat.le_refl _) (.cells #[.int .i64 x.duty, .int .i64 x.day, .int .i64 x.state] 93))
      have hown4 := hown3.alloc (.cells #[.int .i64 x.duty, .int .i64 x.day, .int .i64 x.state] 93)
      have hg4 := hg2.alloc (.cells #[.int .i64 x.duty, .int .i64 x.day, .int .i64 x.state] 93)
      have hb4 := hb3.alloc hb3.size (.cells #[.int .i64 x.duty, .int .i64 x.day, .int .i64 x.state] 93)
      have HO4 := hide hown4; have HG4 := hide hg4; have HB4 := hide hb4; have HL := hide hlt; have HG := hide hg
      have HP1 := hide hp1; have HP2 := hide hp2; have HGD := hide hgood
      clear hb3 hown3 hal hown4 hg4 hb4 hlt hg hg2 hgr2 hfx htodo hp1 hp2 hx HO HP hgood cB
      unfold Bx.val at hen ⊢
      have hkv : strKeys.kv x.name = .string x.name := rfl
      simp only [hkv] at hen ⊢
      clear hkv
      have hdd : dueB day x = (decide (x.state = 0) && decide (x.day ≤ day)) := rfl
      cases hd : dueB day x
      · rw [hd] at hdd
        have hrel := unhide HP2 hd
        have HR := hide hrel
        clear hrel hd
        by_cases h0 : x.state = 0
        · have t0 : decide (x.state = 0) = true := by simpa using h0
          have t1 : (x.state == 0) = true := by simpa using h0
          have t2 : decide (x.day ≤ day) = false := by rw [t0] at hdd; simpa using hdd.symm
          clear h0 hdd
          go_wp2_with fail
          go_roundw
          case rel => exact ⟨_, _, _, ss, rfl, unhide HG4, by have := unhide HL; omega, unhide HO4, hide (unhide HR), unhide HB4⟩
          case measure => rw [(unhide HG4).measure, (unhide HG).measure]; exact unhide HL
        · have t0 : decide (x.state = 0) = false := by simpa using h0
          have t1 : (x.state == 0) = false := by simpa using h0
          clear h0 hdd
          go_wp2_with fail
          go_roundw
          case rel => exact ⟨_, _, _, ss, rfl, unhide HG4, by have := unhide HL; omega, unhide HO4, hide (unhide HR), unhide HB4⟩
          case measure => rw [(unhide HG4).measure, (unhide HG).measure]; exact unhide HL
      · rw [hd] at hdd
        have hrel := unhide HP1 hd
        have HR := hide hrel
        clear hrel hd
        have h2 := hdd.symm
        simp only [Bool.and_eq_true] at h2
        obtain ⟨t0, t2⟩ := h2
        have t1 : (x.state == 0) = true := by simpa using t0
        clear hdd
        obtain ⟨hi0, hz0, hz1, hz2⟩ := unhide HI
        have hlen3 : ss.length + 1 + cnt3 ≤ n := by have := unhide HL; omega
        have hsm : ss.length ≤ 4000 := by omega
        go_wp2_with (at_builtin; go_must ((refine wpList_append_src _ rfl (.tmp 27) (.tmp 29) 51 rfl (w.heap.size + 1) 9 i0 _ 1 16 Try.underlying51 hi0 hz0 hz1 hz2 rfl (by omega) rfl ((unhide HO4).alloc _) rfl (src_new stR _ x.nm 9 _ (by simp [hsz2])) (rows_one stR [x.nm]) (by unfold maxLen; omega) (by omega) (by have := (unhide HG4).lt; simp at this ⊢; omega) ?_; intro v5 w5 own5 hg5 hat5; have own5 : w5.ownsRow (w.heap.size + 1) 9 1 v5 (ss ++ [x.nm]).length ((ss ++ [x.nm]).map encStr) := (by rw [List.length_append, List.map_append]; exact own5); have hg6 := ((unhide HG4).alloc _).kept hg5 (by intro e; have := (((unhide HO4).alloc (.cells #[.string x.name] 9)).lt _ e.symm).1; omega) (by intro e; have := (((unhide HO4).alloc (.cells #[.string x.name] 9)).lt _ e.symm).1; omega); have hb6 := below_grown ((unhide HB4).alloc (unhide HB4).size _) ((unhide HO4).alloc _) (Nat.le_succ _) hg5; have HO6 := hide own5; have HG6 := hide hg6; have HB6 := hide hb6; clear own5 hg5 hat5 hg6 hb6 hi0 hz0 hz1 hz2)))
        go_roundw
        case rel => exact ⟨_, _, _, ss ++ [x.nm], rfl, unhide HG6, by simp; omega, unhide HO6, hide (unhide HR), unhide HB6⟩
        case measure => rw [(unhide HG6).measure, (unhide HG).measure]; exact unhide HL
end Go.Proofs.Ytgalpdjmmpjddaa
