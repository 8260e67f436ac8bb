/- Walks: the reference's boxes: At, Used, Limit, open. -/
import Derived.Test.YtgalpdjmmpjddaaBoxP
namespace Go.Proofs.Ytgalpdjmmpjddaa
set_option linter.unusedVariables false
set_option linter.unusedSimpArgs false
open Go.RowKit Go.Maps

theorem named_bytes (s : ByteArray) (x : Bx) : named s x = (x.name.toList == s.toList) := by
  rw [Bool.eq_iff_iff]; simp [named, bytes_eq]

set_option maxHeartbeats 1000000 in
theorem At_any (xs : List Bx) (A : Option Addr) (n c : Nat) (s : ByteArray) (w : World) (hn : n = xs.length) (hlen : n ≤ 4096) (hx : ListIn bxR w w.heap.size A xs) :
    Calls Try.prog 16 #[.slice A n c, .string s] w fun e w' => e = .returned (.int .i64 (atI s 0 xs)) ∧ w = w' := by
  have HN := hide hn
  have HX := hide hx
  clear hn hx
  obtain ⟨r, hr⟩ : ∃ r, r = atI s 0 xs := ⟨_, rfl⟩
  rw [← hr]
  have HR := hide hr
  clear hr
  go_enter Try.func16, Try.ntmps16
  go_wp2_with fail
  go_loop [5] (fun i => ∃ k : Nat, k ≤ n ∧ i = .int .i64 k ∧ Hid (r = atI s k (xs.drop k))) (fun i => n - (intOf i).toNat)
  case atStart => exact ⟨0, by omega, rfl, hide (unhide HR)⟩
  case round =>
    obtain ⟨k, hk, rfl, HI⟩ := hrel
    by_cases hlt : k < n
    · obtain ⟨x, hx⟩ : ∃ x, xs[k]? = some x := ⟨xs[k]'(by rw [← unhide HN]; exact hlt), List.getElem?_eq_getElem _⟩
      obtain ⟨b, off, rfl, hbb, c0, _, _, _⟩ := box_at (unhide HX) hx
      have hst := atI_at s xs k x hx
      rw [← unhide HI, named_bytes] at hst
      have HS := hide hst
      clear hst hx
      cases h1 : (x.name.toList == s.toList)
      all_goals
        have hst := unhide HS
        rw [h1] at hst
        clear HS
        have HS := hide hst
        clear hst
        go_wp2_with fail
      · go_round
        case rel => exact ⟨k + 1, by omega, by go_num, hide (unhide HS)⟩
        case measure => simp [intOf]; omega
      · go_ret
        exact ⟨ret_int (unhide HS).symm, rfl⟩
    · have hend : r = -1 := by rw [unhide HI, List.drop_eq_nil_of_le (by rw [← unhide HN]; omega)]; rfl
      have HE := hide hend
      clear hend
      go_wp2_with fail
      go_ret
      exact ⟨ret_int (unhide HE).symm, rfl⟩

set_option maxHeartbeats 1000000 in
theorem RUsed_any (xs : List Bx) (A : Option Addr) (n c : Nat) (w : World) (hn : n = xs.length) (hlen : n ≤ 4096) (hx : ListIn bxR w w.heap.size A xs) (hd : ∀ x ∈ xs, 0 ≤ x.duty ∧ x.duty ≤ 1099511627776) :
    Calls Try.prog 25 #[.slice A n c] w fun e w' => e = .returned (.int .i64 (used xs)) ∧ w = w' := by
  have HN := hide hn
  have HX := hide hx
  have HD := hide hd
  clear hn hx hd
  obtain ⟨r, hr⟩ : ∃ r, r = used xs := ⟨_, rfl⟩
  rw [← hr]
  have HR := hide hr
  clear hr
  go_enter Try.func25, Try.ntmps25
  go_wp2_with fail
  go_loop [3, 4] (fun v i => ∃ k : Nat, k ≤ n ∧ i = .int .i64 k ∧ v = .int .i64 (used (xs.take k))) (fun _ i => n - (intOf i).toNat)
  case atStart => exact ⟨0, by omega, rfl, rfl⟩
  case round =>
    obtain ⟨k, hk, rfl, rfl⟩ := hrel
    by_cases hlt : k < n
    · obtain ⟨x, hx⟩ : ∃ x, xs[k]? = some x := ⟨xs[k]'(by rw [← unhide HN]; exact hlt), List.getElem?_eq_getElem _⟩
      obtain ⟨b, off, rfl, hbb, _, c1, _, c3⟩ := box_at (unhide HX) hx
      have hst := used_take xs k x hx
      have hb := used_bd (xs.take k) (fun y hy => unhide HD y (List.mem_of_mem_take hy))
      have hb2 : used (xs.take k) ≤ 4503599627370496 := by
        have : ((xs.take k).length : Int) ≤ 4096 := by have := List.length_take_le k xs; omega
        omega
      have hxd := unhide HD x (List.mem_of_getElem? hx)
      obtain ⟨u, hu⟩ : ∃ u, u = used (xs.take k) := ⟨_, rfl⟩
      rw [← hu] at hst hb hb2 ⊢
      have hwr : IntKind.i64.wrap (u + x.duty) = u + x.duty := IntWalk.i64_in _ (by omega)
      have HS := hide hst
      clear hst hb hb2 hxd hx hu
      unfold Bx.use at HS
      by_cases hs0 : x.state = 0
      · have hs0' : decide (x.state = 0) = true := by rw [decide_eq_true_eq]; exact hs0
        have hs1 : (x.state == 0) = true := by simpa using hs0
        rw [if_pos hs0] at HS
        clear hs0
        go_wp2_with fail
        go_round
        case rel => exact ⟨k + 1, by omega, by go_num, by rw [unhide HS]⟩
        case measure => simp [intOf]; omega
      · have hs0' : decide (x.state = 0) = false := by rw [decide_eq_false_iff_not]; exact hs0
        have hs1 : (x.state == 0) = false := by simpa using hs0
        rw [if_neg hs0] at HS
        clear hs0
        go_wp2_with fail
        go_round
        case rel => exact ⟨k + 1, by omega, by go_num, by rw [unhide HS, Int.add_zero]⟩
        case measure => simp [intOf]; omega
    · have hend : r = used (xs.take k) := by rw [unhide HR, List.take_of_length_le (by rw [← unhide HN]; omega)]
      have HE := hide hend
      clear hend
      go_wp2_with fail
      go_ret
      exact ⟨ret_int (unhide HE).symm, rfl⟩

set_option maxHeartbeats 1000000 in
theorem Limit_any (n : Int) (w : World) :
    Calls Try.prog 20 #[.int .i64 n] w fun e w' => e = .returned (.int .i64 (limI n)) ∧ w = w' := by
  obtain ⟨l, hl⟩ : ∃ l, l = limI n := ⟨_, rfl⟩
  rw [← hl]
  unfold limI at hl
  go_enter Try.func20, Try.ntmps20
  by_cases h1 : n < 0
  · rw [if_pos h1] at hl
    subst hl
    go_wp2_with fail
    all_goals (go_ret; exact ⟨rfl, rfl⟩)
  · rw [if_neg h1] at hl
    by_cases h2 : 1099511627776 < n
    · rw [if_pos h2] at hl
      subst hl
      go_wp2_with fail
      all_goals (go_ret; exact ⟨rfl, rfl⟩)
    · rw [if_neg h2] at hl
      subst hl
      go_wp2_with fail
      all_goals (go_ret; exact ⟨rfl, rfl⟩)

set_option maxHeartbeats 1000000 in
theorem open_any (xs : List Bx) (A : Option Addr) (n c : Nat) (s : ByteArray) (w : World) (hn : n = xs.length) (hlen : n ≤ 4096) (hx : ListIn bxR w w.heap.size A xs) :
    Calls Try.prog 58 #[.slice A n c, .string s] w fun e w' => e = .returned (.tuple #[.int .i64 (atI s 0 xs), .int .i64 (opE xs s)]) ∧ w = w' := by
  have H1 := hide (At_any xs A n c s w hn hlen hx)
  cases hf : xs.find? (named s) with
  | none =>
    have ho : opE xs s = 4 := by unfold opE; rw [hf]
    rw [atI_none s xs 0 hf] at H1 ⊢
    rw [ho]
    clear ho hf hx hn
    go_enter Try.func58, Try.ntmps58
    go_wp2_with fail
    (with_reducible refine (unhide H1).mono ?_); rintro e w1 ⟨rfl, rfl⟩
    go_wp2_with fail
    go_ret2
    exact ⟨rfl, rfl⟩
  | some x =>
    obtain ⟨i, h1, h2, h3⟩ := atI_some s xs 0 x hf
    rw [h1, Nat.zero_add] at H1 ⊢
    have ho : opE xs s = if x.state = 0 then 0 else 9 := by unfold opE; rw [hf]
    obtain ⟨b, off, rfl, hbb, _, _, _, c3⟩ := box_at hx h3
    rw [← hn] at h2
    clear h1 h3 hf hx hn
    by_cases hs0 : x.state = 0
    · rw [if_pos hs0] at ho
      rw [ho]
      have hs0' : decide (x.state = 0) = true := by rw [decide_eq_true_eq]; exact hs0
      have hs1 : (x.state != 0) = false := by simpa using hs0
      clear hs0 ho
      go_enter Try.func58, Try.ntmps58
      go_wp2_with fail
      (with_reducible refine (unhide H1).mono ?_); rintro e w1 ⟨rfl, rfl⟩
      go_wp2_with fail
      go_ret2
      exact ⟨rfl, rfl⟩
    · rw [if_neg hs0] at ho
      rw [ho]
      have hs0' : decide (x.state = 0) = false := by rw [decide_eq_false_iff_not]; exact hs0
      have hs1 : (x.state != 0) = true := by simpa using hs0
      clear hs0 ho
      go_enter Try.func58, Try.ntmps58
      go_wp2_with fail
      (with_reducible refine (unhide H1).mono ?_); rintro e w1 ⟨rfl, rfl⟩
      go_wp2_with fail
      go_ret2
      exact ⟨rfl, rfl⟩
end Go.Proofs.Ytgalpdjmmpjddaa
