/- Walks: a text that is a name (the program's, and the reference's). -/
import Derived.Test.YtgalpdjmmpjddaaBase
namespace Go.Proofs.Ytgalpdjmmpjddaa
set_option linter.unusedVariables false
set_option linter.unusedSimpArgs false
open Go.RowKit

/-- a letter of a name -/
def okC (c : UInt8) : Bool := (decide (97 ≤ c.toNat) && decide (c.toNat ≤ 122)) || (decide (48 ≤ c.toNat) && decide (c.toNat ≤ 57)) || decide (c.toNat = 45)
def okName (s : ByteArray) : Bool := decide (1 ≤ s.size) && decide (s.size ≤ 16) && s.data.toList.all okC

theorem all_take_succ (s : ByteArray) (k : Nat) (h : k < s.size) : (s.data.toList.take (k + 1)).all okC = ((s.data.toList.take k).all okC && okC s[k]) := by
  have e : s.data.toList.take (k + 1) = s.data.toList.take k ++ [s[k]] := by
    rw [List.take_succ_eq_append_getElem (by simpa using h)]; rfl
  rw [e, List.all_append]; simp
theorem not_all (s : ByteArray) (k : Nat) (h : k < s.size) (hc : okC s[k] = false) : s.data.toList.all okC = false := by
  rw [List.all_eq_false]
  exact ⟨s[k], by have : s[k] = s.data.toList[k]'(by simpa using h) := rfl
                  rw [this]; exact List.getElem_mem _, by simp [hc]⟩
theorem all_of_take (s : ByteArray) (k : Nat) (h : ¬ k < s.size) : (s.data.toList.take k).all okC = s.data.toList.all okC := by
  rw [List.take_of_length_le (by simp; omega)]

set_option maxHeartbeats 1000000 in
theorem Name_any (s : ByteArray) (w : World) (hs : s.size ≤ maxLen) :
    Calls Try.prog 31 #[.string s] w fun e w' => e = .returned (.bool (okName s)) ∧ w = w' := by
  unfold maxLen at hs
  go_enter Try.func31, Try.ntmps31
  go_wp2
  go_loop [3] (fun i => ∃ k : Nat, k ≤ s.size ∧ i = .int .i64 k ∧ Hid ((s.data.toList.take k).all okC = true)) (fun i => s.size - (intOf i).toNat)
  case atStart => exact ⟨0, Nat.zero_le _, rfl, Lib.hid rfl⟩
  case round =>
    obtain ⟨k, hk, rfl, HT⟩ := hrel
    by_cases hlt : k < s.size
    · have hb : s[k].toNat < 256 := s[k].toNat_lt
      go_wp2
      all_goals first
        | (go_ret
           have hc : okC s[k] = false := by simp_all [okC]; omega
           refine ⟨ret_bool ?_, rfl⟩
           simp only [okName, not_all s k hlt hc, Bool.and_false])
        | (have hc : okC s[k] = true := by simp_all [okC]; omega
           go_round
           case rel => exact ⟨k + 1, by omega, by go_num, Lib.hid (by rw [all_take_succ s k hlt, HT.out, hc]; rfl)⟩
           case measure => simp [intOf]; omega)
    · have hall := all_of_take s k hlt
      rw [HT.out] at hall
      have HA := Lib.hid hall; clear hall
      go_wp2
      all_goals (go_ret; refine ⟨ret_bool ?_, rfl⟩; rw [okName, ← HA.out, Bool.eq_iff_iff]; simp; omega)


/-- the same, asked of a number -/
def okI (c : Int) : Bool := (decide (97 ≤ c) && decide (c ≤ 122)) || (decide (48 ≤ c) && decide (c ≤ 57)) || decide (c = 45)
theorem okI_byte (c : UInt8) : okI (c.toNat : Int) = okC c := by
  unfold okI okC; rw [Bool.eq_iff_iff]; simp; omega
theorem okI_high (c : Int) (h : 128 ≤ c) : okI c = false := by
  unfold okI; rw [Bool.eq_false_iff]; simp; omega

set_option maxHeartbeats 1000000 in
/-- the program's test of one letter: is it odd? -/
theorem name1_any (c : Int) (w : World) :
    Calls Try.prog 49 #[.int .i32 c] w fun e w' => e = .returned (.bool (!okI c)) ∧ w = w' := by
  go_enter Try.func49, Try.ntmps49
  go_wp2
  all_goals (go_ret; refine ⟨ret_bool ?_, rfl⟩; unfold okI; rw [Bool.eq_iff_iff]; first | (simp; omega) | (simp; done))

theorem below_iter (w : World) (s : ByteArray) (k : Nat) : Below w.heap.size w (w.iter s k) := (Below.refl _ _).alloc (Nat.le_refl _) _

set_option maxHeartbeats 1000000 in
/-- which letter is met first that is none of a name; -1: none -/
theorem indexFunc_any (s : ByteArray) (w : World) (hs : s.size ≤ maxLen) :
    Calls Try.prog 83 #[.string s, .func (.func 49) #[] #[], .bool true] w fun e w' => ∃ i : Int, e = .returned (.int .i64 i) ∧ decide (0 ≤ i) = !s.data.toList.all okC ∧ Below w.heap.size w w' := by
  unfold maxLen at hs
  go_enter Try.func83, Try.ntmps83
  go_wp2
  go_loopw [] (fun wr => ∃ k : Nat, k ≤ s.size ∧ wr = w.iter s k ∧ Hid ((s.data.toList.take k).all okC = true)) (fun wr => s.size - wr.iterPos w.heap.size)
  case atStart => exact ⟨0, Nat.zero_le _, rfl, Lib.hid rfl⟩
  case round =>
    obtain ⟨k, hk, rfl, HT⟩ := hrel
    by_cases hlt : k < s.size
    · have hb : s[k].toNat < 256 := s[k].toNat_lt
      by_cases ha : s[k].toNat < 128
      · have hnx := fun ty => run_next_ascii (P := Try.prog) w s k ty hlt ha
        have ho := okI_byte s[k]
        cases hc : okC s[k]
        all_goals
          rw [hc] at ho
          go_wp2_with (go_at_call 49; refine (name1_any _ _).mono ?_; rintro e w' ⟨rfl, rfl⟩)
        · go_ret
          exact ⟨_, rfl, by rw [not_all s k hlt hc]; simp, below_iter _ _ _⟩
        · go_roundw
          case rel => exact ⟨k + 1, by omega, rfl, Lib.hid (by rw [all_take_succ s k hlt, HT.out, hc]; rfl)⟩
          case measure => simp; omega
      · have hnx := fun ty => run_next_any (P := Try.prog) w s k ty hlt
        have hd := (decode_high s k hlt (by omega)).1
        have ho : okI ((Utf8.decode s k).1 : Int) = false := okI_high _ (by omega)
        have hc : okC s[k] = false := by rw [← okI_byte]; exact okI_high _ (by omega)
        go_wp2_with (go_at_call 49; refine (name1_any _ _).mono ?_; rintro e w' ⟨rfl, rfl⟩)
        go_ret
        exact ⟨_, rfl, by rw [not_all s k hlt hc]; simp, below_iter _ _ _⟩
    · have hnx := fun ty => run_next_end (P := Try.prog) w s k ty hlt
      have hall := all_of_take s k hlt
      rw [HT.out] at hall
      have HA := Lib.hid hall; clear hall
      go_wp2_with fail
      go_ret
      exact ⟨_, rfl, by rw [← HA.out]; simp, below_iter _ _ _⟩

theorem empty_iff (s : ByteArray) : s.toList.isEmpty = decide (s.size = 0) := by
  rw [ByteArray.toList_eq, Bool.eq_iff_iff]
  have e : s.data.toList.length = s.size := by rw [Array.length_toList]; rfl
  rw [decide_eq_true_eq, List.isEmpty_iff_length_eq_zero]; omega

set_option maxHeartbeats 1000000 in
theorem name_any (s : ByteArray) (w : World) (hs : s.size ≤ maxLen) :
    Calls Try.prog 30 #[.string s] w fun e w' => e = .returned (.bool (okName s)) ∧ Below w.heap.size w w' := by
  have he := empty_iff s
  have hdef : okName s = (decide (1 ≤ s.size) && decide (s.size ≤ 16) && s.data.toList.all okC) := rfl
  obtain ⟨b, hb⟩ : ∃ b, b = s.data.toList.all okC := ⟨_, rfl⟩
  rw [← hb] at hdef
  have hi0 := indexFunc_any s w hs
  rw [← hb] at hi0
  have HD := Lib.hid hdef; clear hdef hb
  by_cases h0 : s.size = 0
  · have he' : s.toList.isEmpty = true := by rw [he]; simp [h0]
    clear he
    go_enter Try.func30, Try.ntmps30
    go_wp2_with (fail)
    go_ret
    refine ⟨ret_bool ?_, Below.refl _ _⟩
    rw [HD.out, Bool.eq_iff_iff]; simp; omega
  · have he' : s.toList.isEmpty = false := by rw [he]; simp [h0]
    clear he
    have h0' : 1 ≤ s.size := by omega
    clear h0
    have HI := hide hi0; clear hi0
    go_enter Try.func30, Try.ntmps30
    go_wp2_with (first | (go_at_call 83; refine (unhide HI).mono ?_; rintro e w' ⟨i, rfl, hi, hb⟩) | go_in)
    all_goals
      go_ret
      refine ⟨ret_bool ?_, by first | assumption | exact Below.refl _ _⟩
      rw [HD.out]; simp_all <;> (intros; omega)
end Go.Proofs.Ytgalpdjmmpjddaa
