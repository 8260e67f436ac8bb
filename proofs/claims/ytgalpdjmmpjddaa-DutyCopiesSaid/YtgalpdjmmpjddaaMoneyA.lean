/- Walks: the small functions on money (the program's, and the reference's). -/
import Derived.Test.YtgalpdjmmpjddaaNameD
namespace Go.Proofs.Ytgalpdjmmpjddaa
set_option linter.unusedVariables false
set_option linter.unusedSimpArgs false
open Go.RowKit

/-- a great letter -/
def okL (c : UInt8) : Bool := decide (65 ≤ c.toNat) && decide (c.toNat ≤ 90)
def okCur (s : ByteArray) : Bool := decide (s.size = 3) && s.data.toList.all okL

theorem allL_take_succ (s : ByteArray) (k : Nat) (h : k < s.size) : (s.data.toList.take (k + 1)).all okL = ((s.data.toList.take k).all okL && okL s[k]) := by
  have e : s.data.toList.take (k + 1) = s.data.toList.take k ++ [s[k]] := by
    rw [List.take_succ_eq_append_getElem (by simpa using h)]; rfl
  rw [e, List.all_append]; simp
theorem not_allL (s : ByteArray) (k : Nat) (h : k < s.size) (hc : okL s[k] = false) : s.data.toList.all okL = false := by
  rw [List.all_eq_false]
  exact ⟨s[k], by have : s[k] = s.data.toList[k]'(by simpa using h) := rfl
                  rw [this]; exact List.getElem_mem _, by simp [hc]⟩
theorem allL_of_take (s : ByteArray) (k : Nat) (h : ¬ k < s.size) : (s.data.toList.take k).all okL = s.data.toList.all okL := by
  rw [List.take_of_length_le (by simp; omega)]

set_option maxHeartbeats 1000000 in
theorem Currency_any (s : ByteArray) (w : World) (hs : s.size ≤ maxLen) :
    Calls Try.prog 71 #[.string s] w fun e w' => e = .returned (.bool (okCur s)) ∧ w = w' := by
  unfold maxLen at hs
  go_enter Try.func71, Try.ntmps71
  by_cases h3 : s.size = 3
  · have h3' : decide ((s.size : Int) = 3) = true := by rw [decide_eq_true_eq]; omega
    go_wp2
    go_loop [3] (fun i => ∃ k : Nat, k ≤ s.size ∧ i = .int .i64 k ∧ Hid ((s.data.toList.take k).all okL = true)) (fun i => s.size - (intOf i).toNat)
    case atStart => exact ⟨0, Nat.zero_le _, rfl, Lib.hid rfl⟩
    case round =>
      obtain ⟨k, hk, rfl, HT⟩ := hrel
      by_cases hlt : k < s.size
      · have hb : s[k].toNat < 256 := s[k].toNat_lt
        go_wp2
        all_goals first
          | (go_ret
             have hc : okL s[k] = false := by simp_all [okL]; omega
             refine ⟨ret_bool ?_, rfl⟩
             simp only [okCur, not_allL s k hlt hc, Bool.and_false])
          | (have hc : okL s[k] = true := by simp_all [okL]; omega
             go_round
             case rel => exact ⟨k + 1, by omega, by go_num, Lib.hid (by rw [allL_take_succ s k hlt, HT.out, hc]; rfl)⟩
             case measure => simp [intOf]; omega)
      · have hall := allL_of_take s k hlt
        rw [HT.out] at hall
        have HA := Lib.hid hall; clear hall
        go_wp2
        all_goals (go_ret; refine ⟨ret_bool ?_, rfl⟩; rw [okCur, ← HA.out, Bool.eq_iff_iff]; simp; omega)
  · have h3' : decide ((s.size : Int) = 3) = false := by rw [decide_eq_false_iff_not]; omega
    go_wp2
    all_goals (go_ret; refine ⟨ret_bool ?_, rfl⟩; rw [okCur]; simp [h3])

def okLI (c : Int) : Bool := decide (65 ≤ c) && decide (c ≤ 90)
theorem okLI_byte (c : UInt8) : okLI (c.toNat : Int) = okL c := by
  unfold okLI okL; rw [Bool.eq_iff_iff]; simp; omega
theorem okLI_high (c : Int) (h : 128 ≤ c) : okLI c = false := by
  unfold okLI; rw [Bool.eq_false_iff]; simp; omega

set_option maxHeartbeats 1000000 in
/-- the program's test of one letter: is it odd? -/
theorem currency1_any (c : Int) (w : World) :
    Calls Try.prog 84 #[.int .i32 c] w fun e w' => e = .returned (.bool (!okLI c)) ∧ w = w' := by
  go_enter Try.func84, Try.ntmps84
  go_wp2
  all_goals (go_ret; refine ⟨ret_bool ?_, rfl⟩; unfold okLI; rw [Bool.eq_iff_iff]; first | (simp; omega) | (simp; done))


set_option maxHeartbeats 1000000 in
/-- which letter is met first that is none of a name; -1: none -/
theorem indexFuncL_any (s : ByteArray) (w : World) (hs : s.size ≤ maxLen) :
    Calls Try.prog 83 #[.string s, .func (.func 84) #[] #[], .bool true] w fun e w' => ∃ i : Int, e = .returned (.int .i64 i) ∧ decide (0 ≤ i) = !s.data.toList.all okL ∧ Below w.heap.size w w' := by
  unfold maxLen at hs
  go_enter Try.func83, Try.ntmps83
  go_wp2
  go_loopw [] (fun wr => ∃ k : Nat, k ≤ s.size ∧ wr = w.iter s k ∧ Hid ((s.data.toList.take k).all okL = true)) (fun wr => s.size - wr.iterPos w.heap.size)
  case atStart => exact ⟨0, Nat.zero_le _, rfl, Lib.hid rfl⟩
  case round =>
    obtain ⟨k, hk, rfl, HT⟩ := hrel
    by_cases hlt : k < s.size
    · have hb : s[k].toNat < 256 := s[k].toNat_lt
      by_cases ha : s[k].toNat < 128
      · have hnx := fun ty => run_next_ascii (P := Try.prog) w s k ty hlt ha
        have ho := okLI_byte s[k]
        cases hc : okL s[k]
        all_goals
          rw [hc] at ho
          go_wp2_with (go_at_call 84; refine (currency1_any _ _).mono ?_; rintro e w' ⟨rfl, rfl⟩)
        · go_ret
          exact ⟨_, rfl, by rw [not_allL s k hlt hc]; simp, below_iter _ _ _⟩
        · go_roundw
          case rel => exact ⟨k + 1, by omega, rfl, Lib.hid (by rw [allL_take_succ s k hlt, HT.out, hc]; rfl)⟩
          case measure => simp; omega
      · have hnx := fun ty => run_next_any (P := Try.prog) w s k ty hlt
        have hd := (decode_high s k hlt (by omega)).1
        have ho : okLI ((Utf8.decode s k).1 : Int) = false := okLI_high _ (by omega)
        have hc : okL s[k] = false := by rw [← okLI_byte]; exact okLI_high _ (by omega)
        go_wp2_with (go_at_call 84; refine (currency1_any _ _).mono ?_; rintro e w' ⟨rfl, rfl⟩)
        go_ret
        exact ⟨_, rfl, by rw [not_allL s k hlt hc]; simp, below_iter _ _ _⟩
    · have hnx := fun ty => run_next_end (P := Try.prog) w s k ty hlt
      have hall := allL_of_take s k hlt
      rw [HT.out] at hall
      have HA := Lib.hid hall; clear hall
      go_wp2_with fail
      go_ret
      exact ⟨_, rfl, by rw [← HA.out]; simp, below_iter _ _ _⟩

set_option maxHeartbeats 1000000 in
theorem currency_any (s : ByteArray) (w : World) (hs : s.size ≤ maxLen) :
    Calls Try.prog 67 #[.string s] w fun e w' => e = .returned (.bool (okCur s)) ∧ Below w.heap.size w w' := by
  have hi0 := indexFuncL_any s w hs
  obtain ⟨b, hb⟩ : ∃ b, b = s.data.toList.all okL := ⟨_, rfl⟩
  have hdef : okCur s = (decide (s.size = 3) && b) := by rw [hb]; rfl
  rw [← hb] at hi0
  have HD := Lib.hid hdef; clear hdef hb
  have HI := hide hi0; clear hi0
  go_enter Try.func67, Try.ntmps67
  by_cases h3 : s.size = 3
  · have h3' : decide ((s.size : Int) = 3) = true := by rw [decide_eq_true_eq]; omega
    go_wp2_with (first | (go_at_call 83; refine (unhide HI).mono ?_; rintro e w' ⟨i, rfl, hi, hb⟩) | go_in)
    all_goals
      go_ret
      refine ⟨ret_bool ?_, by first | assumption | exact Below.refl _ _⟩
      rw [HD.out]; simp_all <;> (intros; omega)
  · have h3' : decide ((s.size : Int) = 3) = false := by rw [decide_eq_false_iff_not]; omega
    go_wp2_with (first | (go_at_call 83; refine (unhide HI).mono ?_; rintro e w' ⟨i, rfl, hi, hb⟩) | go_in)
    all_goals
      go_ret
      refine ⟨ret_bool ?_, by first | assumption | exact Below.refl _ _⟩
      rw [HD.out]; simp [h3]
end Go.Proofs.Ytgalpdjmmpjddaa
