/- Walks: may a text be an account's name, a currency? -/
import Derived.Test.YtjihkoleipkgmaaLgP
import Derived.Shelf.Abstract
namespace Go.Proofs.Ytjihkoleipkgmaa
set_option linter.unusedVariables false
set_option linter.unusedSimpArgs false
open Go.RowKit

theorem allP_succ (p : UInt8 → Bool) (s : ByteArray) (k : Nat) (h : k < s.size) : (s.data.toList.take (k + 1)).all p = ((s.data.toList.take k).all p && p s[k]) := by
  have e : s.data.toList.take (k + 1) = s.data.toList.take k ++ [s[k]] := by
    rw [List.take_succ_eq_append_getElem (by simpa using h)]; rfl
  rw [e, List.all_append]; simp
theorem notP_all (p : UInt8 → Bool) (s : ByteArray) (k : Nat) (h : k < s.size) (hc : p s[k] = false) : s.data.toList.all p = false := by
  rw [List.all_eq_false]
  exact ⟨s[k], by have : s[k] = s.data.toList[k]'(by simpa using h) := rfl
                  rw [this]; exact List.getElem_mem _, by simp [hc]⟩
theorem allP_full (p : UInt8 → Bool) (s : ByteArray) (k : Nat) (h : ¬ k < s.size) : (s.data.toList.take k).all p = s.data.toList.all p := by
  rw [List.take_of_length_le (by simp; omega)]
theorem below_iter (w : World) (s : ByteArray) (k : Nat) : Below w.heap.size w (w.iter s k) := (Below.refl _ _).alloc (Nat.le_refl _) _

set_option maxHeartbeats 1000000 in
/-- which letter is met first that is odd; -1: none: whatever test of one letter -/
theorem indexFunc_any (fn : FuncId) (pI : Int → Bool) (pC : UInt8 → Bool) (hby : ∀ c : UInt8, pI c.toNat = pC c) (hhi : ∀ c : Int, 128 ≤ c → pI c = false)
    (hen : ∀ args W, (callFunc fn args).run Try.prog W = .ok (.enter fn args) W) (hfn : ∀ (c : Int) (W : World), Calls Try.prog fn #[.int .i32 c] W fun e W' => e = .returned (.bool (!pI c)) ∧ W = W')
    (s : ByteArray) (w : World) (hs : s.size ≤ maxLen) :
    Calls Try.prog 76 #[.string s, .func (.func fn) #[] #[], .bool true] w fun e w' => ∃ i : Int, e = .returned (.int .i64 i) ∧ decide (i < 0) = s.data.toList.all pC ∧ Below w.heap.size w w' := by
  unfold maxLen at hs
  have HB := hide hby; have HH := hide hhi; have HF := hide hfn
  clear hby hhi hfn
  go_enter Try.func76, Try.ntmps76
  go_wp2
  go_loopw [] (fun wr => ∃ k : Nat, k ≤ s.size ∧ wr = w.iter s k ∧ Hid ((s.data.toList.take k).all pC = true)) (fun wr => s.size - wr.iterPos w.heap.size)
  case atStart => exact ⟨0, Nat.zero_le _, rfl, Lib.hid rfl⟩
  case round =>
    obtain ⟨k, hk, rfl, HT⟩ := hrel
    by_cases hlt : k < s.size
    · have hb : s[k].toNat < 256 := s[k].toNat_lt
      by_cases ha : s[k].toNat < 128
      · have hnx := fun ty => run_next_ascii (P := Try.prog) w s k ty hlt ha
        have ho := unhide HB s[k]
        cases hc : pC s[k]
        all_goals
          rw [hc] at ho
          go_wp2_with fail
          (with_reducible refine (unhide HF _ _).mono ?_); rintro e w' ⟨rfl, rfl⟩
          go_wp2_with fail
        · go_ret
          exact ⟨_, rfl, by rw [notP_all pC s k hlt hc]; simp, below_iter _ _ _⟩
        · go_roundw
          case rel => exact ⟨k + 1, by omega, rfl, Lib.hid (by rw [allP_succ pC s k hlt, HT.out, hc]; rfl)⟩
          case measure => simp; omega
      · have hnx := fun ty => run_next_any (P := Try.prog) w s k ty hlt
        have hd := (decode_high s k hlt (by omega)).1
        have ho : pI ((Utf8.decode s k).1 : Int) = false := unhide HH _ (by omega)
        have hc : pC s[k] = false := by rw [← unhide HB]; exact unhide HH _ (by omega)
        go_wp2_with fail
        (with_reducible refine (unhide HF _ _).mono ?_); rintro e w' ⟨rfl, rfl⟩
        go_wp2_with fail
        go_ret
        exact ⟨_, rfl, by rw [notP_all pC s k hlt hc]; simp, below_iter _ _ _⟩
    · have hnx := fun ty => run_next_end (P := Try.prog) w s k ty hlt
      have hall := allP_full pC s k hlt
      rw [HT.out] at hall
      have HA := Lib.hid hall; clear hall
      go_wp2_with fail
      go_ret
      exact ⟨_, rfl, by rw [← HA.out]; simp, below_iter _ _ _⟩

def okI (c : Int) : Bool := (decide (97 ≤ c) && decide (c ≤ 122)) || (decide (48 ≤ c) && decide (c ≤ 57)) || decide (c = 45) || decide (c = 58)
def okUI (c : Int) : Bool := decide (65 ≤ c) && decide (c ≤ 90)
theorem okI_byte (c : UInt8) : okI (c.toNat : Int) = okC c := by
  unfold okI okC; rw [Bool.eq_iff_iff]; simp; omega
theorem okI_high (c : Int) (h : 128 ≤ c) : okI c = false := by
  unfold okI; rw [Bool.eq_false_iff]; simp; omega
theorem okUI_byte (c : UInt8) : okUI (c.toNat : Int) = okU c := by
  unfold okUI okU; rw [Bool.eq_iff_iff]; simp; omega
theorem okUI_high (c : Int) (h : 128 ≤ c) : okUI c = false := by
  unfold okUI; rw [Bool.eq_false_iff]; simp; omega
set_option maxHeartbeats 1000000 in
theorem name1_any (c : Int) (w : World) :
    Calls Try.prog 58 #[.int .i32 c] w fun e w' => e = .returned (.bool (!okI c)) ∧ w = w' := by
  go_enter Try.func58, Try.ntmps58
  go_wp2
  all_goals (go_ret; refine ⟨ret_bool ?_, rfl⟩; unfold okI; rw [Bool.eq_iff_iff]; first | (simp; omega) | (simp; done))
set_option maxHeartbeats 1000000 in
theorem cur1_any (c : Int) (w : World) :
    Calls Try.prog 60 #[.int .i32 c] w fun e w' => e = .returned (.bool (!okUI c)) ∧ w = w' := by
  go_enter Try.func60, Try.ntmps60
  go_wp2
  all_goals (go_ret; refine ⟨ret_bool ?_, rfl⟩; unfold okUI; rw [Bool.eq_iff_iff]; first | (simp; omega) | (simp; done))

section
set_option maxHeartbeats 1000000
theorem idxName_any (s : ByteArray) (w : World) (hs : s.size ≤ maxLen) :
    Calls Try.prog 59 #[.string s, .func (.func 58) #[] #[]] w fun e w' => ∃ i : Int, e = .returned (.int .i64 i) ∧ decide (i < 0) = s.data.toList.all okC ∧ Below w.heap.size w w' := by
  have H := hide (fun W => indexFunc_any 58 okI okC okI_byte okI_high (enters_of Try.func58 (by kernel_rfl) rfl) name1_any s W hs)
  clear hs
  go_enter Try.func59, Try.ntmps59
  go_wp2_with fail
  (with_reducible refine (unhide H _).mono ?_); rintro e w1 ⟨i, rfl, hi, hb⟩
  have HF := hide (And.intro hi hb)
  clear hi hb
  go_wp2_with fail
  go_ret
  exact ⟨_, rfl, (unhide HF).1, (unhide HF).2⟩
theorem idxCur_any (s : ByteArray) (w : World) (hs : s.size ≤ maxLen) :
    Calls Try.prog 59 #[.string s, .func (.func 60) #[] #[]] w fun e w' => ∃ i : Int, e = .returned (.int .i64 i) ∧ decide (i < 0) = s.data.toList.all okU ∧ Below w.heap.size w w' := by
  have H := hide (fun W => indexFunc_any 60 okUI okU okUI_byte okUI_high (enters_of Try.func60 (by kernel_rfl) rfl) cur1_any s W hs)
  clear hs
  go_enter Try.func59, Try.ntmps59
  go_wp2_with fail
  (with_reducible refine (unhide H _).mono ?_); rintro e w1 ⟨i, rfl, hi, hb⟩
  have HF := hide (And.intro hi hb)
  clear hi hb
  go_wp2_with fail
  go_ret
  exact ⟨_, rfl, (unhide HF).1, (unhide HF).2⟩
theorem name_any (s : ByteArray) (w : World) (hs : s.size ≤ maxLen) :
    Calls Try.prog 31 #[.string s] w fun e w' => e = .returned (.bool (okName s)) ∧ Below w.heap.size w w' := by
  have hdef : okName s = (decide (1 ≤ s.size) && decide (s.size ≤ 32) && s.data.toList.all okC) := rfl
  have HI := hide (fun W => idxName_any s W hs)
  obtain ⟨b, hb⟩ : ∃ b, b = s.data.toList.all okC := ⟨_, rfl⟩
  rw [← hb] at hdef HI
  obtain ⟨r, hr⟩ : ∃ r, r = okName s := ⟨_, rfl⟩
  rw [← hr] at hdef ⊢
  have HD := hide hdef
  clear hb hr hdef hs
  by_cases h1 : 1 ≤ s.size
  · by_cases h2 : s.size ≤ 32
    · have HE := hide (show r = b by rw [unhide HD, decide_eq_true h1, decide_eq_true h2]; rfl)
      go_enter Try.func31, Try.ntmps31
      go_wp2_with fail
      (with_reducible refine (unhide HI _).mono ?_); rintro e w1 ⟨i, rfl, hi, hb⟩
      have HF := hide (And.intro hi hb)
      clear hi hb
      go_wp2_with fail
      go_ret
      exact ⟨ret_bool ((unhide HF).1.trans (unhide HE).symm), (unhide HF).2⟩
    · have HE := hide (show r = false by rw [unhide HD, decide_eq_false h2, Bool.and_false]; rfl)
      go_enter Try.func31, Try.ntmps31
      go_wp2_with fail
      go_ret
      exact ⟨ret_bool (unhide HE).symm, Below.refl _ _⟩
  · have HE := hide (show r = false by rw [unhide HD, decide_eq_false h1]; rfl)
    go_enter Try.func31, Try.ntmps31
    go_wp2_with fail
    go_ret
    exact ⟨ret_bool (unhide HE).symm, Below.refl _ _⟩
theorem cur_any (s : ByteArray) (w : World) (hs : s.size ≤ maxLen) :
    Calls Try.prog 34 #[.string s] w fun e w' => e = .returned (.bool (okCur s)) ∧ Below w.heap.size w w' := by
  have hdef : okCur s = (decide (s.size = 3) && s.data.toList.all okU) := rfl
  have HI := hide (fun W => idxCur_any s W hs)
  obtain ⟨b, hb⟩ : ∃ b, b = s.data.toList.all okU := ⟨_, rfl⟩
  rw [← hb] at hdef HI
  obtain ⟨r, hr⟩ : ∃ r, r = okCur s := ⟨_, rfl⟩
  rw [← hr] at hdef ⊢
  have HD := hide hdef
  clear hb hr hdef hs
  by_cases h1 : s.size = 3
  · have q1 : ((s.size : Int) == 3) = true := by simp; omega
    have q2 : (s.size == 3) = true := by simpa using h1
    have HE := hide (show r = b by rw [unhide HD, decide_eq_true h1]; rfl)
    clear h1
    go_enter Try.func34, Try.ntmps34
    go_wp2_with fail
    (with_reducible refine (unhide HI _).mono ?_); rintro e w1 ⟨i, rfl, hi, hb⟩
    have HF := hide (And.intro hi hb)
    clear hi hb
    go_wp2_with fail
    go_ret
    exact ⟨ret_bool ((unhide HF).1.trans (unhide HE).symm), (unhide HF).2⟩
  · have q1 : ((s.size : Int) == 3) = false := by simp; omega
    have q2 : (s.size == 3) = false := by simpa using h1
    have HE := hide (show r = false by rw [unhide HD, decide_eq_false h1]; rfl)
    clear h1
    go_enter Try.func34, Try.ntmps34
    go_wp2_with fail
    go_ret
    exact ⟨ret_bool (unhide HE).symm, Below.refl _ _⟩
end
end Go.Proofs.Ytjihkoleipkgmaa
