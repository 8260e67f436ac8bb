/- Walks: a text that is a name: the program's mark, the reference's. -/
import Derived.Test.YtgbheogmccfaaaaGreatClA
namespace Go.Proofs.YtgbheogmccfaaaaGreat
set_option linter.unusedVariables false
set_option linter.unusedSimpArgs false
open Go.RowKit

/-- a letter of a name -/
def okC (c : UInt8) : Bool := (decide (97 ≤ c.toNat) && decide (c.toNat ≤ 122)) || (decide (48 ≤ c.toNat) && decide (c.toNat ≤ 57)) || decide (c.toNat = 45)
def okName (s : ByteArray) : Bool := decide (1 ≤ s.size) && decide (s.size ≤ 16) && s.data.toList.all okC
theorem all_take_succ (s : ByteArray) (k : Nat) (h : k < s.size) : (s.data.toList.take (k + 1)).all okC = ((s.data.toList.take k).all okC && okC s[k]) := by
  have e : s.data.toList.take (k + 1) = s.data.toList.take k ++ [s[k]] := by
    rw [List.take_succ_eq_append_getElem (by simpa using h)]; rfl
  rw [e, List.all_append]; simp
theorem not_all (s : ByteArray) (k : Nat) (h : k < s.size) (hc : okC s[k] = false) : s.data.toList.all okC = false := by
  rw [List.all_eq_false]
  exact ⟨s[k], by have : s[k] = s.data.toList[k]'(by simpa using h) := rfl
                  rw [this]; exact List.getElem_mem _, by simp [hc]⟩
theorem all_of_take (s : ByteArray) (k : Nat) (h : ¬ k < s.size) : (s.data.toList.take k).all okC = s.data.toList.all okC := by
  rw [List.take_of_length_le (by simp; omega)]
def isL (c : Int) : Bool := decide (97 ≤ c) && decide (c ≤ 122)
def isD (c : Int) : Bool := decide (48 ≤ c) && decide (c ≤ 57)
theorem okC_eq (c : UInt8) : okC c = (isL (c.toNat : Int) || isD (c.toNat : Int) || decide ((c.toNat : Int) = 45)) := by
  unfold okC isL isD; rw [Bool.eq_iff_iff]; simp; omega

set_option maxHeartbeats 1000000 in
theorem letterR_any (c : Int) (w : World) : Calls Tryz.prog 81 #[.int .u8 c] w fun e w' => e = .returned (.bool (isL c)) ∧ w = w' := by
  go_enter Tryz.func81, Tryz.ntmps81
  go_wp2
  all_goals (go_ret; refine ⟨ret_bool ?_, rfl⟩; unfold isL; rw [Bool.eq_iff_iff]; first | (simp; omega) | (simp; done))
theorem digitR_any (c : Int) (w : World) : Calls Tryz.prog 82 #[.int .u8 c] w fun e w' => e = .returned (.bool (isD c)) ∧ w = w' := by
  go_enter Tryz.func82, Tryz.ntmps82
  go_wp2
  all_goals (go_ret; refine ⟨ret_bool ?_, rfl⟩; unfold isD; rw [Bool.eq_iff_iff]; first | (simp; omega) | (simp; done))
theorem lowerM_any (c : Int) (w : World) : Calls Tryz.prog 94 #[.int .u8 c] w fun e w' => e = .returned (.bool (isL c)) ∧ w = w' := by
  go_enter Tryz.func94, Tryz.ntmps94
  go_wp2
  all_goals (go_ret; refine ⟨ret_bool ?_, rfl⟩; unfold isL; rw [Bool.eq_iff_iff]; first | (simp; omega) | (simp; done))
theorem digitM_any (c : Int) (w : World) : Calls Tryz.prog 95 #[.int .u8 c] w fun e w' => e = .returned (.bool (isD c)) ∧ w = w' := by
  go_enter Tryz.func95, Tryz.ntmps95
  go_wp2
  all_goals (go_ret; refine ⟨ret_bool ?_, rfl⟩; unfold isD; rw [Bool.eq_iff_iff]; first | (simp; omega) | (simp; done))
theorem name1_any (c : UInt8) (w : World) : Calls Tryz.prog 93 #[.int .u8 c.toNat] w fun e w' => e = .returned (.bool (okC c)) ∧ w = w' := by
  rw [okC_eq]
  have hb : c.toNat < 256 := c.toNat_lt
  generalize c.toNat = x at *
  generalize h1 : isL (x : Int) = b1 at *
  generalize h2 : isD (x : Int) = b2 at *
  have L := hide (fun W => h1 ▸ lowerM_any (x : Int) W)
  have D := hide (fun W => h2 ▸ digitM_any (x : Int) W)
  clear h1 h2
  go_enter Tryz.func93, Tryz.ntmps93
  cases b1 <;> cases b2 <;> go_wp2_with (first | (go_at_call 94; (with_reducible refine (unhide L _).mono ?_); rintro e w' ⟨rfl, rfl⟩) | (go_at_call 95; (with_reducible refine (unhide D _).mono ?_); rintro e w' ⟨rfl, rfl⟩))
  all_goals (go_ret; refine ⟨ret_bool ?_, rfl⟩; rw [Bool.eq_iff_iff]; first | (simp; omega) | (simp; done))

set_option maxHeartbeats 2000000 in
theorem Name_any (s : ByteArray) (w : World) (hs : s.size ≤ maxLen) :
    Calls Tryz.prog 49 #[.string s] w fun e w' => e = .returned (.bool (okName s)) ∧ w = w' := by
  unfold maxLen at hs
  go_enter Tryz.func49, Tryz.ntmps49
  go_wp2_with fail
  go_loop [3] (fun i => ∃ k : Nat, k ≤ s.size ∧ i = .int .i64 k ∧ Hid ((s.data.toList.take k).all okC = true)) (fun i => s.size - (intOf i).toNat)
  case atStart => exact ⟨0, Nat.zero_le _, rfl, Lib.hid rfl⟩
  case round =>
    obtain ⟨k, hk, rfl, HT⟩ := hrel
    by_cases hlt : k < s.size
    · have hb : s[k].toNat < 256 := s[k].toNat_lt
      have hc := okC_eq s[k]
      have hn := not_all s k hlt
      have hst := all_take_succ s k hlt
      obtain ⟨x, hx⟩ : ∃ x : Nat, x = s[k].toNat := ⟨_, rfl⟩
      rw [← hx] at hc hb
      obtain ⟨b1, h1⟩ : ∃ b, b = isL (x : Int) := ⟨_, rfl⟩
      obtain ⟨b2, h2⟩ : ∃ b, b = isD (x : Int) := ⟨_, rfl⟩
      have L := hide (fun W => h1 ▸ letterR_any (x : Int) W)
      have D := hide (fun W => h2 ▸ digitR_any (x : Int) W)
      rw [← h1, ← h2] at hc
      have hx' := hx.symm
      have HC := hide hc; have HN := hide hn; have HS := hide hst
      clear hc hn hst h1 h2 hx
      cases b1 <;> cases b2 <;> go_wp2_with (first | (go_at_call 81; (with_reducible refine (unhide L _).mono ?_); rintro e w' ⟨rfl, rfl⟩) | (go_at_call 82; (with_reducible refine (unhide D _).mono ?_); rintro e w' ⟨rfl, rfl⟩))
      all_goals first
        | (go_ret
           have hc : okC s[k] = false := by rw [unhide HC]; first | (simp_all; done) | (simp_all; omega) | (simp; omega)
           refine ⟨ret_bool ?_, rfl⟩
           simp only [okName, unhide HN hc, Bool.and_false])
        | (have hc : okC s[k] = true := by rw [unhide HC]; first | (simp; done) | (simp_all; done) | (simp_all; omega) | (simp; omega)
           go_round
           case rel => exact ⟨k + 1, by omega, by go_num, Lib.hid (by rw [unhide HS, HT.out, hc]; rfl)⟩
           case measure => simp [intOf]; omega)
    · have hall := all_of_take s k hlt
      rw [HT.out] at hall
      have HA := Lib.hid hall; clear hall
      go_wp2_with fail
      all_goals (go_ret; refine ⟨ret_bool ?_, rfl⟩; rw [okName, ← HA.out, Bool.eq_iff_iff]; simp; omega)

set_option maxHeartbeats 2000000 in
theorem markAll_any (s : ByteArray) (w : World) (hs : s.size ≤ maxLen) :
    Calls Tryz.prog 92 #[.string s, .func (.func 93) #[] #[]] w fun e w' => e = .returned (.bool (s.data.toList.all okC)) ∧ w = w' := by
  unfold maxLen at hs
  obtain ⟨R, hR⟩ : ∃ R, R = s.data.toList.all okC := ⟨_, rfl⟩
  rw [← hR]
  have HR := hide hR
  clear hR
  have eg : ∀ args W, (callFunc 93 args).run Tryz.prog W = .ok (.enter 93 args) W := enters_of Tryz.func93 (by kernel_rfl) rfl
  go_enter Tryz.func92, Tryz.ntmps92
  go_wp2_with fail
  go_loop [8] (fun i => ∃ k : Nat, k ≤ s.size ∧ i = .int .i64 k ∧ Hid ((s.data.toList.take k).all okC = true)) (fun i => s.size - (intOf i).toNat)
  case atStart => exact ⟨0, Nat.zero_le _, rfl, Lib.hid rfl⟩
  case round =>
    obtain ⟨k, hk, rfl, HT⟩ := hrel
    by_cases hlt : k < s.size
    · have hb : s[k].toNat < 256 := s[k].toNat_lt
      have hn : okC s[k] = false → R = false := fun h => by rw [unhide HR]; exact not_all s k hlt h
      have hst := all_take_succ s k hlt
      have L := hide (fun W => name1_any s[k] W)
      have HN := hide hn; have HS := hide hst
      clear hn hst
      generalize hbk : okC s[k] = bk at *
      have HB := hide hbk
      clear hbk
      cases bk <;> go_wp2_with (go_at_call 93; (with_reducible refine (unhide L _).mono ?_); rintro e w' ⟨rfl, rfl⟩)
      · go_ret
        exact ⟨ret_bool (by first | exact (unhide HN rfl).symm | exact (unhide HN trivial).symm), rfl⟩
      · go_round
        case rel => exact ⟨k + 1, by omega, by go_num, Lib.hid (by rw [unhide HS, HT.out]; rfl)⟩
        case measure => simp [intOf]; omega
    · have hall := all_of_take s k hlt
      rw [HT.out, ← unhide HR] at hall
      have HA := Lib.hid hall; clear hall
      go_wp2_with fail
      all_goals (go_ret; exact ⟨ret_bool (unhide HA), rfl⟩)
set_option maxHeartbeats 1000000 in
theorem markName_any (s : ByteArray) (w : World) (hs : s.size ≤ maxLen) :
    Calls Tryz.prog 72 #[.string s] w fun e w' => e = .returned (.bool (okName s)) ∧ w = w' := by
  have L := hide (fun W => markAll_any s W hs)
  have ho : okName s = (decide (1 ≤ s.size) && decide (s.size ≤ 16) && s.data.toList.all okC) := rfl
  generalize s.data.toList.all okC = b at *
  rw [ho]
  clear ho
  unfold maxLen at hs
  go_enter Tryz.func72, Tryz.ntmps72
  go_wp2_with (go_at_call 92; (with_reducible refine (unhide L _).mono ?_); rintro e w' ⟨rfl, rfl⟩)
  all_goals (go_ret; refine ⟨ret_bool ?_, rfl⟩; rw [Bool.eq_iff_iff]; first | (simp; omega) | (simp; done) | (simp_all; done) | (simp_all; omega))
end Go.Proofs.YtgbheogmccfaaaaGreat
