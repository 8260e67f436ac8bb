/- Walk: are calls more than may be asked about? -/
import Derived.Test.YtgalpdjmmpjddaaPlayP
namespace Go.Proofs.Ytgalpdjmmpjddaa
set_option linter.unusedVariables false
set_option linter.unusedSimpArgs false
open Go.RowKit Go.Maps

def longO (x : Oq) : Bool := decide ((100 : Int) < wrap64 ((x.box.size : Int) + (x.to_.size : Int)))
def mLong (xs : List Oq) : Bool := xs.any longO || decide (60 < xs.length)

set_option maxHeartbeats 2000000 in
theorem long_any (xs : List Oq) (A : Option Addr) (n c : Nat) (w : World) (hn : n = xs.length) (hm : n ≤ maxLen) (hx : ListIn oqR w w.heap.size A xs) (hs : ∀ x ∈ xs, x.box.size ≤ maxLen ∧ x.to_.size ≤ maxLen) :
    Calls Try.prog 14 #[.slice A n c] w fun e w' => e = .returned (.bool (mLong xs)) ∧ Below w.heap.size w w' := by
  have HN := hide hn
  have HX := hide hx
  have HS := hide hs
  obtain ⟨r, hr⟩ : ∃ r, r = mLong xs := ⟨_, rfl⟩
  rw [← hr]
  have hdef : r = (xs.any longO || decide (60 < n)) := by rw [hr, hn]; rfl
  have HR := hide hdef
  clear hr hn hx hs hdef
  unfold maxLen at hm
  go_enter Try.func14, Try.ntmps14
  go_wp2_with fail
  go_loopw [7] (fun i wr => ∃ k : Nat, k ≤ n ∧ i = .int .i64 k ∧ Below w.heap.size w wr ∧ Hid ((xs.take k).any longO = false)) (fun i _ => n - (intOf i).toNat)
  case atStart => exact ⟨0, by omega, rfl, Below.refl _ _, hide rfl⟩
  case round =>
    obtain ⟨k, hk, rfl, hbw, HI⟩ := hrel
    obtain ⟨wo, rfl⟩ : ∃ wo : World, wo = wr := ⟨_, rfl⟩
    by_cases hlt : k < n
    · obtain ⟨x, hx⟩ : ∃ x, xs[k]? = some x := ⟨xs[k]'(by rw [← unhide HN]; exact hlt), List.getElem?_eq_getElem _⟩
      obtain ⟨b, off, rfl, hbb, c0, c1, c2, c3, c4⟩ := oq_at ((unhide HX).below hbw) hx
      have HK := hide hx
      have HB := hide hbw
      clear hx hbw
      cases hw : longO x
      case true =>
        have hrt : r = true := by
          rw [unhide HR]
          have : xs.any longO = true := List.any_eq_true.2 ⟨x, List.mem_of_getElem? (unhide HK), hw⟩
          rw [this]; rfl
        have HT := hide hrt
        clear hrt
        unfold longO at hw
        go_wp2_with fail
        all_goals first
          | (go_ret; exact ⟨ret_bool (unhide HT).symm, (unhide HB).alloc (unhide HB).size _⟩)
      case false =>
        have hnext : (xs.take (k + 1)).any longO = false := by
          rw [take_snoc xs k x (unhide HK), List.any_append, unhide HI]
          simp [hw]
        have HT := hide hnext
        clear hnext
        unfold longO at hw
        go_wp2_with fail
        go_roundw
        case rel => exact ⟨k + 1, by omega, by go_num, (unhide HB).alloc (unhide HB).size _, HT⟩
        case measure => simp [intOf]; omega
    · have hend : r = decide (60 < n) := by
        have := unhide HI
        rw [List.take_of_length_le (by rw [← unhide HN]; omega)] at this
        rw [unhide HR, this]; rfl
      have HE := hide hend
      have HB := hide hbw
      clear hend hbw
      go_wp2_with fail
      all_goals (go_ret; exact ⟨ret_bool (by rw [unhide HE]; simp; omega), unhide HB⟩)
theorem mLong_len {xs : List Oq} (h : mLong xs = false) : xs.length ≤ 60 := by
  unfold mLong at h
  simp at h
  omega
end Go.Proofs.Ytgalpdjmmpjddaa
