/- What is wrong with a post, plainly. -/
import Derived.Test.YtjihkoleipkgmaaLgE
namespace Go.Proofs.Ytjihkoleipkgmaa
set_option linter.unusedVariables false
set_option linter.unusedSimpArgs false
open Go.RowKit Go.Maps

def missE (s : Lg) (e : En) : Bool := (findA s.A e.acct e.cur).isNone
def farE (e : En) : Bool := decide (e.amt < -mostI) || decide (mostI < e.amt)
theorem wrong_1 {s : Lg} {t : ByteArray} {x : List En} (h : 4096 < t.size ∨ x.length < 1 ∨ 64 < x.length) : wrongE s t x = 1 := by unfold wrongE; rw [if_pos h]
theorem wrong_4 {s : Lg} {t : ByteArray} {x : List En} (h : ¬ (4096 < t.size ∨ x.length < 1 ∨ 64 < x.length)) (h1 : x.any (missE s) = true) : wrongE s t x = 4 := by unfold wrongE; rw [if_neg h]; exact if_pos h1
theorem wrong_3 {s : Lg} {t : ByteArray} {x : List En} (h : ¬ (4096 < t.size ∨ x.length < 1 ∨ 64 < x.length)) (h1 : x.any (missE s) = false) (h2 : x.any farE = true) : wrongE s t x = 3 := by
  unfold wrongE; rw [if_neg h]; refine (if_neg (by rw [show (x.any fun e => (findA s.A e.acct e.cur).isNone) = x.any (missE s) from rfl, h1]; simp)).trans ?_; exact if_pos h2
theorem wrong_2 {s : Lg} {t : ByteArray} {x : List En} (h : ¬ (4096 < t.size ∨ x.length < 1 ∨ 64 < x.length)) (h1 : x.any (missE s) = false) (h2 : x.any farE = false) {e : En} (he : e ∈ x) (h3 : csum x e.cur ≠ 0) : wrongE s t x = 2 := by
  unfold wrongE; rw [if_neg h]; refine (if_neg (by rw [show (x.any fun e => (findA s.A e.acct e.cur).isNone) = x.any (missE s) from rfl, h1]; simp)).trans ?_
  refine (if_neg (by rw [show (x.any fun e => decide (e.amt < -mostI) || decide (mostI < e.amt)) = x.any farE from rfl, h2]; simp)).trans ?_
  exact if_pos (List.any_eq_true.2 ⟨e, he, by simpa using h3⟩)
theorem wrong_0 {s : Lg} {t : ByteArray} {x : List En} (h : ¬ (4096 < t.size ∨ x.length < 1 ∨ 64 < x.length)) (h1 : x.any (missE s) = false) (h2 : x.any farE = false) (h3 : ∀ e ∈ x, csum x e.cur = 0) : wrongE s t x = 0 := by
  unfold wrongE; rw [if_neg h]; refine (if_neg (by rw [show (x.any fun e => (findA s.A e.acct e.cur).isNone) = x.any (missE s) from rfl, h1]; simp)).trans ?_
  refine (if_neg (by rw [show (x.any fun e => decide (e.amt < -mostI) || decide (mostI < e.amt)) = x.any farE from rfl, h2]; simp)).trans ?_
  refine if_neg ?_
  rw [List.any_eq_true]
  rintro ⟨e, he, hh⟩
  rw [h3 e he] at hh
  simp at hh
theorem any_step {α : Type} (p : α → Bool) (xs : List α) (k : Nat) (x : α) (hx : xs[k]? = some x) : (xs.take (k + 1)).any p = ((xs.take k).any p || p x) := by
  have hk : k < xs.length := (List.getElem?_eq_some_iff.1 hx).1
  rw [List.take_succ_eq_append_getElem hk, (List.getElem?_eq_some_iff.1 hx).2, List.any_append]; simp
theorem any_here {α : Type} (p : α → Bool) (xs : List α) (k : Nat) (x : α) (hx : xs[k]? = some x) (hb : p x = true) : xs.any p = true := List.any_eq_true.2 ⟨x, List.mem_of_getElem? hx, hb⟩

/-- sums by currency -/
def inC (x : List En) (c : ByteArray) : Bool := x.any fun e => decide (e.cur = c)
def sumF (x : List En) (c : ByteArray) : Option Value := if inC x c = true then some (.int .i64 (csum x c)) else none
theorem csum_none {x : List En} {c : ByteArray} (h : inC x c = false) : csum x c = 0 := by
  have : (x.filter fun e => decide (e.cur = c)) = [] := List.filter_eq_nil_iff.2 fun e he => by
    have := List.any_eq_false.1 h e he
    simpa using this
  unfold csum; rw [this]; rfl
theorem csum_step (x : List En) (k : Nat) (e : En) (hx : x[k]? = some e) (c : ByteArray) : csum (x.take (k + 1)) c = csum (x.take k) c + if e.cur = c then e.amt else 0 := by
  have hk : k < x.length := (List.getElem?_eq_some_iff.1 hx).1
  unfold csum
  rw [List.take_succ_eq_append_getElem hk, (List.getElem?_eq_some_iff.1 hx).2, List.filter_append, List.map_append, List.sum_append]
  by_cases h : e.cur = c <;> simp [h]
theorem csum_le (x : List En) (h : x.any farE = false) (c : ByteArray) : -((x.length : Int) * mostI) ≤ csum x c ∧ csum x c ≤ (x.length : Int) * mostI := by
  induction x with
  | nil => simp [csum]
  | cons e t ih =>
    rw [List.any_cons, Bool.or_eq_false_iff] at h
    have h1 := ih h.2
    have h2 := h.1
    unfold farE at h2
    rw [Bool.or_eq_false_iff, decide_eq_false_iff_not, decide_eq_false_iff_not] at h2
    have e1 : csum (e :: t) c = (if e.cur = c then e.amt else 0) + csum t c := by
      unfold csum
      rw [List.filter_cons]
      by_cases hc : e.cur = c <;> simp [hc]
    rw [e1, List.length_cons]
    push_cast
    rw [Int.add_mul, Int.one_mul]
    generalize (t.length : Int) * mostI = m at *
    generalize csum t c = z at *
    split <;> omega
theorem sumF_step (x : List En) (k : Nat) (e : En) (hx : x[k]? = some e) (c : ByteArray) : sumF (x.take (k + 1)) c = if c = e.cur then some (.int .i64 (csum (x.take k) e.cur + e.amt)) else sumF (x.take k) c := by
  have h1 := any_step (fun z : En => decide (z.cur = c)) x k e hx
  unfold sumF inC
  rw [h1, csum_step x k e hx c]
  by_cases h : c = e.cur
  · subst h; simp
  · have h' : ¬ e.cur = c := fun q => h q.symm
    simp [h, h']
theorem sumF_some {x : List En} {c : ByteArray} {u : Value} (h : sumF x c = some u) : u = .int .i64 (csum x c) ∧ ∃ e ∈ x, e.cur = c := by
  unfold sumF at h
  split at h
  · rename_i hi
    obtain ⟨e, he, hc⟩ := List.any_eq_true.1 hi
    cases h
    exact ⟨rfl, e, he, by simpa using hc⟩
  · cases h
theorem zero64 (w : World) : (zeroValue 2).run Try.prog w = .ok (.int .i64 0) w := by kernel_rfl
theorem look_sum {W : World} {m k : Nat} {x : List En} (hm : MapAt txtKeys W m k (sumF x)) (c : ByteArray) (hc : c.size ≤ maxLen) :
    (Instr.lookup 119 (.map (some m)) (.string c) false).run Try.prog W = .ok (.int .i64 (csum x c)) W := by
  cases hf : sumF x c with
  | none =>
    have h0 : csum x c = 0 := csum_none (by
      unfold sumF at hf
      split at hf
      · cases hf
      · rename_i h; simpa using h)
    rw [h0]
    exact hm.look_none (t := 119) (e := 2) Try.underlying119 (zero64 _) (x := c) hc hf false
  | some u =>
    obtain ⟨rfl, _⟩ := sumF_some hf
    exact hm.look_some (t := 119) (e := 2) Try.underlying119 (zero64 _) (x := c) hc hf false
end Go.Proofs.Ytjihkoleipkgmaa
