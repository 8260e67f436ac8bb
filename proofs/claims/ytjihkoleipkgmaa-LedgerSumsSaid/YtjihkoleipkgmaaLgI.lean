/- A post, plainly: what changes. -/
import Derived.Test.YtjihkoleipkgmaaLgG
namespace Go.Proofs.Ytjihkoleipkgmaa
set_option linter.unusedVariables false
set_option linter.unusedSimpArgs false
open Go.RowKit Go.Maps

theorem wrong_ok {s : Lg} {t : ByteArray} {x : List En} (h : wrongE s t x = 0) : ¬ (4096 < t.size ∨ x.length < 1 ∨ 64 < x.length) ∧ x.any (missE s) = false ∧ x.any farE = false := by
  have h0 : ¬ (4096 < t.size ∨ x.length < 1 ∨ 64 < x.length) := fun hc => by rw [wrong_1 hc] at h; cases h
  refine ⟨h0, ?_⟩
  cases h1 : x.any (missE s)
  · cases h2 : x.any farE
    · exact ⟨rfl, rfl⟩
    · rw [wrong_3 h0 h1 h2] at h; cases h
  · rw [wrong_4 h0 h1] at h; cases h
theorem chg_step (x : List En) (k : Nat) (e : En) (hx : x[k]? = some e) (a c : ByteArray) : chg (x.take (k + 1)) a c = chg (x.take k) a c + if isE a c e = true then e.amt else 0 := by
  have hk : k < x.length := (List.getElem?_eq_some_iff.1 hx).1
  unfold chg
  rw [List.take_succ_eq_append_getElem hk, (List.getElem?_eq_some_iff.1 hx).2, List.filter_append, List.map_append, List.sum_append]
  by_cases h : isE a c e = true <;> simp [h]
theorem chg_le (x : List En) (h : x.any farE = false) (a c : ByteArray) : -((x.length : Int) * mostI) ≤ chg x a c ∧ chg x a c ≤ (x.length : Int) * mostI := by
  induction x with
  | nil => simp [chg]
  | cons e t ih =>
    rw [List.any_cons, Bool.or_eq_false_iff] at h
    have h1 := ih h.2
    have h2 := h.1
    unfold farE at h2
    rw [Bool.or_eq_false_iff, decide_eq_false_iff_not, decide_eq_false_iff_not] at h2
    have e1 : chg (e :: t) a c = (if isE a c e = true then e.amt else 0) + chg t a c := by
      unfold chg
      rw [List.filter_cons]
      by_cases hc : isE a c e = true <;> simp [hc]
    rw [e1, List.length_cons]
    push_cast
    rw [Int.add_mul, Int.one_mul]
    generalize (t.length : Int) * mostI = m at *
    generalize chg t a c = z at *
    split <;> omega
theorem chg_64 (x : List En) (h : x.any farE = false) (hl : x.length ≤ 64) (a c : ByteArray) : -70368744177664 ≤ chg x a c ∧ chg x a c ≤ 70368744177664 := by
  have h1 := chg_le x h a c
  have h2 : (x.length : Int) * mostI ≤ 64 * mostI := Int.mul_le_mul_of_nonneg_right (by omega) (by unfold mostI; omega)
  unfold mostI at *
  omega
theorem any_take_false {α : Type} {p : α → Bool} {xs : List α} (h : xs.any p = false) (k : Nat) : (xs.take k).any p = false := by
  rw [List.any_eq_false] at h ⊢
  exact fun e he => h e (List.mem_of_mem_take he)
theorem chF_step (x : List En) (k : Nat) (e : En) (hx : x[k]? = some e) (y : ByteArray × ByteArray) : chF (x.take (k + 1)) y = if y = (e.acct, e.cur) then some (.int .i64 (chg (x.take k) e.acct e.cur + e.amt)) else chF (x.take k) y := by
  obtain ⟨y1, y2⟩ := y
  have h1 := any_step (isE y1 y2) x k e hx
  unfold chF inX
  simp only
  rw [h1, chg_step x k e hx y1 y2]
  by_cases h : (y1, y2) = (e.acct, e.cur)
  · obtain ⟨rfl, rfl⟩ := Prod.mk.inj h
    simp [isE]
  · have h' : isE y1 y2 e = false := by
      cases hh : isE y1 y2 e
      · rfl
      · simp [isE] at hh
        exact absurd (Prod.ext hh.1.symm hh.2.symm) h
    simp [h, h']
theorem look_chg {W : World} {m k : Nat} {x : List En} (hm : MapAt keyKeys W m k (chF x)) (a c : ByteArray) (ha : a.size ≤ maxLen) (hc : c.size ≤ maxLen) :
    (Instr.lookup 82 (.map (some m)) (.agg #[.string a, .string c]) false).run Try.prog W = .ok (.int .i64 (chg x a c)) W := by
  cases hf : chF x (a, c) with
  | none =>
    have h0 : chg x a c = 0 := chg_out (by
      unfold chF at hf
      split at hf
      · cases hf
      · rename_i h; simpa using h)
    rw [h0]
    exact hm.look_none (t := 82) (e := 2) Try.underlying82 (zero64 _) (x := (a, c)) ⟨ha, hc⟩ hf false
  | some u =>
    obtain ⟨_, rfl⟩ := chF_some hf
    exact hm.look_some (t := 82) (e := 2) Try.underlying82 (zero64 _) (x := (a, c)) ⟨ha, hc⟩ hf false

/-- too much in an account; not enough -/
def overY (s : Lg) (x : List En) (y : ByteArray × ByteArray) : Bool := match findA s.A y.1 y.2 with
  | some a => decide (mostI < a.bal + chg x y.1 y.2)
  | none => false
def lackY (s : Lg) (x : List En) (y : ByteArray × ByteArray) : Bool := match findA s.A y.1 y.2 with
  | some a => decide (chg x y.1 y.2 < 0) && decide (s.free a < -chg x y.1 y.2)
  | none => false
theorem inX_mem {x : List En} {n c : ByteArray} (h : inX x n c = true) : ∃ e ∈ x, e.acct = n ∧ e.cur = c := by
  obtain ⟨e, he, hh⟩ := List.any_eq_true.1 h
  simp [isE] at hh
  exact ⟨e, he, hh⟩
theorem mem_inX {x : List En} {e : En} (h : e ∈ x) : inX x e.acct e.cur = true := List.any_eq_true.2 ⟨e, h, by simp [isE]⟩
theorem post_w {s : Lg} {t : ByteArray} {x : List En} (h : wrongE s t x ≠ 0) : postE s t x = wrongE s t x := by unfold postE; rw [if_pos h]
theorem post_3 {s : Lg} {t : ByteArray} {x : List En} (h : wrongE s t x = 0) {y : ByteArray × ByteArray} (hy : inX x y.1 y.2 = true) (ho : overY s x y = true) : postE s t x = 3 := by
  obtain ⟨e, he, h1, h2⟩ := inX_mem hy
  obtain ⟨y1, y2⟩ := y
  subst h1 h2
  unfold postE; rw [if_neg (by simp [h])]
  exact if_pos (List.any_eq_true.2 ⟨e, he, ho⟩)
theorem post_no3 {s : Lg} {x : List En} (hno : ∀ y : ByteArray × ByteArray, inX x y.1 y.2 = true → overY s x y = false) : ¬ x.any (overE s x) = true := fun h => by
  obtain ⟨e, he, hh⟩ := List.any_eq_true.1 h
  have h2 := hno (e.acct, e.cur) (mem_inX he)
  have h3 : overE s x e = overY s x (e.acct, e.cur) := rfl
  rw [h3, h2] at hh
  cases hh
theorem post_10 {s : Lg} {t : ByteArray} {x : List En} (h : wrongE s t x = 0) (hno : ∀ y : ByteArray × ByteArray, inX x y.1 y.2 = true → overY s x y = false) {y : ByteArray × ByteArray} (hy : inX x y.1 y.2 = true) (hl : lackY s x y = true) : postE s t x = 10 := by
  obtain ⟨e, he, h1, h2⟩ := inX_mem hy
  obtain ⟨y1, y2⟩ := y
  subst h1 h2
  unfold postE; rw [if_neg (by simp [h]), if_neg (post_no3 hno)]
  exact if_pos (List.any_eq_true.2 ⟨e, he, hl⟩)
theorem post_0 {s : Lg} {t : ByteArray} {x : List En} (h : wrongE s t x = 0) (hno : ∀ y : ByteArray × ByteArray, inX x y.1 y.2 = true → overY s x y = false) (hl : ∀ y : ByteArray × ByteArray, inX x y.1 y.2 = true → lackY s x y = false) : postE s t x = 0 := by
  unfold postE; rw [if_neg (by simp [h]), if_neg (post_no3 hno)]
  refine if_neg fun hh => ?_
  obtain ⟨e, he, hh⟩ := List.any_eq_true.1 hh
  have h2 := hl (e.acct, e.cur) (mem_inX he)
  have h3 : lackE s x e = lackY s x (e.acct, e.cur) := rfl
  rw [h3, h2] at hh
  cases hh
/-- what an act that posts leaves -/
def PostQ (w : World) (base p ma mh n : Nat) (s : Lg) (v : Value) (text : ByteArray) (x : List En) (w' : World) : Prop := ∃ v', LedgerAt w' base p (if postE s text x = 0 then bookS s text x else s) ma mh v' (n + 1) ∧ Turn (foot p ma mh v) w w' ∧ (v'.ownBlock = v.ownBlock ∨ ∃ g, v'.ownBlock = some g ∧ w.heap.size ≤ g)
theorem PostQ.bad {w w' : World} {base p ma mh n : Nat} {s : Lg} {v : Value} {text : ByteArray} {x : List En} (h : LedgerAt w base p s ma mh v n) (hb : Below w.heap.size w w') (he : postE s text x ≠ 0) : PostQ w base p ma mh n s v text x w' := by
  unfold PostQ
  rw [if_neg he]
  exact ⟨v, (h.after hb).mono (Nat.le_succ _), .of_below hb, .inl rfl⟩
def postN (s : Lg) (text : ByteArray) (x : List En) : Int := if postE s text x = 0 then ((s.P.length + 1 : Nat) : Int) else 0
end Go.Proofs.Ytjihkoleipkgmaa
