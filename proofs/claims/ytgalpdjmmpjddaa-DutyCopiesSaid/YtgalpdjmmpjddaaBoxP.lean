/- Boxes as rows; what leaves a bond, plainly. -/
import Derived.Test.YtgalpdjmmpjddaaRowsG
import Derived.Test.YtgalpdjmmpjddaaRowKeyA
import Derived.Test.YtgalpdjmmpjddaaEnterC
namespace Go.Proofs.Ytgalpdjmmpjddaa
set_option linter.unusedVariables false
set_option linter.unusedSimpArgs false
open Go.RowKit Go.Maps

def Bx.row (x : Bx) : List Value := [.string x.name, .int .i64 x.duty, .int .i64 x.day, .int .i64 x.state]
def bxR : Rowing Bx where
  sz := 4
  cells := Bx.row
  pos := by omega
  len _ := rfl
  one x u hu := by
    simp [Bx.row] at hu
    rcases hu with rfl | rfl | rfl | rfl <;> rfl
theorem box_at {w : World} {B : Nat} {A : Option Addr} {xs : List Bx} (h : ListIn bxR w B A xs) {i : Nat} {x : Bx} (hx : xs[i]? = some x) :
    ∃ b off, A = some ⟨b, off, none⟩ ∧ b < B ∧ w.cell? ⟨b, off + i * 4, none⟩ = some (.string x.name) ∧ w.cell? ⟨b, off + i * 4 + 1, none⟩ = some (.int .i64 x.duty) ∧ w.cell? ⟨b, off + i * 4 + 2, none⟩ = some (.int .i64 x.day) ∧ w.cell? ⟨b, off + i * 4 + 3, none⟩ = some (.int .i64 x.state) := by
  obtain ⟨b, off, e, hb, hc⟩ := h.at hx
  exact ⟨b, off, e, hb, by simpa [bxR] using hc 0 _ rfl, hc 1 _ rfl, hc 2 _ rfl, hc 3 _ rfl⟩

abbrev named (s : ByteArray) (x : Bx) : Bool := decide (x.name = s)
/-- the place of a box; -1: there is none -/
def atI (s : ByteArray) : Nat → List Bx → Int
  | _, [] => -1
  | k, x :: r => if named s x = true then (k : Int) else atI s (k + 1) r
theorem atI_at (s : ByteArray) (xs : List Bx) (k : Nat) (x : Bx) (hx : xs[k]? = some x) : atI s k (xs.drop k) = if named s x = true then (k : Int) else atI s (k + 1) (xs.drop (k + 1)) := by
  have hk : k < xs.length := (List.getElem?_eq_some_iff.1 hx).1
  rw [List.drop_eq_getElem_cons hk, (List.getElem?_eq_some_iff.1 hx).2, atI]
theorem atI_none (s : ByteArray) (xs : List Bx) (k : Nat) (h : xs.find? (named s) = none) : atI s k xs = -1 := by
  induction xs generalizing k with
  | nil => rfl
  | cons x r ih =>
    rw [List.find?_cons] at h
    cases hx : named s x
    · rw [hx] at h
      rw [atI, hx, if_neg (by simp)]; exact ih (k + 1) h
    · rw [hx] at h; cases h
theorem atI_some (s : ByteArray) (xs : List Bx) (k : Nat) (x : Bx) (h : xs.find? (named s) = some x) : ∃ i : Nat, atI s k xs = ((k + i : Nat) : Int) ∧ i < xs.length ∧ xs[i]? = some x := by
  induction xs generalizing k with
  | nil => cases h
  | cons y r ih =>
    rw [List.find?_cons] at h
    cases hx : named s y
    · rw [hx] at h
      obtain ⟨i, h1, h2, h3⟩ := ih (k + 1) h
      refine ⟨i + 1, ?_, by simpa using h2, by simpa using h3⟩
      rw [atI, hx, if_neg (by simp), h1]
      congr 1; omega
    · rw [hx] at h
      cases h
      exact ⟨0, by rw [atI, hx]; simp, by simp, rfl⟩

/-- what is wrong with a box that should be entered -/
def opE (bs : List Bx) (s : ByteArray) : Int := match bs.find? (named s) with
  | none => 4
  | some x => if x.state = 0 then 0 else 9
def dutyAt (bs : List Bx) (s : ByteArray) : Int := match bs.find? (named s) with
  | none => 0
  | some x => x.duty
def dayAt (bs : List Bx) (s : ByteArray) : Int := match bs.find? (named s) with
  | none => 0
  | some x => x.day
def stateAt (bs : List Bx) (s : ByteArray) : Int := match bs.find? (named s) with
  | none => 0
  | some x => x.state
def thenE (a b : Int) : Int := if a = 0 then b else a
def relE (bs : List Bx) (s : ByteArray) (paid : Int) : Int := thenE (opE bs s) (if paid < dutyAt bs s then 10 else 0)
def traE (bs : List Bx) (s to_ : ByteArray) (day : Int) : Int := thenE (opE bs s) (if okName to_ = false then 1 else if dayAt bs s < day then 11 else 0)
/-- a box's state from then on -/
def setS (bs : List Bx) (s : ByteArray) (st : Int) : List Bx := bs.map (fun x => if named s x = true then { x with state := st } else x)
def left (bs : List Bx) (s : ByteArray) (st er : Int) : List Bx := if er = 0 then setS bs s st else bs
def entered (lim : Int) (bs : List Bx) (s : ByteArray) (d day : Int) : List Bx := if enterE lim bs s d day = 0 then bs ++ [newBox s d day] else bs

theorem setS_length (bs : List Bx) (s : ByteArray) (st : Int) : (setS bs s st).length = bs.length := by simp [setS]
theorem left_length (bs : List Bx) (s : ByteArray) (st er : Int) : (left bs s st er).length = bs.length := by unfold left; split <;> simp [setS]
theorem setS_none (bs : List Bx) (s : ByteArray) (st : Int) (h : ∀ x ∈ bs, named s x = false) : setS bs s st = bs := by
  unfold setS
  conv => rhs; rw [← List.map_id bs]
  exact List.map_congr_left fun x hx => by rw [h x hx]; simp
theorem setS_set (bs : List Bx) (s : ByteArray) (st : Int) (i : Nat) (x : Bx) (ha : Apart bs) (hx : bs[i]? = some x) (hn : named s x = true) : bs.set i { x with state := st } = setS bs s st := by
  induction bs generalizing i with
  | nil => simp at hx
  | cons y r ih =>
    obtain ⟨h1, h2⟩ := List.pairwise_cons.1 ha
    have hs : x.name = s := by simpa using hn
    cases i with
    | zero =>
      simp at hx; subst hx
      have := setS_none r s st (fun z hz => by simpa using fun e => h1 z hz (by rw [hs, e]))
      rw [setS] at this ⊢
      rw [List.map_cons, this, hn]; simp
    | succ i =>
      have hx' : r[i]? = some x := by simpa using hx
      have hy : named s y = false := by
        have := h1 x (List.mem_of_getElem? hx')
        simpa using fun e => this (by rw [e, hs])
      have := ih i h2 hx'
      rw [setS] at this ⊢
      rw [List.map_cons, hy, List.set_cons_succ, this]; simp
theorem find_setS (bs : List Bx) (s : ByteArray) (st : Int) (y : ByteArray) : (setS bs s st).find? (named y) = (bs.find? (named y)).map (fun x => if y = s then { x with state := st } else x) := by
  induction bs with
  | nil => rfl
  | cons x r ih =>
    unfold setS at ih ⊢
    rw [List.map_cons, List.find?_cons, List.find?_cons]
    have hnm : ∀ z : Bx, named y (if named s z = true then { z with state := st } else z) = named y z := by intro z; split <;> rfl
    rw [hnm]
    cases hy : named y x
    · exact ih
    · have : x.name = y := by simpa using hy
      subst this
      simp
theorem boxF_setS (bs : List Bx) (s : ByteArray) (st : Int) (x : Bx) (hx : bs.find? (named s) = some x) (y : ByteArray) :
    (if y = s then some (.agg #[.int .i64 x.duty, .int .i64 x.day, .int .i64 st]) else boxF bs y) = boxF (setS bs s st) y := by
  unfold boxF
  have := find_setS bs s st y
  unfold named at this hx
  rw [this]
  split
  · rename_i h; subst h; rw [hx]; simp [Bx.val]
  · cases bs.find? (fun x => decide (x.name = y)) <;> simp

theorem BsOk.setS {bs : List Bx} (h : BsOk bs) (s : ByteArray) (st : Int) : BsOk (setS bs s st) := by
  obtain ⟨h1, h2, h3, h4⟩ := h
  have hm : ∀ x ∈ Go.Proofs.Ytgalpdjmmpjddaa.setS bs s st, ∃ y ∈ bs, x.name = y.name ∧ x.duty = y.duty := by
    intro x hx
    obtain ⟨y, hy, rfl⟩ := List.mem_map.1 hx
    refine ⟨y, hy, ?_⟩
    split <;> exact ⟨rfl, rfl⟩
  refine ⟨?_, fun x hx => ?_, fun x hx => ?_, by rw [setS_length]; exact h4⟩
  · unfold Apart Go.Proofs.Ytgalpdjmmpjddaa.setS
    rw [List.pairwise_map]
    refine List.Pairwise.imp ?_ h1
    intro a b hab
    split <;> split <;> exact hab
  · obtain ⟨y, hy, e, _⟩ := hm x hx
    rw [e]; exact h2 y hy
  · obtain ⟨y, hy, _, e⟩ := hm x hx
    rw [e]; exact h3 y hy
theorem BsOk.left {bs : List Bx} (h : BsOk bs) (s : ByteArray) (st er : Int) : BsOk (left bs s st er) := by
  unfold Go.Proofs.Ytgalpdjmmpjddaa.left; split
  · exact h.setS s st
  · exact h
theorem enterE_zero {lim : Int} {bs : List Bx} {s : ByteArray} {d day : Int} (h : enterE lim bs s d day = 0) : okName s = true ∧ rngB d day = false ∧ known bs s = false ∧ overB lim bs d = false := by
  unfold enterE firstE at h
  cases h1 : okName s <;> rw [h1] at h <;> simp at h
  unfold firstE at h
  cases h2 : rngB d day <;> rw [h2] at h <;> simp at h
  unfold firstE at h
  cases h3 : known bs s <;> rw [h3] at h <;> simp at h
  unfold firstE at h
  simp at h
  unfold firstE at h
  cases h4 : overB lim bs d <;> rw [h4] at h <;> simp at h
  simp
theorem rng_false {d day : Int} (h : rngB d day = false) : 0 ≤ d ∧ d ≤ 1099511627776 ∧ 0 ≤ day ∧ day ≤ 1048576 := by
  unfold rngB inA at h
  simp at h
  omega
theorem BsOk.entered {lim : Int} {bs : List Bx} {s : ByteArray} {d day : Int} (h : BsOk bs) (hl : bs.length < 4096) (hs : s.size ≤ maxLen) : BsOk (entered lim bs s d day) := by
  unfold Go.Proofs.Ytgalpdjmmpjddaa.entered
  split
  · rename_i he
    obtain ⟨_, h2, h3, _⟩ := enterE_zero he
    have hr := rng_false h2
    unfold known at h3
    have hk : ∀ x ∈ bs, x.name ≠ s := by
      intro x hx e
      have h0 : bs.find? (fun x => decide (x.name = s)) = none := by simpa using h3
      have := List.find?_eq_none.1 h0 x hx
      simp [e] at this
    refine ⟨?_, ?_, ?_, by simp; omega⟩
    · unfold Apart
      rw [List.pairwise_append]
      exact ⟨h.apart, List.pairwise_singleton _ _, fun x hx y hy => by simp at hy; subst hy; exact hk x hx⟩
    · intro x hx
      rcases List.mem_append.1 hx with h1 | h1
      · exact h.size x h1
      · simp at h1; subst h1; exact hs
    · intro x hx
      rcases List.mem_append.1 hx with h1 | h1
      · exact h.duty x h1
      · simp at h1; subst h1; exact ⟨hr.1, hr.2.1⟩
  · exact h
theorem used_bd (bs : List Bx) (hd : ∀ x ∈ bs, 0 ≤ x.duty ∧ x.duty ≤ 1099511627776) : 0 ≤ used bs ∧ used bs ≤ (bs.length : Int) * 1099511627776 := by
  unfold used
  induction bs with
  | nil => simp
  | cons x r ih =>
    have h1 := ih (fun y hy => hd y (List.mem_cons_of_mem _ hy))
    have h2 := hd x (List.mem_cons_self)
    have h3 : 0 ≤ x.use ∧ x.use ≤ 1099511627776 := by unfold Bx.use; split <;> omega
    simp only [List.map_cons, List.sum_cons, List.length_cons]
    omega
theorem used_take (bs : List Bx) (k : Nat) (x : Bx) (hx : bs[k]? = some x) : used (bs.take (k + 1)) = used (bs.take k) + x.use := by
  have hk : k < bs.length := (List.getElem?_eq_some_iff.1 hx).1
  rw [List.take_succ_eq_append_getElem hk, (List.getElem?_eq_some_iff.1 hx).2]
  unfold used
  simp
end Go.Proofs.Ytgalpdjmmpjddaa
