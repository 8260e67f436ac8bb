/- A ledger, plainly: accounts, posts, holds, and what each act does. -/
import Derived.Test.YtjihkoleipkgmaaBase
namespace Go.Proofs.Ytjihkoleipkgmaa
set_option linter.unusedVariables false
set_option linter.unusedSimpArgs false
open Go.RowKit

structure Ac where
  name : ByteArray
  cur : ByteArray
  floor : Int
  bal : Int
structure En where
  acct : ByteArray
  cur : ByteArray
  amt : Int
structure Ho where
  id : ByteArray
  acct : ByteArray
  cur : ByteArray
  amt : Int
structure Po where
  text : ByteArray
  ents : List En
structure Lg where
  A : List Ac
  P : List Po
  H : List Ho

/-- a letter of an account's name; of a currency's -/
def okC (c : UInt8) : Bool := (decide (97 ≤ c.toNat) && decide (c.toNat ≤ 122)) || (decide (48 ≤ c.toNat) && decide (c.toNat ≤ 57)) || decide (c.toNat = 45) || decide (c.toNat = 58)
def okU (c : UInt8) : Bool := decide (65 ≤ c.toNat) && decide (c.toNat ≤ 90)
def okName (s : ByteArray) : Bool := decide (1 ≤ s.size) && decide (s.size ≤ 32) && s.data.toList.all okC
def okCur (s : ByteArray) : Bool := decide (s.size = 3) && s.data.toList.all okU
theorem okName_size {s : ByteArray} (h : okName s = true) : s.size ≤ 32 := by simp [okName] at h; omega
theorem okCur_size {s : ByteArray} (h : okCur s = true) : s.size = 3 := by simp [okCur] at h; omega
abbrev mostI : Int := 1099511627776

def isA (n c : ByteArray) (a : Ac) : Bool := decide (a.name = n) && decide (a.cur = c)
def findA (A : List Ac) (n c : ByteArray) : Option Ac := A.find? (isA n c)
def isH (n c : ByteArray) (h : Ho) : Bool := decide (h.acct = n) && decide (h.cur = c)
def heldOf (H : List Ho) (n c : ByteArray) : Int := ((H.filter (isH n c)).map Ho.amt).sum
def hasId (i : ByteArray) (h : Ho) : Bool := decide (h.id = i)
def findH (H : List Ho) (i : ByteArray) : Option Ho := H.find? (hasId i)
def isE (n c : ByteArray) (e : En) : Bool := decide (e.acct = n) && decide (e.cur = c)
/-- what entries change of an account; the sum of a currency -/
def chg (x : List En) (n c : ByteArray) : Int := ((x.filter (isE n c)).map En.amt).sum
def csum (x : List En) (c : ByteArray) : Int := ((x.filter fun e => decide (e.cur = c)).map En.amt).sum
def Lg.held (s : Lg) (a : Ac) : Int := heldOf s.H a.name a.cur
def Lg.free (s : Lg) (a : Ac) : Int := a.bal - s.held a - a.floor

/-- what holds of a ledger -/
structure LgOk (s : Lg) : Prop where
  apartA : s.A.Pairwise fun a b => ¬ (a.name = b.name ∧ a.cur = b.cur)
  apartH : s.H.Pairwise fun g h => g.id ≠ h.id
  name : ∀ a ∈ s.A, okName a.name = true ∧ okCur a.cur = true
  floor : ∀ a ∈ s.A, -mostI ≤ a.floor ∧ a.floor ≤ 0 ∧ a.bal ≤ mostI ∧ 0 ≤ s.free a
  hold : ∀ h ∈ s.H, okName h.id = true ∧ 1 ≤ h.amt ∧ h.amt ≤ mostI ∧ ∃ a, findA s.A h.acct h.cur = some a

theorem findA_some {A : List Ac} {n c : ByteArray} {a : Ac} (h : findA A n c = some a) : a ∈ A ∧ a.name = n ∧ a.cur = c := by
  have h1 := List.find?_some h
  simp [isA] at h1
  exact ⟨List.mem_of_find?_eq_some h, h1.1, h1.2⟩
theorem findH_some {H : List Ho} {i : ByteArray} {h : Ho} (hf : findH H i = some h) : h ∈ H ∧ h.id = i := by
  have h1 := List.find?_some hf
  simp [hasId] at h1
  exact ⟨List.mem_of_find?_eq_some hf, h1⟩
theorem find_mem {α : Type} {p : α → Bool} {r : α → α → Prop} (hr : ∀ x y, r x y → p x = true → p y = true → False) : ∀ (l : List α), l.Pairwise r → ∀ x ∈ l, p x = true → l.find? p = some x
  | [], _, x, hx, _ => by simp at hx
  | y :: t, hp, x, hx, hpx => by
    obtain ⟨h1, h2⟩ := List.pairwise_cons.1 hp
    rw [List.find?_cons]
    rcases List.mem_cons.1 hx with rfl | hx
    · rw [hpx]
    · cases hy : p y
      · exact find_mem hr t h2 x hx hpx
      · exact absurd hpx (fun h => hr y x (h1 x hx) hy h)
theorem findA_mem {s : Lg} (h : LgOk s) {a : Ac} (ha : a ∈ s.A) : findA s.A a.name a.cur = some a :=
  find_mem (r := fun a b => ¬ (a.name = b.name ∧ a.cur = b.cur)) (fun x y hxy h1 h2 => by simp [isA] at h1 h2; exact hxy ⟨h1.1.trans h2.1.symm, h1.2.trans h2.2.symm⟩) s.A h.apartA a ha (by simp [isA])
theorem findH_mem {s : Lg} (h : LgOk s) {g : Ho} (hg : g ∈ s.H) : findH s.H g.id = some g :=
  find_mem (r := fun g h => g.id ≠ h.id) (fun x y hxy h1 h2 => by simp [hasId] at h1 h2; exact hxy (h1.trans h2.symm)) s.H h.apartH g hg (by simp [hasId])
theorem heldOf_nonneg {H : List Ho} (h : ∀ g ∈ H, 1 ≤ g.amt) (n c : ByteArray) : 0 ≤ heldOf H n c := by
  unfold heldOf
  induction H with
  | nil => simp
  | cons g t ih =>
    have h1 := ih fun g hg => h g (List.mem_cons_of_mem _ hg)
    have h2 := h g List.mem_cons_self
    rw [List.filter_cons]
    split
    · rw [List.map_cons, List.sum_cons]; omega
    · exact h1
theorem LgOk.held0 {s : Lg} (h : LgOk s) (a : Ac) : 0 ≤ s.held a := heldOf_nonneg (fun g hg => (h.hold g hg).2.1) _ _
/-- numbers stay small -/
theorem LgOk.small {s : Lg} (h : LgOk s) {a : Ac} (ha : a ∈ s.A) : -mostI ≤ a.floor ∧ a.floor ≤ 0 ∧ -mostI ≤ a.bal ∧ a.bal ≤ mostI ∧ 0 ≤ s.held a ∧ s.held a ≤ 2 * mostI ∧ 0 ≤ s.free a ∧ s.free a ≤ 2 * mostI := by
  have h1 := h.held0 a
  obtain ⟨h2, h3, h4, h5⟩ := h.floor a ha
  unfold Lg.free at h5 ⊢
  unfold mostI at *
  omega

theorem heldOf_cons (g : Ho) (H : List Ho) (n c : ByteArray) : heldOf (g :: H) n c = (if isH n c g = true then g.amt else 0) + heldOf H n c := by
  unfold heldOf
  rw [List.filter_cons]
  split
  · rw [List.map_cons, List.sum_cons]
  · rw [Int.zero_add]
theorem heldOf_snoc (g : Ho) (H : List Ho) (n c : ByteArray) : heldOf (H ++ [g]) n c = heldOf H n c + if isH n c g = true then g.amt else 0 := by
  unfold heldOf
  rw [List.filter_append, List.map_append, List.sum_append, List.filter_cons]
  split <;> simp
/-- holds without one -/
def dropH (H : List Ho) (i : ByteArray) : List Ho := H.filter fun h => !hasId i h
theorem heldOf_drop {H : List Ho} (hp : H.Pairwise fun g h => g.id ≠ h.id) {g : Ho} (hg : g ∈ H) (n c : ByteArray) : heldOf (dropH H g.id) n c = heldOf H n c - if isH n c g = true then g.amt else 0 := by
  induction H with
  | nil => simp at hg
  | cons x t ih =>
    obtain ⟨h1, h2⟩ := List.pairwise_cons.1 hp
    rcases List.mem_cons.1 hg with rfl | hg
    · have e : dropH (g :: t) g.id = t := by
        unfold dropH
        rw [List.filter_cons]
        simp only [hasId, decide_true, Bool.not_true, Bool.false_eq_true, if_false]
        exact List.filter_eq_self.2 fun y hy => by simpa [hasId] using (h1 y hy).symm
      rw [e, heldOf_cons]; omega
    · have hne : x.id ≠ g.id := h1 g hg
      have e : dropH (x :: t) g.id = x :: dropH t g.id := by
        unfold dropH
        rw [List.filter_cons]
        simp [hasId, hne]
      rw [e, heldOf_cons, heldOf_cons, ih h2 hg]; omega
theorem findH_drop {H : List Ho} {i j : ByteArray} : findH (dropH H i) j = if j = i then none else findH H j := by
  unfold findH dropH
  rw [List.find?_filter]
  split
  · rename_i e
    subst e
    rw [List.find?_eq_none]
    intro x _
    cases hasId j x <;> simp
  · rename_i e
    congr 1
    funext x
    by_cases hx : x.id = j
    · subst hx; simp [hasId, e]
    · simp [hasId, hx]
theorem findH_snoc (H : List Ho) (g : Ho) (j : ByteArray) : findH (H ++ [g]) j = (findH H j).or (if g.id = j then some g else none) := by
  unfold findH
  rw [List.find?_append]
  congr 1
  rw [List.find?_cons]
  by_cases h : g.id = j <;> simp [hasId, h]
theorem findA_snoc (A : List Ac) (a : Ac) (n c : ByteArray) : findA (A ++ [a]) n c = (findA A n c).or (if a.name = n ∧ a.cur = c then some a else none) := by
  unfold findA
  rw [List.find?_append]
  congr 1
  rw [List.find?_cons]
  by_cases h : a.name = n <;> by_cases h2 : a.cur = c <;> simp [isA, h, h2]
/-- balances changed -/
def addA (x : List En) (A : List Ac) : List Ac := A.map fun a => { a with bal := a.bal + chg x a.name a.cur }
theorem findA_add (x : List En) (A : List Ac) (n c : ByteArray) : findA (addA x A) n c = (findA A n c).map fun a => { a with bal := a.bal + chg x a.name a.cur } := by
  unfold findA addA
  rw [List.find?_map]
  rfl

/- ---- the acts: the error, and the ledger behind ---- -/
def openE (s : Lg) (n c : ByteArray) (fl : Int) : Int :=
  if (okName n && okCur c) = false then 1 else if fl < -mostI ∨ 0 < fl then 3 else if (findA s.A n c).isSome = true then 5 else 0
def openS (s : Lg) (n c : ByteArray) (fl : Int) : Lg := { s with A := s.A ++ [⟨n, c, fl, 0⟩] }
def wrongE (s : Lg) (text : ByteArray) (x : List En) : Int :=
  if 4096 < text.size ∨ x.length < 1 ∨ 64 < x.length then 1
  else if (x.any fun e => (findA s.A e.acct e.cur).isNone) = true then 4
  else if (x.any fun e => decide (e.amt < -mostI) || decide (mostI < e.amt)) = true then 3
  else if (x.any fun e => !decide (csum x e.cur = 0)) = true then 2
  else 0
def overE (s : Lg) (x : List En) (e : En) : Bool := match findA s.A e.acct e.cur with
  | some a => decide (mostI < a.bal + chg x e.acct e.cur)
  | none => false
def lackE (s : Lg) (x : List En) (e : En) : Bool := match findA s.A e.acct e.cur with
  | some a => decide (chg x e.acct e.cur < 0) && decide (s.free a < -chg x e.acct e.cur)
  | none => false
def postE (s : Lg) (text : ByteArray) (x : List En) : Int :=
  if wrongE s text x ≠ 0 then wrongE s text x else if x.any (overE s x) = true then 3 else if x.any (lackE s x) = true then 10 else 0
def bookS (s : Lg) (text : ByteArray) (x : List En) : Lg := { s with A := addA x s.A, P := s.P ++ [⟨text, x⟩] }
def holdE (s : Lg) (i n c : ByteArray) (sum : Int) : Int :=
  if okName i = false then 1 else if (findH s.H i).isSome = true then 5 else match findA s.A n c with
    | none => 4
    | some a => if sum < 1 ∨ mostI < sum then 3 else if s.free a < sum then 10 else 0
def holdS (s : Lg) (i n c : ByteArray) (sum : Int) : Lg := { s with H := s.H ++ [⟨i, n, c, sum⟩] }
def lessS (s : Lg) (h : Ho) (sum : Int) : Lg := { s with H := dropH s.H h.id ++ if h.amt - sum = 0 then [] else [{ h with amt := h.amt - sum }] }
def takeE (s : Lg) (i to : ByteArray) (sum : Int) : Int := match findH s.H i with
  | none => 4
  | some h => match findA s.A to h.cur with
    | none => 4
    | some a => if to = h.acct then 1 else if sum < 1 ∨ h.amt < sum then 3 else if mostI < a.bal + sum then 3 else 0
def takeX (h : Ho) (to : ByteArray) (sum : Int) : List En := [⟨h.acct, h.cur, -sum⟩, ⟨to, h.cur, sum⟩]
def letE (s : Lg) (i : ByteArray) : Int := if (findH s.H i).isSome = true then 0 else 4
end Go.Proofs.Ytjihkoleipkgmaa
