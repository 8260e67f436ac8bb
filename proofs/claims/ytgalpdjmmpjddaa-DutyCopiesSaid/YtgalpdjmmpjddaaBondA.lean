/- Bonds as the proofs have them. -/
import Derived.Test.YtgalpdjmmpjddaaRangeA
import Derived.Test.YtgalpdjmmpjddaaNameD
import Derived.DeepKeys5
namespace Go.Proofs.Ytgalpdjmmpjddaa
set_option linter.unusedVariables false
set_option linter.unusedSimpArgs false
open Go.RowKit Go.Maps

theorem strKeyed : Keyed Try.prog 9 := string_keyed Try.underlying9
theorem str_keyOf {s : ByteArray} (h : s.size ≤ maxLen) : keyOf Try.prog 9 (.string s) = some (.string s.data.toList) := by
  have hl : s.data.size ≤ maxLen := h
  simp [keyOf, Try.underlying9, mapKey]
  exact h
theorem str_inv {key : Value} {kl : Lit} (h : keyOf Try.prog 9 key = some kl) : ∃ x : ByteArray, x.size ≤ maxLen ∧ key = .string x := by
  cases key <;> simp [keyOf, Try.underlying9, mapKey] at h
  rename_i s
  exact ⟨s, h.1, rfl⟩

def strKeys : Keying Try.prog 9 ByteArray where
  kv x := .string x
  kl x := .string x.data.toList
  good x := x.size ≤ maxLen
  keyed := strKeyed
  key x h := str_keyOf h
  inj x y hx hy e := by
    simp at e
    exact ByteArray.ext e

/-- a box, as the proofs have it -/
structure Bx where
  name : ByteArray
  duty : Int
  day : Int
  state : Int
def Bx.val (x : Bx) : Value := .agg #[.int .i64 x.duty, .int .i64 x.day, .int .i64 x.state]
/-- what a bond's map holds -/
def boxF (bs : List Bx) (s : ByteArray) : Option Value := (bs.find? (fun x => decide (x.name = s))).map Bx.val
/-- what counts as used of one box -/
def Bx.use (x : Bx) : Int := if x.state = 0 then x.duty else 0
def used (bs : List Bx) : Int := (bs.map Bx.use).sum
/-- of those that are not still to come -/
def usedBut (todo : ByteArray → Bool) (bs : List Bx) : Int := (bs.map (fun x => if todo x.name then 0 else x.use)).sum
/-- no name twice -/
def Apart (bs : List Bx) : Prop := bs.Pairwise (fun x y => x.name ≠ y.name)
structure BsOk (bs : List Bx) : Prop where
  apart : Apart bs
  size : ∀ x ∈ bs, x.name.size ≤ maxLen
  duty : ∀ x ∈ bs, 0 ≤ x.duty ∧ x.duty ≤ 1099511627776
  len : bs.length ≤ 4096

theorem usedBut_all (bs : List Bx) (todo : ByteArray → Bool) (h : ∀ x ∈ bs, todo x.name = true) : usedBut todo bs = 0 := by
  unfold usedBut
  induction bs with
  | nil => rfl
  | cons x r ih =>
    simp only [List.map_cons, List.sum_cons]
    rw [ih (fun y hy => h y (List.mem_cons_of_mem _ hy)), h x (List.mem_cons_self)]; simp
theorem usedBut_none (bs : List Bx) (todo : ByteArray → Bool) (h : ∀ x ∈ bs, todo x.name = false) : usedBut todo bs = used bs := by
  unfold usedBut used
  induction bs with
  | nil => rfl
  | cons x r ih =>
    simp only [List.map_cons, List.sum_cons]
    rw [ih (fun y hy => h y (List.mem_cons_of_mem _ hy)), h x (List.mem_cons_self)]; simp
theorem usedBut_same (bs : List Bx) (todo : ByteArray → Bool) (s : ByteArray) (h : ∀ x ∈ bs, x.name ≠ s) : usedBut (fun y => todo y && !decide (y = s)) bs = usedBut todo bs := by
  unfold usedBut
  congr 1
  refine List.map_congr_left fun x hx => ?_
  simp [h x hx]
theorem usedBut_step (bs : List Bx) (todo : ByteArray → Bool) (x : Bx) (hx : x ∈ bs) (ha : Apart bs) (ht : todo x.name = true) : usedBut (fun y => todo y && !decide (y = x.name)) bs = usedBut todo bs + x.use := by
  induction bs with
  | nil => simp at hx
  | cons z r ih =>
    obtain ⟨h1, h2⟩ := List.pairwise_cons.1 ha
    rcases List.mem_cons.1 hx with rfl | hr
    · have hs := usedBut_same r todo x.name (fun y hy => Ne.symm (h1 y hy))
      unfold usedBut at hs ⊢
      simp only [List.map_cons, List.sum_cons]
      rw [hs, ht]; simp; omega
    · have hs := ih hr h2
      have hne : z.name ≠ x.name := h1 x hr
      unfold usedBut at hs ⊢
      simp only [List.map_cons, List.sum_cons]
      rw [hs]; simp [hne]; omega
theorem use_bound {bs : List Bx} (h : BsOk bs) (todo : ByteArray → Bool) : 0 ≤ usedBut todo bs ∧ usedBut todo bs ≤ (bs.length : Int) * 1099511627776 := by
  have hd := h.duty
  clear h
  unfold usedBut
  induction bs with
  | nil => simp
  | cons x r ih =>
    have h1 := ih (fun y hy => hd y (List.mem_cons_of_mem _ hy))
    have h2 := hd x (List.mem_cons_self)
    have h3 : 0 ≤ x.use ∧ x.use ≤ 1099511627776 := by unfold Bx.use; split <;> omega
    simp only [List.map_cons, List.sum_cons, List.length_cons]
    split <;> omega
theorem boxF_some {bs : List Bx} {s : ByteArray} {v : Value} (h : boxF bs s = some v) : ∃ x ∈ bs, x.name = s ∧ v = x.val := by
  unfold boxF at h
  cases hf : bs.find? (fun x => decide (x.name = s)) with
  | none => rw [hf] at h; simp at h
  | some x =>
    rw [hf] at h
    simp at h
    have := List.find?_some hf
    simp at this
    exact ⟨x, List.mem_of_find?_eq_some hf, this, h.symm⟩
theorem boxF_mem {bs : List Bx} (ha : Apart bs) {x : Bx} (hx : x ∈ bs) : boxF bs x.name = some x.val := by
  unfold boxF
  induction bs with
  | nil => simp at hx
  | cons z r ih =>
    obtain ⟨h1, h2⟩ := List.pairwise_cons.1 ha
    rcases List.mem_cons.1 hx with rfl | hr
    · simp
    · have hne : z.name ≠ x.name := h1 x hr
      rw [List.find?_cons]; simp [hne]
      exact by simpa using ih h2 hr

/-- block p is a bond of these boxes -/
def BondAt (w : World) (p : Nat) (lim : Int) (m n : Nat) (bs : List Bx) : Prop := Whole w p 96 #[.int .i64 lim, .map (some m)] ∧ MapAt strKeys w m n (boxF bs)
theorem BondAt.after {w w' : World} {p m n : Nat} {lim : Int} {bs : List Bx} (h : BondAt w p lim m n bs) (hb : Below w.heap.size w w') : BondAt w' p lim m n bs := ⟨h.1.after hb, h.2.after hb⟩

set_option maxHeartbeats 2000000 in
theorem Used_any (p m n : Nat) (lim : Int) (bs : List Bx) (w : World) (hB : BondAt w p lim m n bs) (hok : BsOk bs) :
    Calls Try.prog 18 #[.pointer (some ⟨p, 0, none⟩)] w fun e w' => e = .returned (.int .i64 (used bs)) ∧ Below w.heap.size w w' := by
  obtain ⟨hW, hM⟩ := hB
  have cB := hW.cells
  have hsz := hW.lt
  have hmz := hM.lt
  have HM := hide hM
  have HOK := hide hok
  clear hM hok hW
  go_enter Try.func18, Try.ntmps18
  go_wp2_with (at_range; refine wpList_going _ rfl _ 94 rfl 9 93 (J := strKeys) Try.underlying94 m n rfl (unhide HM) ?_; intro w1 cnt hgo hgr hs1)
  go_frame
  have hbl : Below w.heap.size w w1 := ⟨hgr.os, hgr.tape, hgr.output, hgr.size, fun i hi => hgr.block i hi (by simp)⟩
  go_loopw [3] (fun v wr => ∃ todo cnt, Going strKeys wr m w.heap.size n (boxF bs) todo cnt ∧ v = .int .i64 (usedBut todo bs) ∧ Below w.heap.size w wr) (fun _ wr => wr.rangeLeft m w.heap.size)
  case atStart =>
    refine ⟨_, _, hgo, ?_, hbl⟩
    rw [usedBut_all bs _ (fun x hx => by rw [boxF_mem (unhide HOK).apart hx]; rfl)]
  case round =>
    obtain ⟨todo, cnt2, hg, rfl, hb⟩ := hrel
    obtain ⟨wo, rfl⟩ : ∃ wo : World, wo = wr := ⟨_, rfl⟩
    have hub := use_bound (unhide HOK) todo
    have hlen := (unhide HOK).len
    obtain ⟨u, hu⟩ : ∃ u, u = usedBut todo bs := ⟨_, rfl⟩
    rw [← hu] at hub ⊢
    have hub2 : 0 ≤ u ∧ u ≤ 4503599627370496 := by omega
    have HU := hide hu
    have HUB := hide hub2
    clear hu hub hlen hub2
    go_wp2_with (at_next; refine wpList_going_next _ rfl _ rfl (fun key kl h => str_inv h) rfl hg ?_ ?_)
    · intro hc0 hl0
      have hend : u = used bs := by rw [unhide HU]; exact usedBut_none bs todo fun x hx => hl0 x.name ((unhide HOK).size x hx)
      have HE := hide hend
      have HB := hide hb
      clear hend hb
      go_wp2_with fail
      go_ret
      exact ⟨ret_int (unhide HE), unhide HB⟩
    · intro nm v w2 cnt3 hgood htodo hfx hg2 hlt hgr2 hsz2 hen
      obtain ⟨x, hx, rfl, rfl⟩ := boxF_some hfx
      have hd := (unhide HOK).duty x hx
      have hst := usedBut_step bs todo x hx (unhide HOK).apart htodo
      rw [← unhide HU] at hst
      have hwr : IntKind.i64.wrap (u + x.duty) = u + x.duty := IntWalk.i64_in _ (by have := unhide HUB; omega)
      have hb2 : Below w.heap.size w w2 := hb.grown hgr2 hb.size (fun j hj => by cases hj; omega)
      have HS := hide hst
      have HB2 := hide hb2
      have HG := hide hg
      have HG2 := hide hg2
      have HL := hide hlt
      unfold Bx.val at hen ⊢
      clear hst hb2 hg hg2 hlt hd hfx htodo hb
      by_cases hs0 : x.state = 0
      · have hs0' : decide (x.state = 0) = true := by rw [decide_eq_true_eq]; exact hs0
        go_wp2_with fail
        go_roundw
        case rel =>
          refine ⟨_, _, (unhide HG2).alloc _, ?_, (unhide HB2).alloc (unhide HB2).size _⟩
          rw [unhide HS, Bx.use, if_pos hs0]
        case measure =>
          rw [((unhide HG2).alloc _).measure, (unhide HG).measure]; exact unhide HL
      · have hs0' : decide (x.state = 0) = false := by rw [decide_eq_false_iff_not]; exact hs0
        go_wp2_with fail
        go_roundw
        case rel =>
          refine ⟨_, _, (unhide HG2).alloc _, ?_, (unhide HB2).alloc (unhide HB2).size _⟩
          rw [unhide HS, Bx.use, if_neg hs0, Int.add_zero]
        case measure =>
          rw [((unhide HG2).alloc _).measure, (unhide HG).measure]; exact unhide HL
end Go.Proofs.Ytgalpdjmmpjddaa
