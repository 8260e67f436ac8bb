/- What holds of a bond behind any calls, plainly; calls as rows. -/
import Derived.Test.YtgalpdjmmpjddaaCopyA
import Derived.Test.YtgalpdjmmpjddaaEnterD
import Derived.Test.YtgalpdjmmpjddaaBoxD
namespace Go.Proofs.Ytgalpdjmmpjddaa
set_option linter.unusedVariables false
set_option linter.unusedSimpArgs false
open Go.RowKit Go.Maps

/-- a call, as the proofs have it -/
structure Oq where
  kind : Int
  day : Int
  box : ByteArray
  to_ : ByteArray
  n : Int
def Oq.row (x : Oq) : List Value := [.int .i64 x.kind, .int .i64 x.day, .string x.box, .string x.to_, .int .i64 x.n]
def oqR : Rowing Oq where
  sz := 5
  cells := Oq.row
  pos := by omega
  len _ := rfl
  one x u hu := by
    simp [Oq.row] at hu
    rcases hu with rfl | rfl | rfl | rfl | rfl <;> rfl
theorem oq_at {w : World} {B : Nat} {A : Option Addr} {xs : List Oq} (h : ListIn oqR w B A xs) {i : Nat} {x : Oq} (hx : xs[i]? = some x) :
    ∃ b off, A = some ⟨b, off, none⟩ ∧ b < B ∧ w.cell? ⟨b, off + i * 5, none⟩ = some (.int .i64 x.kind) ∧ w.cell? ⟨b, off + i * 5 + 1, none⟩ = some (.int .i64 x.day) ∧ w.cell? ⟨b, off + i * 5 + 2, none⟩ = some (.string x.box) ∧
      w.cell? ⟨b, off + i * 5 + 3, none⟩ = some (.string x.to_) ∧ w.cell? ⟨b, off + i * 5 + 4, none⟩ = some (.int .i64 x.n) := by
  obtain ⟨b, off, e, hb, hc⟩ := h.at hx
  exact ⟨b, off, e, hb, by simpa [oqR] using hc 0 _ rfl, hc 1 _ rfl, hc 2 _ rfl, hc 3 _ rfl, hc 4 _ rfl⟩

/-- a row of cells is no map -/
theorem ListIn.grown {α : Type} {R : Rowing α} {w w' : World} {A : Option Addr} {xs : List α} {P : Program} {k : TypeId} {κ : Type} {J : Keying P k κ} {m n : Nat} {f : κ → Option Value}
    (h : ListIn R w w.heap.size A xs) (hm : MapAt J w m n f) (hg : w.grownBy w' (some m)) : ListIn R w' w'.heap.size A xs := fun hne => by
  obtain ⟨b, off, e, hb, hc⟩ := h hne
  have hbm : b ≠ m := by
    rintro rfl
    obtain ⟨x, hx⟩ : ∃ x, xs[0]? = some x := by
      cases xs with
      | nil => exact absurd rfl hne
      | cons x r => exact ⟨x, rfl⟩
    obtain ⟨v, hv⟩ : ∃ v, (R.cells x)[0]? = some v := ⟨_, List.getElem?_eq_getElem (by rw [R.len x]; exact R.pos)⟩
    have := hc 0 x hx 0 v hv
    obtain ⟨D, ⟨es, clock, h1, _⟩, _⟩ := hm
    simp [World.cell?, h1] at this
  refine ⟨b, off, e, Nat.lt_of_lt_of_le hb hg.size, fun i x hx => (hc i x hx).keep fun o => ?_⟩
  exact World.cell?_of_block (a := ⟨b, o, none⟩) (hg.block b hb (by intro e; injection e with e; exact hbm e))
theorem Whole.grown {w w' : World} {b : Nat} {t : TypeId} {cs : Array Value} {row : Option Nat} (h : Whole w b t cs) (hg : w.grownBy w' row) (hne : some b ≠ row) : Whole w' b t cs := (hg.block b h.lt hne).trans h

structure Inv (lim : Int) (bs : List Bx) : Prop where
  ok : BsOk bs
  used : used bs ≤ lim
  day : ∀ x ∈ bs, 0 ≤ x.day ∧ x.day ≤ 1048576
theorem used_snoc (bs : List Bx) (x : Bx) : used (bs ++ [x]) = used bs + x.use := by unfold used; simp
theorem newBox_use {s : ByteArray} {d day : Int} : (newBox s d day).use = d := by
  unfold newBox Bx.use
  by_cases h : d = 0 <;> simp [h]
theorem used_setS (bs : List Bx) (s : ByteArray) (st : Int) (h : st ≠ 0) (hd : ∀ x ∈ bs, 0 ≤ x.duty) : used (setS bs s st) ≤ used bs := by
  unfold used setS
  induction bs with
  | nil => simp
  | cons x r ih =>
    have := ih (fun y hy => hd y (List.mem_cons_of_mem _ hy))
    have hx := hd x (List.mem_cons_self)
    simp only [List.map_cons, List.sum_cons]
    have : (if named s x = true then { x with state := st } else x).use ≤ x.use := by
      split
      · unfold Bx.use; simp [h]; split <;> omega
      · exact Int.le_refl _
    omega
theorem Inv.nil {lim : Int} (h : 0 ≤ lim) : Inv lim [] := ⟨⟨List.Pairwise.nil, by simp, by simp, by simp⟩, h, by simp⟩
theorem Inv.entered {lim : Int} {bs : List Bx} {s : ByteArray} {d day : Int} (h : Inv lim bs) (hl : bs.length < 4000) (hs : s.size ≤ maxLen) : Inv lim (entered lim bs s d day) := by
  have h1 := h.ok.entered (lim := lim) (s := s) (d := d) (day := day) (by omega) hs
  refine ⟨h1, ?_, ?_⟩
  all_goals
    unfold Go.Proofs.Ytgalpdjmmpjddaa.entered
    split
  · rename_i he
    obtain ⟨_, h2, h3, h4⟩ := enterE_zero he
    have hr := rng_false h2
    have hub := used_bd bs h.ok.duty
    have hxl : (bs.length : Int) ≤ 4000 := by omega
    have hwr : IntKind.i64.wrap (Go.Proofs.Ytgalpdjmmpjddaa.used bs + d) = Go.Proofs.Ytgalpdjmmpjddaa.used bs + d := IntWalk.i64_in _ (by omega)
    unfold overB at h4
    rw [hwr] at h4
    rw [used_snoc, newBox_use]
    simpa using h4
  · exact h.used
  · rename_i he
    obtain ⟨_, h2, _, _⟩ := enterE_zero he
    have hr := rng_false h2
    intro x hx
    rcases List.mem_append.1 hx with h1 | h1
    · exact h.day x h1
    · simp at h1; subst h1; exact ⟨hr.2.2.1, hr.2.2.2⟩
  · exact h.day
theorem Inv.left {lim : Int} {bs : List Bx} (h : Inv lim bs) (s : ByteArray) {st : Int} (er : Int) (hst : st ≠ 0) : Inv lim (left bs s st er) := by
  refine ⟨h.ok.left s st er, ?_, ?_⟩
  all_goals
    unfold Go.Proofs.Ytgalpdjmmpjddaa.left
    split
  · exact Int.le_trans (used_setS bs s st hst (fun x hx => (h.ok.duty x hx).1)) h.used
  · exact h.used
  · intro x hx
    obtain ⟨y, hy, rfl⟩ := List.mem_map.1 hx
    have := h.day y hy
    split <;> exact this
  · exact h.day
theorem entered_length (lim : Int) (bs : List Bx) (s : ByteArray) (d day : Int) : (entered lim bs s d day).length ≤ bs.length + 1 := by
  unfold entered; split <;> simp
theorem limI_bd (n : Int) : 0 ≤ limI n ∧ limI n ≤ 1099511627776 := by unfold limI; split <;> (try split) <;> omega

theorem EnterQ_any (p m n : Nat) (lim d day : Int) (s : ByteArray) (bs : List Bx) (w : World) (hs : s.size ≤ maxLen) (hB : BondAt w p lim m n bs) (hn : n ≤ 4000) (hpm : p ≠ m) (hok : BsOk bs) :
    Calls Try.prog 24 #[.pointer (some ⟨p, 0, none⟩), .string s, .int .i64 d, .int .i64 day] w (TurnQ w p m n lim (entered lim bs s d day) (enterE lim bs s d day)) :=
  Enter_any p m n lim d day s bs w hs hB hn hpm hok

/-- a bond and a row of boxes that stand alike, behind k calls -/
structure PlayI (w wr : World) (lim : Int) (k p m n N : Nat) (A : Option Addr) (bs : List Bx) : Prop where
  len : N = bs.length
  lenk : N ≤ k
  nk : n ≤ k
  ne : p ≠ m
  pb : w.heap.size ≤ p
  mb : w.heap.size ≤ m
  bond : BondAt wr p lim m n bs
  list : ListIn bxR wr wr.heap.size A bs
  inv : Inv lim bs
  below : Below w.heap.size w wr
theorem PlayI.after {w wr w' : World} {lim : Int} {k p m n N : Nat} {A : Option Addr} {bs : List Bx} (h : PlayI w wr lim k p m n N A bs) (hb : Below wr.heap.size wr w') : PlayI w w' lim k p m n N A bs :=
  ⟨h.len, h.lenk, h.nk, h.ne, h.pb, h.mb, h.bond.after hb, h.list.after hb, h.inv, h.below.trans (hb.mono h.below.size)⟩
theorem PlayI.more {w wr : World} {lim : Int} {k k' p m n N : Nat} {A : Option Addr} {bs : List Bx} (h : PlayI w wr lim k p m n N A bs) (hk : k ≤ k') : PlayI w wr lim k' p m n N A bs :=
  ⟨h.len, Nat.le_trans h.lenk hk, Nat.le_trans h.nk hk, h.ne, h.pb, h.mb, h.bond, h.list, h.inv, h.below⟩
/-- behind a call of both -/
theorem PlayI.step {w w1 w2 wr : World} {lim : Int} {k p m n N : Nat} {A A' : Option Addr} {bs bs' : List Bx} (h : PlayI w wr lim k p m n N A bs) (hb : Below wr.heap.size wr w1) (hl : ListIn bxR w1 w1.heap.size A' bs')
    (hbo : BondAt w2 p lim m (n + 1) bs') (hg : w1.grownBy w2 (some m)) (hlen : bs'.length ≤ bs.length + 1) (hi : Inv lim bs') : PlayI w w2 lim (k + 1) p m (n + 1) bs'.length A' bs' := by
  have h1 := h.len; have h2 := h.lenk; have h3 := h.nk; have h4 := h.mb
  exact ⟨rfl, by omega, by omega, h.ne, h.pb, h.mb, hbo, hl.grown (h.bond.2.after hb) hg, hi, (h.below.trans (hb.mono h.below.size)).grown hg (h.below.trans (hb.mono h.below.size)).size (fun j hj => by cases hj; exact h4)⟩
end Go.Proofs.Ytgalpdjmmpjddaa
