/- A ledger in memory. -/
import Derived.Test.YtjihkoleipkgmaaTxtK
import Derived.Test.YtjihkoleipkgmaaPushA
import Derived.Test.YtjihkoleipkgmaaLgQ
import Derived.DeepKeys5
namespace Go.Proofs.Ytjihkoleipkgmaa
set_option linter.unusedVariables false
set_option linter.unusedSimpArgs false
open Go.RowKit Go.Maps

theorem keyKeyed : Keyed Try.prog 68 := Keyed.of_law (deep_law_gate (by kernel_rfl) (of_decide_eq_true (by kernel_rfl)) (of_decide_eq_true (by kernel_rfl)) (by kernel_rfl) (by kernel_rfl))
def keyLit (a b : ByteArray) : Lit := .string (keyBytes [.string a.data.toList, .string b.data.toList])
theorem key_formed (a b : ByteArray) : (Value.agg #[.string a, .string b]).formed Try.prog 68 = true := by kernel_rfl
theorem key_keyType : Try.prog.keyType 68 = true := by kernel_rfl
theorem key_lits (a b : ByteArray) : Try.prog.keyLits (Try.prog.types.size + 1) 68 [.string a, .string b] =
    if a.size ≤ maxLen ∧ b.size ≤ maxLen then some [.string a.data.toList, .string b.data.toList] else none := by
  obtain ⟨m, hm⟩ : ∃ m, Try.prog.types.size = m + 1 := ⟨Try.prog.types.size - 1, by kernel_rfl⟩
  have e0 : Try.prog.cellsOf 68 = 2 := by kernel_rfl
  have e1 : Try.prog.cellsOf 9 = 1 := by kernel_rfl
  rw [hm]
  unfold Program.keyLits
  simp only [Try.underlying68, e0]
  unfold Program.keyLits
  simp [Try.underlying9, e1]
  by_cases h1 : a.size ≤ maxLen <;> by_cases h2 : b.size ≤ maxLen <;> simp [h1, h2]
theorem key_keyOf {a b : ByteArray} (ha : a.size ≤ maxLen) (hb : b.size ≤ maxLen) :
    keyOf Try.prog 68 (.agg #[.string a, .string b]) = some (keyLit a b) := by
  unfold keyOf
  simp only [Try.underlying68, key_formed, key_keyType, Bool.and_true, if_true, Value.cells, key_lits, ha, hb, and_self]
  rfl

/-- an account's name and currency as keys -/
def keyKeys : Keying Try.prog 68 (ByteArray × ByteArray) where
  kv x := .agg #[.string x.1, .string x.2]
  kl x := keyLit x.1 x.2
  good x := x.1.size ≤ maxLen ∧ x.2.size ≤ maxLen
  keyed := keyKeyed
  key x h := key_keyOf h.1 h.2
  inj x y hx hy e := by
    have h1 := key_keyOf hx.1 hx.2
    have h2 := key_keyOf hy.1 hy.2
    rw [← e] at h2
    have h3 := keyKeyed.inj h1 h2
    simp only [Value.agg.injEq] at h3
    obtain ⟨a, b⟩ := x
    obtain ⟨a', b'⟩ := y
    simp at h3
    simp [h3]


/-- a world turned in some blocks alone, and grown -/
structure Turn (S : Nat → Prop) (w w' : World) : Prop where
  os : w'.os = w.os
  tape : w'.tape = w.tape
  output : w'.output = w.output
  size : w.heap.size ≤ w'.heap.size
  block : ∀ k, k < w.heap.size → ¬ S k → w'.heap[k]? = w.heap[k]?
section
variable {S : Nat → Prop} {a b c w w' : World}
theorem Turn.refl (S : Nat → Prop) (w : World) : Turn S w w := ⟨rfl, rfl, rfl, Nat.le_refl _, fun _ _ _ => rfl⟩
theorem Turn.trans (h : Turn S a b) (k : Turn S b c) : Turn S a c :=
  ⟨k.os.trans h.os, k.tape.trans h.tape, k.output.trans h.output, Nat.le_trans h.size k.size, fun i hi hs => (k.block i (Nat.lt_of_lt_of_le hi h.size) hs).trans (h.block i hi hs)⟩
theorem Turn.of_below (h : Below w.heap.size w w') : Turn S w w' := ⟨h.os, h.tape, h.output, h.size, fun i hi _ => h.block i hi⟩
theorem Turn.after (h : Turn S a w) (hb : Below w.heap.size w w') : Turn S a w' := h.trans (.of_below hb)
theorem Turn.alloc (h : Turn S a w) (o : Obj) : Turn S a (w.alloc o) := h.after ((Below.refl _ _).alloc (Nat.le_refl _) o)
theorem Turn.drew (h : Turn S a w) : Turn S a w.drew := h.after (Below.refl _ _).drew
theorem Turn.setCell (h : Turn S a w) {p : Addr} (hp : S p.block ∨ a.heap.size ≤ p.block) (u : Value) : Turn S a (w.setCell p u) :=
  ⟨h.os, h.tape, h.output, by have := h.size; simpa [World.setCell] using this, fun i hi hs => (Below.heap_setCell _ _ _ _ (fun e => by
    rcases hp with hp | hp
    · exact hs (e ▸ hp)
    · omega)).trans (h.block i hi hs)⟩
theorem Turn.grown {row : Option Nat} (h : Turn S a w) (hg : w.grownBy w' row) (hr : ∀ k, row = some k → S k ∨ a.heap.size ≤ k) : Turn S a w' :=
  ⟨hg.os.trans h.os, hg.tape.trans h.tape, hg.output.trans h.output, Nat.le_trans h.size hg.size, fun i hi hs => (hg.block i (Nat.lt_of_lt_of_le hi h.size) (fun e => by
    rcases hr i e.symm with h1 | h1
    · exact hs h1
    · omega)).trans (h.block i hi hs)⟩
theorem Turn.below {B : Nat} (h : Turn S w w') (hS : ∀ k, S k → B ≤ k) (hB : B ≤ w.heap.size) : Below B w w' :=
  ⟨h.os, h.tape, h.output, h.size, fun k hk => h.block k (by omega) (fun hs => by have := hS k hs; omega)⟩
theorem Turn.mono {S' : Nat → Prop} (h : Turn S w w') (hS : ∀ k, k < w.heap.size → S k → S' k) : Turn S' w w' :=
  ⟨h.os, h.tape, h.output, h.size, fun k hk hs => h.block k hk (fun h1 => hs (hS k hk h1))⟩
theorem Whole.turn {p : Nat} {t : TypeId} {cs : Array Value} (k : Whole w p t cs) (h : Turn S w w') (hp : ¬ S p) : Whole w' p t cs := (h.block p k.lt hp).trans k
theorem MapAt.turn {P : Program} {k : TypeId} {κ : Type} {J : Keying P k κ} {m n : Nat} {f : κ → Option Value} (h : MapAt J w m n f) (ht : Turn S w w') (hm : ¬ S m) : MapAt J w' m n f := by
  have hlt := h.lt
  obtain ⟨D, ⟨es, clock, h1, h2, h3, h4⟩, hf⟩ := h
  exact ⟨D, ⟨es, clock, (ht.block m hlt hm).trans h1, h2, h3, h4⟩, hf⟩
theorem own_turn {base e size n : Nat} {v : Value} {xs : List Value} (h : w.ownsRow base e size v n xs) (ht : Turn S w w') (hv : ∀ g, v.ownBlock = some g → ¬ S g) : w'.ownsRow base e size v n xs := by
  refine ⟨h.1, ?_⟩
  rcases h.2 with h0 | ⟨g, cap, cur, rfl, h1, h2, h3⟩
  · exact .inl h0
  · exact .inr ⟨g, cap, cur, rfl, h1, (ht.block g (Array.getElem?_eq_some_iff.1 h2).1 (hv g rfl)).trans h2, h3⟩
end

/-- a map, less a key -/
theorem MapAt.del {P : Program} {k t e : TypeId} {κ : Type} {J : Keying P k κ} {w : World} {b n : Nat} {f : κ → Option Value} [DecidableEq κ] (h : MapAt J w b n f) (ht : P.underlying t = some (.map k e)) {x : κ} (hx : J.good x) (ty : TypeId) :
    ∃ w', (Builtin.delete_ #[t, k] ty #[.map (some b), J.kv x]).run P w = .ok (.tuple #[]) w' ∧ MapAt J w' b n (fun y => if y = x then none else f y) ∧ w.grownBy w' (some b) := by
  obtain ⟨D, hD, hf⟩ := h
  obtain ⟨w', hrun, hD', hg⟩ := hD.drop J.keyed ht (J.key x hx) ty
  refine ⟨w', hrun, ⟨_, hD', fun y hy => ?_⟩, hg.grown⟩
  by_cases hlk : y = x
  · subst hlk
    exact ⟨fun u hu => by simp at hu, fun _ zd => atKey_del_same zd⟩
  · have hne : J.kl y ≠ J.kl x := fun e => hlk (J.inj y x hy hx e)
    simp only [hlk, if_false]
    exact ⟨fun u hu zd => by rw [atKey_del_other hne]; exact (hf y hy).1 u hu zd, fun hu zd => by rw [atKey_del_other hne]; exact (hf y hy).2 hu zd⟩
/-- how many entries, told by len -/
theorem MapAt.len {P : Program} {k t e : TypeId} {κ : Type} {J : Keying P k κ} {w : World} {b n : Nat} {f : κ → Option Value} (h : MapAt J w b n f) (ht : P.underlying t = some (.map k e)) (ty : TypeId) :
    ∃ z : Nat, z ≤ n ∧ ∀ W : World, W.heap[b]? = w.heap[b]? → (Builtin.len_ #[t] ty #[.map (some b)]).run P W = .ok (.int .i64 (z : Int)) W := by
  obtain ⟨D, hD, hf⟩ := h
  have h1 : Maps.size D ≤ n := hD.size_le
  refine ⟨Maps.size D, h1, fun W hW => ?_⟩
  obtain ⟨es, clock, hb, h2⟩ := hD
  have hD' : W.ownsMap P k raw b n D := ⟨es, clock, hW.trans hb, h2⟩
  exact hD'.len ht ty

/-- entries in a row -/
def enR : Rowing En where
  sz := 3
  cells e := [.string e.acct, .string e.cur, .int .i64 e.amt]
  pos := by omega
  len _ := rfl
  one x u hu := by
    simp at hu
    rcases hu with rfl | rfl | rfl <;> rfl
theorem en_at {w : World} {B : Nat} {A : Option Addr} {xs : List En} (h : ListIn enR w B A xs) {i : Nat} {x : En} (hx : xs[i]? = some x) :
    ∃ b off, A = some ⟨b, off, none⟩ ∧ b < B ∧ w.cell? ⟨b, off + i * 3, none⟩ = some (.string x.acct) ∧ w.cell? ⟨b, off + i * 3 + 1, none⟩ = some (.string x.cur) ∧ w.cell? ⟨b, off + i * 3 + 2, none⟩ = some (.int .i64 x.amt) := by
  obtain ⟨b, off, e, hb, hc⟩ := h.at hx
  exact ⟨b, off, e, hb, hc 0 _ rfl, hc 1 _ rfl, hc 2 _ rfl⟩

def acV (s : Lg) (a : Ac) : Value := .agg #[.int .i64 a.floor, .int .i64 a.bal, .int .i64 (s.held a)]
def hoV (h : Ho) : Value := .agg #[.string h.id, .string h.acct, .string h.cur, .int .i64 h.amt]
/-- what the maps hold -/
def accF (s : Lg) (k : ByteArray × ByteArray) : Option Value := (findA s.A k.1 k.2).map (acV s)
def holdF (s : Lg) (i : ByteArray) : Option Value := (findH s.H i).map hoV
/-- what a look-up tells of an account -/
def flOf (s : Lg) (n c : ByteArray) : Int := match findA s.A n c with | some a => a.floor | none => 0
def balOf (s : Lg) (n c : ByteArray) : Int := match findA s.A n c with | some a => a.bal | none => 0
def heOf (s : Lg) (n c : ByteArray) : Int := match findA s.A n c with | some a => s.held a | none => 0
def freeOf (s : Lg) (n c : ByteArray) : Int := match findA s.A n c with | some a => s.free a | none => 0
def thereB (s : Lg) (n c : ByteArray) : Bool := (findA s.A n c).isSome
theorem zeroAcc (w : World) : (zeroValue 70).run Try.prog w = .ok (.agg #[.int .i64 0, .int .i64 0, .int .i64 0]) w := by kernel_rfl
theorem zeroHold (w : World) : (zeroValue 66).run Try.prog w = .ok (.agg #[.string ⟨#[]⟩, .string ⟨#[]⟩, .string ⟨#[]⟩, .int .i64 0]) w := by kernel_rfl
theorem look_acc {W : World} {m k : Nat} {s : Lg} (hm : MapAt keyKeys W m k (accF s)) (n c : ByteArray) (hn : n.size ≤ maxLen) (hc : c.size ≤ maxLen) (b : Bool) :
    (Instr.lookup 72 (.map (some m)) (.agg #[.string n, .string c]) b).run Try.prog W = .ok (if b then .tuple #[.agg #[.int .i64 (flOf s n c), .int .i64 (balOf s n c), .int .i64 (heOf s n c)], .bool (thereB s n c)] else .agg #[.int .i64 (flOf s n c), .int .i64 (balOf s n c), .int .i64 (heOf s n c)]) W := by
  unfold flOf balOf heOf thereB
  cases hf : findA s.A n c with
  | none => exact hm.look_none (t := 72) (e := 70) Try.underlying72 (zeroAcc _) (x := (n, c)) ⟨hn, hc⟩ (by simp only [accF, hf]; rfl) b
  | some a => exact hm.look_some (t := 72) (e := 70) Try.underlying72 (zeroAcc _) (x := (n, c)) ⟨hn, hc⟩ (by simp only [accF, hf]; rfl) b
def noHo : Ho := ⟨⟨#[]⟩, ⟨#[]⟩, ⟨#[]⟩, 0⟩
def hoOf (s : Lg) (i : ByteArray) : Ho := (findH s.H i).getD noHo
theorem look_hold {W : World} {m k : Nat} {s : Lg} (hm : MapAt txtKeys W m k (holdF s)) (i : ByteArray) (hi : i.size ≤ maxLen) (b : Bool) :
    (Instr.lookup 73 (.map (some m)) (.string i) b).run Try.prog W = .ok (if b then .tuple #[hoV (hoOf s i), .bool (findH s.H i).isSome] else hoV (hoOf s i)) W := by
  unfold hoOf
  cases hf : findH s.H i with
  | none => exact hm.look_none (t := 73) (e := 66) Try.underlying73 (zeroHold _) (x := i) hi (by simp only [holdF, hf]; rfl) b
  | some a => exact hm.look_some (t := 73) (e := 66) Try.underlying73 (zeroHold _) (x := i) hi (by simp only [holdF, hf]; rfl) b

/-- a post's three cells -/
structure Pq where
  num : Int
  text : ByteArray
  A : Option Addr
  n : Nat
  c : Nat
def poR : Rowing Pq where
  sz := 3
  cells q := [.int .i64 q.num, .string q.text, .slice q.A q.n q.c]
  pos := by omega
  len _ := rfl
  one x u hu := by
    simp at hu
    rcases hu with rfl | rfl | rfl <;> rfl
/-- a ledger's blocks -/
def foot (p ma mh : Nat) (v : Value) (b : Nat) : Prop := b = p ∨ b = ma ∨ b = mh ∨ v.ownBlock = some b
/-- block p is a ledger that stands so -/
structure LedgerAt (w : World) (base p : Nat) (s : Lg) (ma mh : Nat) (v : Value) (n : Nat) : Prop where
  ok : LgOk s
  main : ∃ ow, Whole w p 75 #[.string ow, .map (some ma), v, .map (some mh)]
  acc : MapAt keyKeys w ma n (accF s)
  hol : MapAt txtKeys w mh n (holdF s)
  np : s.P.length ≤ n
  row : ∃ ts : List Pq, ts.length = s.P.length ∧ w.ownsRow base 46 poR.sz v s.P.length (ts.flatMap poR.cells) ∧
    ∀ (i : Nat) (po : Po), s.P[i]? = some po → ∃ (A : Option Addr) (c : Nat), ts[i]? = some ⟨((i + 1 : Nat) : Int), po.text, A, po.ents.length, c⟩ ∧ ListIn enR w w.heap.size A po.ents ∧ ∀ (b off : Nat), A = some ⟨b, off, none⟩ → (base ≤ b ∧ b < w.heap.size) ∧ ¬ foot p ma mh v b
  dist : p ≠ ma ∧ p ≠ mh ∧ ma ≠ mh ∧ ∀ g, v.ownBlock = some g → g ≠ p ∧ g ≠ ma ∧ g ≠ mh
  low : base ≤ p ∧ base ≤ ma ∧ base ≤ mh
section
variable {w w' : World} {base p ma mh n : Nat} {s : Lg} {v : Value}
theorem LedgerAt.rowlt (h : LedgerAt w base p s ma mh v n) : ∀ g, v.ownBlock = some g → base ≤ g ∧ g < w.heap.size := by
  obtain ⟨vs, _, h2, _⟩ := h.row
  exact h2.lt
theorem LedgerAt.lt (h : LedgerAt w base p s ma mh v n) : ∀ b, foot p ma mh v b → base ≤ b ∧ b < w.heap.size := by
  intro b hb
  rcases hb with rfl | rfl | rfl | hb
  · obtain ⟨ow, k⟩ := h.main; exact ⟨h.low.1, k.lt⟩
  · exact ⟨h.low.2.1, h.acc.lt⟩
  · exact ⟨h.low.2.2, h.hol.lt⟩
  · exact h.rowlt b hb
/-- what turns none of its blocks leaves a ledger as it stands -/
theorem LedgerAt.after (h : LedgerAt w base p s ma mh v n) (hb : Below w.heap.size w w') : LedgerAt w' base p s ma mh v n where
  ok := h.ok
  main := by obtain ⟨ow, k⟩ := h.main; exact ⟨ow, k.after hb⟩
  acc := h.acc.after hb
  hol := h.hol.after hb
  np := h.np
  row := by
    obtain ⟨vs, h1, h2, h3⟩ := h.row
    refine ⟨vs, h1, own_turn (S := fun _ => False) h2 (.of_below hb) (fun g _ hg => hg), fun i po hp => ?_⟩
    obtain ⟨A, c, e, hl, hn⟩ := h3 i po hp
    exact ⟨A, c, e, hl.after hb, fun b off e => ⟨⟨(hn b off e).1.1, Nat.lt_of_lt_of_le (hn b off e).1.2 hb.size⟩, (hn b off e).2⟩⟩
  dist := h.dist
  low := h.low
theorem LedgerAt.mono (h : LedgerAt w base p s ma mh v n) {n' : Nat} (hn : n ≤ n') : LedgerAt w base p s ma mh v n' where
  ok := h.ok
  main := h.main
  acc := h.acc.mono hn
  hol := h.hol.mono hn
  np := Nat.le_trans h.np hn
  row := h.row
  dist := h.dist
  low := h.low
theorem LedgerAt.drew (h : LedgerAt w base p s ma mh v n) : LedgerAt w.drew base p s ma mh v n := h.after (Below.refl _ _).drew
theorem LedgerAt.alloc (h : LedgerAt w base p s ma mh v n) (o : Obj) : LedgerAt (w.alloc o) base p s ma mh v n := h.after ((Below.refl _ _).alloc (Nat.le_refl _) o)
end
end Go.Proofs.Ytjihkoleipkgmaa
