/- Walks: what is free, a balance; put, keep, less. -/
import Derived.Test.YtjihkoleipkgmaaLgK
import Derived.Test.YtjihkoleipkgmaaLgN
namespace Go.Proofs.Ytjihkoleipkgmaa
set_option linter.unusedVariables false
set_option linter.unusedSimpArgs false
open Go.RowKit Go.Maps

theorem look_accT {W : World} {m k : Nat} {s : Lg} (hm : MapAt keyKeys W m k (accF s)) (n c : ByteArray) (hn : n.size ≤ maxLen) (hc : c.size ≤ maxLen) :
    (Instr.lookup 72 (.map (some m)) (.agg #[.string n, .string c]) true).run Try.prog W = .ok (.tuple #[.agg #[.int .i64 (flOf s n c), .int .i64 (balOf s n c), .int .i64 (heOf s n c)], .bool (thereB s n c)]) W := look_acc hm n c hn hc true
theorem look_accF {W : World} {m k : Nat} {s : Lg} (hm : MapAt keyKeys W m k (accF s)) (n c : ByteArray) (hn : n.size ≤ maxLen) (hc : c.size ≤ maxLen) :
    (Instr.lookup 72 (.map (some m)) (.agg #[.string n, .string c]) false).run Try.prog W = .ok (.agg #[.int .i64 (flOf s n c), .int .i64 (balOf s n c), .int .i64 (heOf s n c)]) W := look_acc hm n c hn hc false
theorem look_holdT {W : World} {m k : Nat} {s : Lg} (hm : MapAt txtKeys W m k (holdF s)) (i : ByteArray) (hi : i.size ≤ maxLen) :
    (Instr.lookup 73 (.map (some m)) (.string i) true).run Try.prog W = .ok (.tuple #[.agg #[.string (hoOf s i).id, .string (hoOf s i).acct, .string (hoOf s i).cur, .int .i64 (hoOf s i).amt], .bool (findH s.H i).isSome]) W := look_hold hm i hi true
/-- what is known of the numbers that a look-up tells -/
theorem look_small {s : Lg} (h : LgOk s) (n c : ByteArray) : -mostI ≤ flOf s n c ∧ flOf s n c ≤ 0 ∧ -mostI ≤ balOf s n c ∧ balOf s n c ≤ mostI ∧ 0 ≤ heOf s n c ∧ heOf s n c ≤ 2 * mostI ∧ balOf s n c - heOf s n c - flOf s n c = freeOf s n c ∧ 0 ≤ freeOf s n c ∧ freeOf s n c ≤ 2 * mostI := by
  unfold flOf balOf heOf freeOf
  cases hf : findA s.A n c with
  | none => simp only; unfold mostI; omega
  | some a =>
    obtain ⟨h1, h2, h3, h4, h5, h6, h7, h8⟩ := h.small (findA_some hf).1
    simp only
    refine ⟨h1, h2, h3, h4, h5, h6, ?_, h7, h8⟩
    unfold Lg.free
    omega

section
set_option maxHeartbeats 1000000
theorem free_any (f b h r : Int) (w : World) (hf : -1099511627776 ≤ f ∧ f ≤ 0) (hb : -1099511627776 ≤ b ∧ b ≤ 1099511627776) (hh : 0 ≤ h ∧ h ≤ 2199023255552) (hr : b - h - f = r) :
    Calls Try.prog 32 #[.agg #[.int .i64 f, .int .i64 b, .int .i64 h]] w fun e w' => e = .returned (.int .i64 r) ∧ Below w.heap.size w w' := by
  obtain ⟨d, hd⟩ : ∃ d, d = b - h := ⟨_, rfl⟩
  have c1 : IntKind.i64.wrap (b - h) = d := by rw [← hd]; exact IntWalk.i64_in _ (by omega)
  have c2 : IntKind.i64.wrap (d - f) = r := by rw [← hr, ← hd]; exact IntWalk.i64_in _ (by omega)
  clear hf hb hh hr hd
  go_enter Try.func32, Try.ntmps32
  go_wp2_with fail
  go_ret
  exact ⟨rfl, (Below.refl _ _).alloc (Nat.le_refl _) _⟩
end

set_option maxHeartbeats 2000000 in
theorem Balance_any (w : World) (base p ma mh k : Nat) (s : Lg) (v : Value) (n c : ByteArray) (h : LedgerAt w base p s ma mh v k) (hn : n.size ≤ maxLen) (hc : c.size ≤ maxLen) :
    Calls Try.prog 15 #[.pointer (some ⟨p, 0, none⟩), .string n, .string c] w fun e w' => e = .returned (.tuple #[.int .i64 (balOf s n c), .bool (thereB s n c)]) ∧ Below w.heap.size w w' := by
  obtain ⟨ow, hW⟩ := h.main
  have cP := hW.cells
  have hl := look_accT h.acc n c hn hc
  generalize flOf s n c = q1 at *
  generalize balOf s n c = q2 at *
  generalize heOf s n c = q3 at *
  generalize thereB s n c = q4 at *
  clear h hW hn hc
  go_enter Try.func15, Try.ntmps15
  go_wp2_with fail
  go_ret2
  exact ⟨rfl, (Below.refl _ _).alloc (Nat.le_refl _) _⟩

set_option maxHeartbeats 2000000 in
theorem Free_any (w : World) (base p ma mh k : Nat) (s : Lg) (v : Value) (n c : ByteArray) (h : LedgerAt w base p s ma mh v k) (hn : n.size ≤ maxLen) (hc : c.size ≤ maxLen) :
    Calls Try.prog 18 #[.pointer (some ⟨p, 0, none⟩), .string n, .string c] w fun e w' => e = .returned (.tuple #[.int .i64 (freeOf s n c), .bool (thereB s n c)]) ∧ Below w.heap.size w w' := by
  obtain ⟨ow, hW⟩ := h.main
  have cP := hW.cells
  have hl := look_accT h.acc n c hn hc
  have hs := look_small h.ok n c
  unfold mostI at hs
  generalize flOf s n c = q1 at *
  generalize balOf s n c = q2 at *
  generalize heOf s n c = q3 at *
  generalize thereB s n c = q4 at *
  generalize freeOf s n c = q5 at *
  have HF := hide (fun W => free_any q1 q2 q3 q5 W (by omega) (by omega) (by omega) (by omega))
  clear h hW hn hc hs
  go_enter Try.func18, Try.ntmps18
  go_wp2_with fail
  (with_reducible refine (unhide HF _).mono ?_); rintro e w1 ⟨rfl, hb⟩
  have HB := hide (((Below.refl w.heap.size w).alloc (Nat.le_refl _) (.cells #[.int .i64 q1, .int .i64 q2, .int .i64 q3] 70)).trans (hb.mono (by simp)))
  clear hb
  go_wp2_with fail
  go_ret2
  exact ⟨rfl, unhide HB⟩
end Go.Proofs.Ytjihkoleipkgmaa
