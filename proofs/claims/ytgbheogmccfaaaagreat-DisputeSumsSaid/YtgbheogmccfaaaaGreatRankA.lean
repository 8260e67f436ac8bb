/- Walk: Rank. -/
import Derived.Test.YtgbheogmccfaaaaGreatSrtK
namespace Go.Proofs.YtgbheogmccfaaaaGreat
set_option linter.unusedVariables false
set_option linter.unusedSimpArgs false
open Go.RowKit
set_option maxHeartbeats 2000000 in
set_option maxRecDepth 100000 in
theorem Rank_any (xs : List Cl) (A : Option Addr) (n c : Nat) (w : World) (hn : n = xs.length) (hlen : n ≤ 100000) (hx : ListIn clR w w.heap.size A xs) :
    Calls Tryz.prog 16 #[.slice A n c] w fun e w' => ∃ v, e = .returned v ∧ w'.ownsRow w.heap.size 23 clR.sz v n ((rankL xs).flatMap clR.cells) ∧ Below w.heap.size w w' := by
  have H1 := hide (CloneCl_any xs A n c w hn hlen hx)
  have HN := hide hn
  clear hx hn
  go_enter Tryz.func16, Tryz.ntmps16
  go_wp2_with fail
  (with_reducible refine (unhide H1).mono ?_); rintro e w1 ⟨v, rfl, own, hb⟩
  have H2 := hide (sortCl_any (w := w1) (unhide HN) hlen own)
  have HB := hide hb
  clear own hb H1
  go_wp2_with fail
  (with_reducible refine (unhide H2).mono ?_); rintro e w2 ⟨rfl, own, hb, hd⟩
  have HF := hide (And.intro own (And.intro hb hd))
  clear own hb hd H2
  go_wp2_with fail
  go_ret
  exact ⟨_, rfl, (unhide HF).1, (unhide HB).trans (unhide HF).2.1⟩
end Go.Proofs.YtgbheogmccfaaaaGreat
