/- Walk: Money's refusals. -/
import Derived.Test.YtgbheogmccfaaaaGreatMnW
namespace Go.Proofs.YtgbheogmccfaaaaGreat
set_option linter.unusedVariables false
set_option linter.unusedSimpArgs false
open Go.RowKit

def moneyE (pot : Int) (l : List Cl) : Int := if wrongC l = 1 ∨ pot < 0 ∨ 1099511627776 < pot then 1 else wrongC l
set_option maxHeartbeats 4000000 in
set_option maxRecDepth 100000 in
theorem Money_bad (l : List Cl) (A : Option Addr) (n c : Nat) (pot : Int) (w : World) (hn : n = l.length) (hlen : n ≤ 100000) (ht : ∀ x ∈ l, Txt x) (hx : ListIn clR w w.heap.size A l) (hE : moneyE pot l ≠ 0) :
    Calls Tryz.prog 18 #[.int .i64 pot, .slice A n c] w fun e w' => e = .returned (.tuple #[.slice none 0 0, .int .i64 0, .int .i64 (moneyE pot l)]) ∧ Below w.heap.size w w' := by
  have HA := hide (all_any l A n c w hn hlen hx ht)
  obtain ⟨r, hr⟩ : ∃ r, r = moneyE pot l := ⟨_, rfl⟩
  rw [← hr] at hE ⊢
  unfold moneyE at hr
  obtain ⟨k, hk⟩ : ∃ k, k = wrongC l := ⟨_, rfl⟩
  rw [← hk] at HA hr
  clear hk hn hx ht
  by_cases h1 : k = 1
  · have he : r = 1 := by rw [hr, if_pos (.inl h1)]
    subst h1
    have HE := hide he
    clear he hr hE
    go_enter Tryz.func18, Tryz.ntmps18
    go_wp2_with fail
    (with_reducible refine (unhide HA).mono ?_); rintro e w1 ⟨rfl, hb⟩
    have HB := hide hb
    clear hb
    go_wp2_with fail
    go_ret3
    exact ⟨by rw [unhide HE]; rfl, unhide HB⟩
  · have q1 : (k == 1) = false := by simpa using h1
    have q2 : decide (k = 1) = false := by simpa using h1
    by_cases h2 : pot < 0
    · have he : r = 1 := by rw [hr, if_pos (.inr (.inl h2))]
      have d2 : decide (pot < 0) = true := by simpa using h2
      have HE := hide he
      clear he hr hE h1 h2
      go_enter Tryz.func18, Tryz.ntmps18
      go_wp2_with fail
      (with_reducible refine (unhide HA).mono ?_); rintro e w1 ⟨rfl, hb⟩
      have HB := hide hb
      clear hb
      go_wp2_with fail
      go_ret3
      exact ⟨by rw [unhide HE]; rfl, unhide HB⟩
    · have d2 : decide (pot < 0) = false := by simpa using h2
      by_cases h3 : 1099511627776 < pot
      · have he : r = 1 := by rw [hr, if_pos (.inr (.inr h3))]
        have d3 : decide (1099511627776 < pot) = true := by simpa using h3
        have HE := hide he
        clear he hr hE h1 h2 h3
        go_enter Tryz.func18, Tryz.ntmps18
        go_wp2_with fail
        (with_reducible refine (unhide HA).mono ?_); rintro e w1 ⟨rfl, hb⟩
        have HB := hide hb
        clear hb
        go_wp2_with fail
        go_ret3
        exact ⟨by rw [unhide HE]; rfl, unhide HB⟩
      · have he : r = k := by rw [hr, if_neg (by omega)]
        have d3 : decide (1099511627776 < pot) = false := by simpa using h3
        have hk0 : k ≠ 0 := by rw [← he]; exact hE
        have q3 : (k == 0) = false := by simpa using hk0
        have q4 : (k != 0) = true := by simpa using hk0
        have q5 : decide (k = 0) = false := by simpa using hk0
        have HE := hide he
        clear he hr hE h1 h2 h3 hk0
        go_enter Tryz.func18, Tryz.ntmps18
        go_wp2_with fail
        (with_reducible refine (unhide HA).mono ?_); rintro e w1 ⟨rfl, hb⟩
        have HB := hide hb
        clear hb
        go_wp2_with fail
        go_ret3
        exact ⟨by rw [unhide HE]; rfl, unhide HB⟩
end Go.Proofs.YtgbheogmccfaaaaGreat
