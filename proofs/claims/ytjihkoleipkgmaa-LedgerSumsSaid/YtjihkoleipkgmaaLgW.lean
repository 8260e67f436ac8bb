/- The document's example. -/
import Derived.Test.YtjihkoleipkgmaaLgV
namespace Go.Proofs.Ytjihkoleipkgmaa
set_option linter.unusedVariables false
set_option linter.unusedSimpArgs false
open Go.RowKit Go.Maps

def eur : ByteArray := ⟨#[69, 85, 82]⟩
def aw1 : Lg := openS ⟨[], [], []⟩ ⟨#[97]⟩ ⟨#[69, 85, 82]⟩ 0
def aw2 : Lg := openS aw1 ⟨#[98]⟩ ⟨#[69, 85, 82]⟩ (-100)
def awX : List En := [⟨⟨#[97]⟩, ⟨#[69, 85, 82]⟩, 30⟩, ⟨⟨#[98]⟩, ⟨#[69, 85, 82]⟩, -30⟩]
def aw3 : Lg := bookS aw2 ⟨#[120]⟩ awX
def aw4 : Lg := holdS aw3 ⟨#[104]⟩ ⟨#[97]⟩ ⟨#[69, 85, 82]⟩ 20
def aw5 : Lg := takeS aw4 (hoOf aw4 ⟨#[104]⟩) ⟨#[98]⟩ 5 (takeT ⟨#[104]⟩)
theorem aw_e1 : openE ⟨[], [], []⟩ ⟨#[97]⟩ ⟨#[69, 85, 82]⟩ 0 = 0 := by kernel_rfl
theorem aw_e2 : openE aw1 ⟨#[98]⟩ ⟨#[69, 85, 82]⟩ (-100) = 0 := by kernel_rfl
theorem aw_e3 : postE aw2 ⟨#[120]⟩ awX = 0 := by kernel_rfl
theorem aw_n3 : postN aw2 ⟨#[120]⟩ awX = 1 := by kernel_rfl
theorem aw_e4 : holdE aw3 ⟨#[104]⟩ ⟨#[97]⟩ ⟨#[69, 85, 82]⟩ 20 = 0 := by kernel_rfl
theorem aw_f4 : freeOf aw4 ⟨#[97]⟩ ⟨#[69, 85, 82]⟩ = 10 := by kernel_rfl
theorem aw_t4 : thereB aw4 ⟨#[97]⟩ ⟨#[69, 85, 82]⟩ = true := by kernel_rfl
theorem aw_e5 : takeE aw4 ⟨#[104]⟩ ⟨#[98]⟩ 5 = 0 := by kernel_rfl
theorem aw_b5 : balOf aw5 ⟨#[97]⟩ ⟨#[69, 85, 82]⟩ = 25 := by kernel_rfl
theorem aw_h5 : aw5.H = [⟨⟨#[104]⟩, ⟨#[97]⟩, ⟨#[69, 85, 82]⟩, 15⟩] := by kernel_rfl
theorem aw_c5 : wrap64 (totOf aw5 ⟨#[69, 85, 82]⟩) = 0 := by kernel_rfl
theorem aw_hs {gs : List Ho} (h : HoldsOf aw5 gs) : gs = [⟨⟨#[104]⟩, ⟨#[97]⟩, ⟨#[69, 85, 82]⟩, 15⟩] := by
  have hm := h.mem
  rw [aw_h5] at hm
  simp only [List.mem_singleton] at hm
  match gs, h.rise, hm with
  | [], _, hm => exact absurd ((hm _).2 rfl) (by simp)
  | [x], _, hm => rw [(hm x).1 (by simp)]
  | x :: y :: t, hr, hm =>
    have h1 := (hm x).1 (by simp)
    have h2 := (hm y).1 (by simp)
    have h3 := (List.pairwise_cons.1 hr).1 y (by simp)
    rw [h1, h2] at h3
    exact absurd h3 (List.lt_irrefl _)

set_option maxHeartbeats 8000000 in
set_option maxRecDepth 100000 in
theorem awake_any (w : World) : Calls Try.prog 9 #[] w fun e w' => e = .returned (.bool true) ∧ Below w.heap.size w w' := by
  go_enter Try.func9, Try.ntmps9
  go_wp2_with fail
  (with_reducible refine (New_any _ _).mono ?_); rintro e w1 ⟨rfl, hL, hb⟩
  have H1 := hide (And.intro hL hb)
  clear hL hb
  go_wp2_with fail
  (with_reducible refine (Open_any w1 _ _ _ _ _ _ _ _ _ _ (unhide H1).1 (by omega) (by decide) (by decide)).mono ?_); rintro e w2 ⟨rfl, hq⟩
  rw [aw_e1]
  have H2 : Hid (LedgerAt w2 w.heap.size (w.heap.size + 2) aw1 w.heap.size (w.heap.size + 1) (.slice none 0 0) 1 ∧ Below w.heap.size w w2) := by
    unfold OpenQ at hq
    rw [if_pos aw_e1] at hq
    exact hide ⟨hq.1, turn_below (unhide H1).2 (unhide H1).1 hq.2⟩
  clear hq
  go_wp2_with fail
  (with_reducible refine (Open_any w2 _ _ _ _ _ _ _ _ _ _ (unhide H2).1 (by omega) (by decide) (by decide)).mono ?_); rintro e w3 ⟨rfl, hq⟩
  rw [aw_e2]
  have H3 : Hid (LedgerAt w3 w.heap.size (w.heap.size + 2) aw2 w.heap.size (w.heap.size + 1) (.slice none 0 0) 2 ∧ Below w.heap.size w w3) := by
    unfold OpenQ at hq
    rw [if_pos aw_e2] at hq
    exact hide ⟨hq.1, turn_below (unhide H2).2 (unhide H2).1 hq.2⟩
  clear hq
  go_wp2_with fail
  have hlx : ListIn enR (w3.alloc (.cells #[.string ⟨#[97]⟩, .string ⟨#[69, 85, 82]⟩, .int .i64 30, .string ⟨#[98]⟩, .string ⟨#[69, 85, 82]⟩, .int .i64 (-30)] 44)) (w3.alloc (.cells #[.string ⟨#[97]⟩, .string ⟨#[69, 85, 82]⟩, .int .i64 30, .string ⟨#[98]⟩, .string ⟨#[69, 85, 82]⟩, .int .i64 (-30)] 44)).heap.size (some ⟨w3.heap.size, 0, none⟩) awX := list_made enR w3 w3.heap.size rfl 44 awX
  have hb3 := (Below.refl w3.heap.size w3).alloc (Nat.le_refl _) (.cells #[.string ⟨#[97]⟩, .string ⟨#[69, 85, 82]⟩, .int .i64 30, .string ⟨#[98]⟩, .string ⟨#[69, 85, 82]⟩, .int .i64 (-30)] 44)
  have hL3 := (unhide H3).1.after hb3
  have hB3 := (unhide H3).2.trans (hb3.mono (unhide H3).2.size)
  have hP := Post_any _ _ _ _ _ _ _ _ ⟨#[120]⟩ awX (some ⟨w3.heap.size, 0, none⟩) 2 2 hL3 (by omega) hlx rfl (by omega) (by decide) (by decide) (fun _ b off e hf => by
    have h1 := ((unhide H3).1.lt b hf).2
    cases e
    omega)
  have HP := hide hP
  have HB3 := hide (And.intro hL3 hB3)
  clear hlx hb3 hL3 hB3 hP
  (with_reducible refine (unhide HP).mono ?_); rintro e w4 ⟨rfl, hq⟩
  rw [aw_e3, aw_n3]
  have H4 : Hid (∃ v, LedgerAt w4 w.heap.size (w.heap.size + 2) aw3 w.heap.size (w.heap.size + 1) v 3 ∧ Below w.heap.size w w4) := by
    obtain ⟨v', h1, h2, _⟩ := hq
    rw [if_pos aw_e3] at h1
    exact hide ⟨v', h1, turn_below (unhide HB3).2 (unhide HB3).1 h2⟩
  clear hq HP
  obtain ⟨v4, h4⟩ := unhide H4
  have H4' := hide h4
  clear h4
  go_wp2_with fail
  (with_reducible refine (Hold_any w4 _ _ _ _ _ _ _ _ _ _ _ (unhide H4').1 (by omega) (by decide) (by decide) (by decide)).mono ?_); rintro e w5 ⟨rfl, hq⟩
  rw [aw_e4]
  have H5 : Hid (LedgerAt w5 w.heap.size (w.heap.size + 2) aw4 w.heap.size (w.heap.size + 1) v4 4 ∧ Below w.heap.size w w5) := by
    unfold HoldQ at hq
    rw [if_pos aw_e4] at hq
    exact hide ⟨hq.1, turn_below (unhide H4').2 (unhide H4').1 hq.2⟩
  clear hq
  go_wp2_with fail
  (with_reducible refine (Free_any w5 _ _ _ _ _ _ _ _ _ (unhide H5).1 (by decide) (by decide)).mono ?_); rintro e w6 ⟨rfl, hb⟩
  rw [aw_f4, aw_t4]
  have H6 := hide (And.intro ((unhide H5).1.after hb) ((unhide H5).2.trans (hb.mono (unhide H5).2.size)))
  clear hb
  go_wp2_with fail
  (with_reducible refine (Take_any w6 _ _ _ _ _ _ _ _ _ _ (unhide H6).1 (by omega) (by decide) (by decide) (ok_holds (unhide H6).1.ok) (by omega)).mono ?_); rintro e w7 ⟨rfl, hq⟩
  rw [aw_e5]
  have H7 : Hid (∃ v, LedgerAt w7 w.heap.size (w.heap.size + 2) aw5 w.heap.size (w.heap.size + 1) v 6 ∧ Below w.heap.size w w7) := by
    obtain ⟨v', h1, h2, _⟩ := hq
    rw [if_pos aw_e5] at h1
    exact hide ⟨v', h1, turn_below (unhide H6).2 (unhide H6).1 h2⟩
  clear hq
  obtain ⟨v7, h7⟩ := unhide H7
  have H7' := hide h7
  clear h7
  go_wp2_with fail
  (with_reducible refine (Balance_any w7 _ _ _ _ _ _ _ _ _ (unhide H7').1 (by decide) (by decide)).mono ?_); rintro e w8 ⟨rfl, hb⟩
  rw [aw_b5]
  have H8 := hide (And.intro ((unhide H7').1.after hb) ((unhide H7').2.trans (hb.mono (unhide H7').2.size)))
  clear hb
  go_wp2_with fail
  (with_reducible refine (Holds_any w8 _ _ _ _ _ _ _ (unhide H8).1 (by omega)).mono ?_); rintro e w9 ⟨A9, c9, gs, rfl, hgs, hl9, hc9, hm9, -, hb⟩
  have hgs1 := aw_hs hgs
  subst hgs1
  obtain ⟨b, off, rfl, hbb, c0⟩ := hl9.at (i := 0) rfl
  have c3 := c0 3 _ rfl
  have H9 := hide (And.intro ((unhide H8).1.after hb) ((unhide H8).2.trans (hb.mono (unhide H8).2.size)))
  have hlen : ([⟨⟨#[104]⟩, ⟨#[97]⟩, ⟨#[69, 85, 82]⟩, 15⟩] : List Ho).length = 1 := rfl
  rw [hlen] at hc9 ⊢
  simp only [Nat.zero_mul, Nat.add_zero] at c3
  clear hb hgs hl9 c0 hlen
  go_wp2_with fail
  (with_reducible refine (Total_any w9 _ _ _ _ _ _ _ _ (unhide H9).1 (by omega) (by decide)).mono ?_); rintro e w10 ⟨rfl, hb⟩
  rw [aw_c5]
  have H10 := hide ((unhide H9).2.trans (hb.mono (unhide H9).2.size))
  clear hb c3
  go_wp2_with fail
  go_ret
  exact ⟨rfl, unhide H10⟩
end Go.Proofs.Ytjihkoleipkgmaa
