/- Walks: the reference's Release, Transit, Export. (printed by gen_rel.py) -/
import Derived.Test.YtgalpdjmmpjddaaBoxB
namespace Go.Proofs.Ytgalpdjmmpjddaa
set_option linter.unusedVariables false
set_option linter.unusedSimpArgs false
open Go.RowKit Go.Maps

set_option maxHeartbeats 2000000 in
theorem RRelease_any (xs : List Bx) (A : Option Addr) (n c : Nat) (s : ByteArray) (paid : Int) (w : World) (hn : n = xs.length) (hlen : n ≤ 4096) (hx : ListIn bxR w w.heap.size A xs) (ha : Apart xs) :
    Calls Try.prog 38 #[.slice A n c, .string s, .int .i64 paid] w (RefQ w (left xs s 1 (relE xs s paid)) (relE xs s paid)) := by
  have HO := hide (open_any xs A n c s w hn hlen hx)
  have hxe := hx
  have HXE := hide (And.intro hn hx)
  clear hxe
  cases hf : xs.find? (named s) with
  | none =>
    have ho : opE xs s = 4 := by unfold opE; rw [hf]
    have her : (relE xs s paid) = 4 := by unfold relE thenE; rw [ho]; rfl
    rw [atI_none s xs 0 hf, ho] at HO
    rw [her]
    clear her ho hf hx hn
    go_enter Try.func38, Try.ntmps38
    go_wp2_with fail
    (with_reducible refine (unhide HO).mono ?_); rintro e w1 ⟨rfl, rfl⟩
    go_wp2_with fail
    go_ret2
    exact ⟨_, _, _, rfl, by rw [left_length]; exact (unhide HXE).1, by rw [left, if_neg (by omega)]; exact (unhide HXE).2, Below.refl _ _⟩
  | some x =>
    obtain ⟨i, h1, h2, h3⟩ := atI_some s xs 0 x hf
    rw [h1, Nat.zero_add] at HO
    have hl := left_set xs s 1 i x ha h3 hf
    have HST := hide (fun W (hb : Below w.heap.size w W) => state_any xs A n c i 1 x W hn hlen (hx.after hb) h3)
    rw [hl] at HST
    obtain ⟨b, off, rfl, hbb, _, c1, c2, c3⟩ := box_at hx h3
    rw [← hn] at h2
    have hdu : dutyAt xs s = x.duty := by unfold dutyAt; rw [hf]
    have hda : dayAt xs s = x.day := by unfold dayAt; rw [hf]
    by_cases hs0 : x.state = 0
    · have ho : opE xs s = 0 := by unfold opE; rw [hf]; exact if_pos hs0
      have i1 : (0 : Int) ≤ (i : Int) := by omega
      have i2 : (i : Int) < (n : Int) := by omega
      rw [ho] at HO
      have her : (relE xs s paid) = (if paid < x.duty then 10 else 0) := by unfold relE thenE; rw [ho, if_pos rfl, hdu]
      clear h1 h3 hf hx hn hl ho hs0 hdu hda c3 ha
      by_cases hc : paid < x.duty
      · rw [if_pos hc] at her
        rw [her]
        have hd : decide (paid < x.duty) = true := by rw [decide_eq_true_eq]; exact hc
        clear her
        go_enter Try.func38, Try.ntmps38
        go_wp2_with fail
        (with_reducible refine (unhide HO).mono ?_); rintro e w1 ⟨rfl, rfl⟩
        go_wp2_with fail
        go_ret2
        exact ⟨_, _, _, rfl, by rw [left_length]; exact (unhide HXE).1, by rw [left, if_neg (by omega)]; exact (unhide HXE).2, Below.refl _ _⟩
      · rw [if_neg hc] at her
        have hd : decide (paid < x.duty) = false := by rw [decide_eq_false_iff_not]; exact hc
        clear hc
        rw [her]
        clear her
        go_enter Try.func38, Try.ntmps38
        go_wp2_with fail
        (with_reducible refine (unhide HO).mono ?_); rintro e w1 ⟨rfl, rfl⟩
        skip
        go_wp2_with fail
        (with_reducible refine (unhide HST _ (Below.refl _ _)).mono ?_); rintro e w3 ⟨A', c', rfl, hL, hb⟩
        have HF := hide (And.intro hL hb)
        clear hL hb
        go_wp2_with fail
        go_ret2
        exact ⟨_, _, _, rfl, by rw [left_length]; exact (unhide HXE).1, (unhide HF).1, (unhide HF).2⟩
    · have ho : opE xs s = 9 := by unfold opE; rw [hf]; exact if_neg hs0
      have her : (relE xs s paid) = 9 := by unfold relE thenE; rw [ho]; rfl
      rw [ho] at HO
      rw [her]
      clear h1 h3 hf hx hn hl ho hs0 her HST hdu hda c1 c2 c3
      go_enter Try.func38, Try.ntmps38
      go_wp2_with fail
      (with_reducible refine (unhide HO).mono ?_); rintro e w1 ⟨rfl, rfl⟩
      go_wp2_with fail
      go_ret2
      exact ⟨_, _, _, rfl, by rw [left_length]; exact (unhide HXE).1, by rw [left, if_neg (by omega)]; exact (unhide HXE).2, Below.refl _ _⟩

set_option maxHeartbeats 2000000 in
theorem RTransit_any (xs : List Bx) (A : Option Addr) (n c : Nat) (s : ByteArray) (t : ByteArray) (day : Int) (w : World) (hn : n = xs.length) (hlen : n ≤ 4096) (hx : ListIn bxR w w.heap.size A xs) (ha : Apart xs) (ht : t.size ≤ maxLen) :
    Calls Try.prog 39 #[.slice A n c, .string s, .string t, .int .i64 day] w (RefQ w (left xs s 2 (traE xs s t day)) (traE xs s t day)) := by
  have HO := hide (open_any xs A n c s w hn hlen hx)
  have hxe := hx
  have HXE := hide (And.intro hn hx)
  clear hxe
  cases hf : xs.find? (named s) with
  | none =>
    have ho : opE xs s = 4 := by unfold opE; rw [hf]
    have her : (traE xs s t day) = 4 := by unfold traE thenE; rw [ho]; rfl
    rw [atI_none s xs 0 hf, ho] at HO
    rw [her]
    clear her ho hf hx hn
    go_enter Try.func39, Try.ntmps39
    go_wp2_with fail
    (with_reducible refine (unhide HO).mono ?_); rintro e w1 ⟨rfl, rfl⟩
    go_wp2_with fail
    go_ret2
    exact ⟨_, _, _, rfl, by rw [left_length]; exact (unhide HXE).1, by rw [left, if_neg (by omega)]; exact (unhide HXE).2, Below.refl _ _⟩
  | some x =>
    obtain ⟨i, h1, h2, h3⟩ := atI_some s xs 0 x hf
    rw [h1, Nat.zero_add] at HO
    have hl := left_set xs s 2 i x ha h3 hf
    have HST := hide (fun W (hb : Below w.heap.size w W) => state_any xs A n c i 2 x W hn hlen (hx.after hb) h3)
    rw [hl] at HST
    obtain ⟨b, off, rfl, hbb, _, c1, c2, c3⟩ := box_at hx h3
    rw [← hn] at h2
    have hdu : dutyAt xs s = x.duty := by unfold dutyAt; rw [hf]
    have hda : dayAt xs s = x.day := by unfold dayAt; rw [hf]
    by_cases hs0 : x.state = 0
    · have ho : opE xs s = 0 := by unfold opE; rw [hf]; exact if_pos hs0
      have i1 : (0 : Int) ≤ (i : Int) := by omega
      have i2 : (i : Int) < (n : Int) := by omega
      rw [ho] at HO
      have her : (traE xs s t day) = (if okName t = false then 1 else if x.day < day then 11 else 0) := by unfold traE thenE; rw [ho, if_pos rfl, hda]
      clear h1 h3 hf hx hn hl ho hs0 hdu hda c3 ha
      have HN := hide (Name_any t w ht)
      cases hok : okName t
      · rw [hok] at HN her
        rw [if_pos rfl] at her
        rw [her]
        clear her hok
        go_enter Try.func39, Try.ntmps39
        go_wp2_with fail
        (with_reducible refine (unhide HO).mono ?_); rintro e w1 ⟨rfl, rfl⟩
        go_wp2_with fail
        (with_reducible refine (unhide HN).mono ?_); rintro e w2 ⟨rfl, rfl⟩
        go_wp2_with fail
        go_ret2
        exact ⟨_, _, _, rfl, by rw [left_length]; exact (unhide HXE).1, by rw [left, if_neg (by omega)]; exact (unhide HXE).2, Below.refl _ _⟩
      · rw [hok] at HN her
        rw [if_neg (by simp)] at her
        clear hok
        by_cases hc : x.day < day
        · rw [if_pos hc] at her
          rw [her]
          have hd : decide (x.day < day) = true := by rw [decide_eq_true_eq]; exact hc
          clear her
          go_enter Try.func39, Try.ntmps39
          go_wp2_with fail
          (with_reducible refine (unhide HO).mono ?_); rintro e w1 ⟨rfl, rfl⟩
          go_wp2_with fail
          (with_reducible refine (unhide HN).mono ?_); rintro e w2 ⟨rfl, rfl⟩
          go_wp2_with fail
          go_ret2
          exact ⟨_, _, _, rfl, by rw [left_length]; exact (unhide HXE).1, by rw [left, if_neg (by omega)]; exact (unhide HXE).2, Below.refl _ _⟩
        · rw [if_neg hc] at her
          have hd : decide (x.day < day) = false := by rw [decide_eq_false_iff_not]; exact hc
          clear hc
          rw [her]
          clear her
          go_enter Try.func39, Try.ntmps39
          go_wp2_with fail
          (with_reducible refine (unhide HO).mono ?_); rintro e w1 ⟨rfl, rfl⟩
          go_wp2_with fail
          (with_reducible refine (unhide HN).mono ?_); rintro e w2 ⟨rfl, rfl⟩
          clear HN
          go_wp2_with fail
          (with_reducible refine (unhide HST _ (Below.refl _ _)).mono ?_); rintro e w3 ⟨A', c', rfl, hL, hb⟩
          have HF := hide (And.intro hL hb)
          clear hL hb
          go_wp2_with fail
          go_ret2
          exact ⟨_, _, _, rfl, by rw [left_length]; exact (unhide HXE).1, (unhide HF).1, (unhide HF).2⟩
    · have ho : opE xs s = 9 := by unfold opE; rw [hf]; exact if_neg hs0
      have her : (traE xs s t day) = 9 := by unfold traE thenE; rw [ho]; rfl
      rw [ho] at HO
      rw [her]
      clear h1 h3 hf hx hn hl ho hs0 her HST hdu hda c1 c2 c3
      go_enter Try.func39, Try.ntmps39
      go_wp2_with fail
      (with_reducible refine (unhide HO).mono ?_); rintro e w1 ⟨rfl, rfl⟩
      go_wp2_with fail
      go_ret2
      exact ⟨_, _, _, rfl, by rw [left_length]; exact (unhide HXE).1, by rw [left, if_neg (by omega)]; exact (unhide HXE).2, Below.refl _ _⟩

set_option maxHeartbeats 2000000 in
theorem RExport_any (xs : List Bx) (A : Option Addr) (n c : Nat) (s : ByteArray) (w : World) (hn : n = xs.length) (hlen : n ≤ 4096) (hx : ListIn bxR w w.heap.size A xs) (ha : Apart xs) :
    Calls Try.prog 41 #[.slice A n c, .string s] w (RefQ w (left xs s 2 (opE xs s)) (opE xs s)) := by
  have HO := hide (open_any xs A n c s w hn hlen hx)
  have hxe := hx
  have HXE := hide (And.intro hn hx)
  clear hxe
  cases hf : xs.find? (named s) with
  | none =>
    have ho : opE xs s = 4 := by unfold opE; rw [hf]
    have her := ho
    rw [atI_none s xs 0 hf, ho] at HO
    rw [her]
    clear her ho hf hx hn
    go_enter Try.func41, Try.ntmps41
    go_wp2_with fail
    (with_reducible refine (unhide HO).mono ?_); rintro e w1 ⟨rfl, rfl⟩
    go_wp2_with fail
    go_ret2
    exact ⟨_, _, _, rfl, by rw [left_length]; exact (unhide HXE).1, by rw [left, if_neg (by omega)]; exact (unhide HXE).2, Below.refl _ _⟩
  | some x =>
    obtain ⟨i, h1, h2, h3⟩ := atI_some s xs 0 x hf
    rw [h1, Nat.zero_add] at HO
    have hl := left_set xs s 2 i x ha h3 hf
    have HST := hide (fun W (hb : Below w.heap.size w W) => state_any xs A n c i 2 x W hn hlen (hx.after hb) h3)
    rw [hl] at HST
    obtain ⟨b, off, rfl, hbb, _, c1, c2, c3⟩ := box_at hx h3
    rw [← hn] at h2
    have hdu : dutyAt xs s = x.duty := by unfold dutyAt; rw [hf]
    have hda : dayAt xs s = x.day := by unfold dayAt; rw [hf]
    by_cases hs0 : x.state = 0
    · have ho : opE xs s = 0 := by unfold opE; rw [hf]; exact if_pos hs0
      have i1 : (0 : Int) ≤ (i : Int) := by omega
      have i2 : (i : Int) < (n : Int) := by omega
      rw [ho] at HO
      have her := ho
      clear h1 h3 hf hx hn hl ho hs0 hdu hda c3 ha
      rw [her]
      clear her
      go_enter Try.func41, Try.ntmps41
      go_wp2_with fail
      (with_reducible refine (unhide HO).mono ?_); rintro e w1 ⟨rfl, rfl⟩
      skip
      go_wp2_with fail
      (with_reducible refine (unhide HST _ (Below.refl _ _)).mono ?_); rintro e w3 ⟨A', c', rfl, hL, hb⟩
      have HF := hide (And.intro hL hb)
      clear hL hb
      go_wp2_with fail
      go_ret2
      exact ⟨_, _, _, rfl, by rw [left_length]; exact (unhide HXE).1, (unhide HF).1, (unhide HF).2⟩
    · have ho : opE xs s = 9 := by unfold opE; rw [hf]; exact if_neg hs0
      have her := ho
      rw [ho] at HO
      rw [her]
      clear h1 h3 hf hx hn hl ho hs0 her HST hdu hda c1 c2 c3
      go_enter Try.func41, Try.ntmps41
      go_wp2_with fail
      (with_reducible refine (unhide HO).mono ?_); rintro e w1 ⟨rfl, rfl⟩
      go_wp2_with fail
      go_ret2
      exact ⟨_, _, _, rfl, by rw [left_length]; exact (unhide HXE).1, by rw [left, if_neg (by omega)]; exact (unhide HXE).2, Below.refl _ _⟩
end Go.Proofs.Ytgalpdjmmpjddaa
