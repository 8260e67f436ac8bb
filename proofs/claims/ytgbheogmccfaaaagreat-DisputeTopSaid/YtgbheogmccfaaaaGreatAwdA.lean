/- Walk: who gets which thing. -/
import Derived.Test.YtgbheogmccfaaaaGreatKeyA
import Derived.Test.YtgbheogmccfaaaaGreatRankA
import Derived.Test.YtgbheogmccfaaaaGreatMnB
import Derived.Test.YtgbheogmccfaaaaGreatAwdP
namespace Go.Proofs.YtgbheogmccfaaaaGreat
set_option linter.unusedVariables false
set_option linter.unusedSimpArgs false
open Go.RowKit Go.Maps

/-- an award: a thing, and a name -/
def awR : Rowing (ByteArray × ByteArray) where
  sz := 2
  cells x := [.string x.1, .string x.2]
  pos := by omega
  len _ := rfl
  one x u hu := by
    simp at hu
    rcases hu with rfl | rfl <;> rfl
theorem info_aw : (Tryz.prog.info? 49).map (fun i => (i.zero, i.size, i.bytes)) = some (some (.agg #[.string ⟨#[]⟩, .string ⟨#[]⟩]), 2, 32) := by kernel_rfl
theorem zeroStr (w : World) : (zeroValue 9).run Tryz.prog w = .ok (.string ⟨#[]⟩) w := by kernel_rfl
theorem own_below {w w' : World} {base e size n : Nat} {v : Value} {xs : List Value} (h : w.ownsRow base e size v n xs) (hb : Below w.heap.size w w') : w'.ownsRow base e size v n xs :=
  h.kept (row := none) ⟨hb.os, hb.tape, hb.output, hb.size, fun i hi _ => hb.block i hi⟩ (by cases v.ownBlock <;> simp)
/-- who stands first for a thing -/
def bestF (r : List Cl) (s : ByteArray) : Option Value := (r.find? (ofThing s)).map fun c => .string c.name
theorem bestF_take (r : List Cl) (k : Nat) (x : Cl) (hx : r[k]? = some x) (s : ByteArray) : bestF (r.take (k + 1)) s = if bestF (r.take k) s = none ∧ s = x.thing then some (.string x.name) else bestF (r.take k) s := by
  have hk : k < r.length := (List.getElem?_eq_some_iff.1 hx).1
  unfold bestF
  rw [List.take_succ_eq_append_getElem hk, (List.getElem?_eq_some_iff.1 hx).2, List.find?_append]
  cases h : (r.take k).find? (ofThing s) with
  | some c => simp
  | none =>
    by_cases e : s = x.thing
    · subst e; simp [ofThing]
    · have e' : ¬ x.thing = s := fun h => e h.symm
      simp [ofThing, e, e']
/-- the awards are those -/
theorem awards_of (l : List Cl) (ks : List ByteArray) (ht : ∀ c ∈ l, c.thing.size ≤ maxLen) (hr : Rising ks) (hm : ∀ s, s ∈ ks ↔ s.size ≤ maxLen ∧ (bestF (rankL l) s).isSome = true) :
    ∃ a : List (ByteArray × ByteArray), AwardsOf l a ∧ a.length = ks.length ∧ ∀ (i : Nat) (s : ByteArray), ks[i]? = some s → ∃ nm, a[i]? = some (s, nm) ∧ bestF (rankL l) s = some (.string nm) := by
  have hf : ∀ s, s ∈ ks → ∃ c, (rankL l).find? (ofThing s) = some c := fun s hs => by
    have := ((hm s).1 hs).2
    unfold bestF at this
    rw [Option.isSome_map] at this
    exact Option.isSome_iff_exists.1 this
  refine ⟨ks.map fun s => (s, (((rankL l).find? (ofThing s)).map Cl.name).getD ⟨#[]⟩), ⟨?_, ?_⟩, by simp, ?_⟩
  · rw [List.pairwise_map]; exact hr
  · intro t nm
    rw [List.mem_map]
    constructor
    · rintro ⟨s, hs, e⟩
      obtain ⟨c, hc⟩ := hf s hs
      rw [hc] at e
      simp at e
      obtain ⟨rfl, rfl⟩ := e
      exact ⟨c, (wins_find l s c).1 hc, rfl⟩
    · rintro ⟨c, hw, rfl⟩
      have hc := (wins_find l t c).2 hw
      refine ⟨t, (hm t).2 ⟨by rw [← hw.2.1]; exact ht c hw.1, by unfold bestF; rw [hc]; rfl⟩, by rw [hc]; rfl⟩
  · intro i s hs
    obtain ⟨c, hc⟩ := hf s (List.mem_of_getElem? hs)
    refine ⟨c.name, by rw [List.getElem?_map, hs, Option.map_some, hc]; rfl, by unfold bestF; rw [hc]; rfl⟩

set_option maxHeartbeats 8000000 in
set_option maxRecDepth 100000 in
theorem Award_ok (l : List Cl) (A : Option Addr) (n c : Nat) (w : World) (hn : n = l.length) (hok : OkL l) (ht : ∀ x ∈ l, Txt x) (hx : ListIn clR w w.heap.size A l) :
    Calls Tryz.prog 22 #[.slice A n c] w fun e w' => ∃ v a, e = .returned (.tuple #[v, .int .i64 0]) ∧ AwardsOf l a ∧ a.length ≤ n ∧ w'.ownsRow w.heap.size 49 awR.sz v a.length (a.flatMap awR.cells) ∧ Below w.heap.size w w' := by
  have hlen : n ≤ 4096 := by rw [hn]; exact hok.2
  have hw0 : wrongC l = 0 := by
    unfold wrongC
    have h1 : l.any badC = false := by
      rw [List.any_eq_false]; intro x hx; simp [badC, hok.1 x hx]
    rw [h1, if_neg (by simp), if_neg (by have := hok.2; omega)]
  have HA := hide (all_any l A n c w hn (by omega) hx ht)
  rw [hw0] at HA
  obtain ⟨i0, hi0, hz0, hz1, hz2⟩ := info_parts info_aw
  have HI := hide (And.intro hi0 (And.intro hz0 (And.intro hz1 hz2)))
  have HR := hide (fun W (h : ListIn clR W W.heap.size A l) => Rank_any l A n c W hn (by omega) h)
  have HX := hide hx; have HT := hide ht
  have HM := hide (fun (x : Cl) (h : x ∈ rankL l) => ht x ((rankL_mem l x).1 h))
  have HRL := hide (show n = (rankL l).length by rw [rankL_length]; exact hn)
  have hmm := @run_makeMap Tryz.prog
  clear hn hok ht hx hw0 hi0 hz0 hz1 hz2
  go_enter Tryz.func22, Tryz.ntmps22
  go_wp2_with fail
  (with_reducible refine (unhide HA).mono ?_); rintro e w1 ⟨rfl, hb⟩
  have HB1 := hide hb
  clear hb HA
  go_wp2_with fail
  have hX1 := ((unhide HX).after (unhide HB1)).alloc (.map #[] 0)
  (with_reducible refine (unhide HR _ hX1).mono ?_); rintro e w2 ⟨v, rfl, own, hb⟩
  have hM2 := (MapAt.made txtKeys w1).after hb
  have hB2 := ((unhide HB1).alloc (unhide HB1).size (.map #[] 0)).trans (hb.mono (by have := (unhide HB1).size; simp; omega))
  have hms := (unhide HB1).size
  obtain ⟨mb, hmb⟩ : ∃ m, m = w1.heap.size := ⟨_, rfl⟩
  rw [← hmb] at hM2 hms ⊢
  have own2 := ownsRow_base_a own (show mb + 1 ≤ (w1.alloc (.map #[] 0)).heap.size by rw [hmb]; simp)
  obtain ⟨A2, c2, rfl, hc1, hc2, hnr, hL⟩ := list_of_own own2
  unfold maxLen at hc2
  have H2 := hide (And.intro own2 (And.intro hM2 hB2))
  have HMS := hide hms
  clear hX1 own hb hM2 hB2 hms hmb own2 hnr hL hmm
  go_wp2_with fail
  go_loopw [22] (fun i wr => ∃ k : Nat, k ≤ n ∧ i = .int .i64 k ∧ wr.ownsRow (mb + 1) 23 clR.sz (.slice A2 n c2) n ((rankL l).flatMap clR.cells) ∧ MapAt txtKeys wr mb k (bestF ((rankL l).take k)) ∧ Below w.heap.size w wr) (fun i _ => n - (intOf i).toNat)
  case atStart => exact ⟨0, by omega, rfl, (unhide H2).1, ((unhide H2).2.1).congr fun x _ => rfl, (unhide H2).2.2⟩
  case round =>
    obtain ⟨k, hk, rfl, hown, hM, hb⟩ := hrel
    obtain ⟨wo, rfl⟩ : ∃ wo : World, wo = wr := ⟨_, rfl⟩
    by_cases hlt : k < n
    · obtain ⟨x, hx⟩ : ∃ x, (rankL l)[k]? = some x := ⟨(rankL l)[k]'(by rw [← unhide HRL]; exact hlt), List.getElem?_eq_getElem _⟩
      obtain ⟨A2', c2', e2, _, _, _, hL⟩ := list_of_own hown
      obtain ⟨rfl, rfl⟩ : A2 = A2' ∧ c2 = c2' := by cases e2; exact ⟨rfl, rfl⟩
      obtain ⟨b, off, rfl, hbb, c0, c1, c2_, c3, c4⟩ := cl_at hL hx
      have hst := bestF_take _ k x hx
      obtain ⟨ht1, ht2⟩ := unhide HM x (List.mem_of_getElem? hx)
      have i1 : (0 : Int) ≤ (k : Int) := by omega
      have i2 : (k : Int) < (n : Int) := by omega
      have a5 := Whole.made wo 23 #[.string x.name, .string x.thing, .int .i64 x.right, .int .i64 x.day, .int .i64 x.amount]
      have ab := hb.alloc hb.size (.cells #[.string x.name, .string x.thing, .int .i64 x.right, .int .i64 x.day, .int .i64 x.amount] 23)
      have aM := hM.alloc (.cells #[.string x.name, .string x.thing, .int .i64 x.right, .int .i64 x.day, .int .i64 x.amount] 23)
      have ao := hown.alloc (.cells #[.string x.name, .string x.thing, .int .i64 x.right, .int .i64 x.day, .int .i64 x.amount] 23)
      have hlk : (bestF ((rankL l).take k) x.thing = none ∧ ∀ W : World, MapAt txtKeys W mb k (bestF ((rankL l).take k)) → (Instr.lookup 62 (.map (some mb)) (.string x.thing) true).run Tryz.prog W = .ok (.tuple #[.string ⟨#[]⟩, .bool false]) W) ∨
          (bestF ((rankL l).take k) x.thing ≠ none ∧ ∃ s : ByteArray, ∀ W : World, MapAt txtKeys W mb k (bestF ((rankL l).take k)) → (Instr.lookup 62 (.map (some mb)) (.string x.thing) true).run Tryz.prog W = .ok (.tuple #[.string s, .bool true]) W) := by
        cases hff : bestF ((rankL l).take k) x.thing with
        | none => exact .inl ⟨rfl, fun W hm => hm.look_none (t := 62) (e := 9) Tryz.underlying62 (zeroStr _) (x := x.thing) ht2 hff true⟩
        | some y =>
          obtain ⟨s, rfl⟩ : ∃ s : ByteArray, y = .string s := by
            unfold bestF at hff
            obtain ⟨d, _, rfl⟩ := Option.map_eq_some_iff.1 hff
            exact ⟨_, rfl⟩
          exact .inr ⟨by simp, s, fun W hm => hm.look_some (t := 62) (e := 9) Tryz.underlying62 (zeroStr _) (x := x.thing) ht2 hff true⟩
      have HST := hide hst; have HG := hide ht2
      have HP := hide (And.intro ao (And.intro aM ab))
      clear hx hst ht1 ht2 hL hown hM hb ao ab
      rcases hlk with ⟨hno, hlk⟩ | ⟨hno, s, hlk⟩
      · have hl1 := hlk _ aM
        have HNO := hide hno; have A5 := hide a5
        have cX := a5.cells
        clear hlk hno aM a5
        go_wp2_with (at_mapUpdate; refine wpList_put _ rfl _ _ _ 62 rfl (J := txtKeys) Tryz.underlying62 rfl (unhide HP).2.1 (by unfold maxLen; omega) (y := x.thing) (unhide HG) (val := .string x.name) rfl rfl ?_; intro w4 hm4 hg4; have H4 := hide (And.intro hm4 hg4); clear hm4 hg4; go_frame)
        go_roundw
        case rel =>
          obtain ⟨ao, aM, ab⟩ := unhide HP
          obtain ⟨hm4, hg4⟩ := unhide H4
          have hne : ∀ g, (Value.slice (some ⟨b, off, none⟩) n c2).ownBlock = some g → mb + 1 ≤ g := fun g hg => (ao.lt g hg).1
          refine ⟨k + 1, by omega, by go_num, ao.kept hg4 ?_, hm4.congr fun y _ => ?_, ab.grown hg4 ab.size (fun j hj => by simp at hj; have := unhide HMS; omega)⟩
          · cases hv : (Value.slice (some ⟨b, off, none⟩) n c2).ownBlock with
            | none => exact .inl rfl
            | some g => right; intro e; injection e with e; have := hne g hv; omega
          · rw [unhide HST]
            by_cases e : y = x.thing
            · subst e; rw [if_pos rfl, if_pos ⟨unhide HNO, rfl⟩]
            · rw [if_neg e, if_neg (fun h => e h.2)]
        case measure => simp [intOf]; omega
      · have hl1 := hlk _ aM
        have HNO := hide hno; have A5 := hide a5
        have cX := a5.cells
        clear hlk hno aM a5
        go_wp2_with fail
        go_roundw
        case rel =>
          obtain ⟨ao, aM, ab⟩ := unhide HP
          refine ⟨k + 1, by omega, by go_num, ao, (aM.mono (by omega)).congr fun y _ => ?_, ab⟩
          rw [unhide HST, if_neg]
          rintro ⟨h1, rfl⟩
          exact unhide HNO h1
        case measure => simp [intOf]; omega
    · have hkn : k = n := by omega
      subst hkn
      have hfull : (rankL l).take k = rankL l := List.take_of_length_le (by rw [← unhide HRL]; omega)
      rw [hfull] at hM
      have HB := hide hb; have HMM := hide hM
      clear hown hb hM hfull
      go_wp2_with fail
      (with_reducible refine (mapsKeys_any _ _).mono ?_); rintro e w3 ⟨rfl, rfl⟩
      go_wp2_with fail
      (with_reducible refine (sortedKeys_any mb k (bestF (rankL l)) wo (unhide HMM) (by omega)).mono ?_); rintro e w4 ⟨vk, ks, rfl, hri, hks, hkl, hrow, hb4⟩
      obtain ⟨A4, c4, rfl, hc4, hc5, -, hL4⟩ := list_of_own hrow
      unfold maxLen at hc5
      have hM4 := (unhide HMM).after hb4
      have hB4 := (unhide HB).trans (hb4.mono (unhide HB).size)
      obtain ⟨a, ha, hal, hat⟩ := awards_of l ks (fun c hc => (unhide HT c hc).2) hri hks
      obtain ⟨m, hm⟩ : ∃ m, m = ks.length := ⟨_, rfl⟩
      rw [← hm] at hkl hal hc4 ⊢
      have H4 := hide (And.intro hL4 (And.intro hM4 hB4))
      have HAT := hide hat
      have HAW := hide (And.intro ha hal)
      have HKM := hide hm; have HKS := hide hks
      clear hrow hL4 hM4 hB4 ha hal hat hm hks hri hb4 HMM HB
      obtain ⟨hi0, hz0, hz1, hz2⟩ := unhide HI
      go_wp2_with fail
      go_loopw [10, 45] (fun o i wr => ∃ (j : Nat) (v0 : Value), j ≤ m ∧ i = .int .i64 j ∧ o = v0 ∧ wr.ownsRow w4.heap.size 49 awR.sz v0 (a.take j).length ((a.take j).flatMap awR.cells) ∧ Below w4.heap.size w4 wr) (fun _ i _ => m - (intOf i).toNat)
      case atStart => exact ⟨0, _, by omega, rfl, rfl, World.ownsRow_nil _ _ _ _, Below.refl _ _⟩
      case round =>
        obtain ⟨j, v0, hj, rfl, rfl, own, hb⟩ := hrel
        obtain ⟨wq, rfl⟩ : ∃ wq : World, wq = wr := ⟨_, rfl⟩
        by_cases hlt : j < m
        · obtain ⟨s, hs⟩ : ∃ s, ks[j]? = some s := ⟨ks[j]'(by rw [← unhide HKM]; exact hlt), List.getElem?_eq_getElem _⟩
          obtain ⟨nm, hnm, hbs⟩ := unhide HAT j s hs
          obtain ⟨b4, off4, rfl, hbb, c0⟩ := txt_at ((unhide H4).1.below hb) hs
          have hsz : s.size ≤ maxLen := ((unhide HKS s).1 (List.mem_of_getElem? hs)).1
          have hlk : (Instr.lookup 62 (.map (some mb)) (.string s) false).run Tryz.prog wq = .ok (.string nm) wq := ((unhide H4).2.1.below hb (unhide H4).2.1.lt).look_some (t := 62) (e := 9) Tryz.underlying62 (zeroStr _) (x := s) hsz hbs false
          have htk : a.take j ++ [(s, nm)] = a.take (j + 1) := by
            rw [List.take_add_one, hnm]; rfl
          have hyl : (a.take j).length ≤ 100000 := by rw [List.length_take]; omega
          have hws := hb.size
          have i1 : (0 : Int) ≤ (j : Int) := by omega
          have i2 : (j : Int) < (m : Int) := by omega
          have HO := hide own; have HB := hide hb; have HTK := hide htk
          clear own hb htk hs hnm hbs hsz
          go_wp2_with (at_builtin; refine wpList_push awR rfl (.tmp 49) (.tmp 55) 45 rfl w4.heap.size 49 i0 _ 32 Tryz.underlying45 hi0 hz0 hz1 hz2 rfl (by omega) rfl (unhide HO) (s, nm) rfl rfl hyl hws ?_; intro v1 w5 own1 hg1; have H5 := hide (And.intro own1 hg1); clear own1 hg1)
          go_roundw
          case rel =>
            obtain ⟨own1, hg1⟩ := unhide H5
            rw [unhide HTK] at own1
            exact ⟨j + 1, _, by omega, by go_num, rfl, own1, below_grown (unhide HB) (unhide HO) (Nat.le_refl _) hg1⟩
          case measure => simp [intOf]; omega
        · have hjm : j = m := by omega
          subst hjm
          rw [List.take_of_length_le (by rw [(unhide HAW).2]; omega)] at own
          have HF := hide (And.intro own hb)
          clear own hb
          go_wp2_with fail
          go_ret2
          have hsz := (unhide H4).2.2.size
          exact ⟨_, a, rfl, (unhide HAW).1, by rw [(unhide HAW).2]; exact hkl, ownsRow_base_a (unhide HF).1 hsz, (unhide H4).2.2.trans ((unhide HF).2.mono hsz)⟩
end Go.Proofs.YtgbheogmccfaaaaGreat
