/- Walk: the reference's Money. -/
import Derived.Test.YtgbheogmccfaaaaGreatRSpW
import Derived.Test.YtgbheogmccfaaaaGreatRefM
import Derived.Test.YtgbheogmccfaaaaGreatMnB
namespace Go.Proofs.YtgbheogmccfaaaaGreat
set_option linter.unusedVariables false
set_option linter.unusedSimpArgs false
open Go.RowKit

/-- added up to a place -/
def mixL (xs ys : List Nat) (m : Nat) : List Nat := (List.range xs.length).map fun i => xs.getD i 0 + if i < m then ys.getD i 0 else 0
theorem mix_zero (xs ys : List Nat) : mixL xs ys 0 = xs := by
  apply List.ext_getElem
  · simp [mixL]
  · intro i h1 h2; simp [mixL, h2]
theorem mix_get (xs ys : List Nat) (m i : Nat) (hi : i < xs.length) : (mixL xs ys m)[i]? = some (xs.getD i 0 + if i < m then ys.getD i 0 else 0) := by simp [mixL, hi]
theorem mix_all (xs ys : List Nat) (h : ys.length = xs.length) : mixL xs ys xs.length = List.zipWith (· + ·) xs ys := by
  apply List.ext_getElem
  · simp [mixL, h]
  · intro i h1 h2
    have hi : i < xs.length := by simpa [mixL] using h1
    have hi2 : i < ys.length := by omega
    simp [mixL, hi, hi2]
theorem mix_put (k : IntKind) (xs ys : List Nat) (m v : Nat) (hm : m < xs.length) (hv : v = xs.getD m 0 + ys.getD m 0) : (numA k (mixL xs ys m)).setIfInBounds m (.int k v) = numA k (mixL xs ys (m + 1)) := by
  rw [numA_set]
  congr 1
  apply List.ext_getElem
  · simp [mixL]
  · intro i h1 h2
    simp only [mixL, List.getElem_set, List.getElem_map, List.getElem_range]
    by_cases e : m = i
    · subst e; simp [hv]
    · rw [if_neg e]
      have : (i < m + 1) ↔ (i < m) := by omega
      simp [this]
theorem zip_at (xs ys : List Nat) (m : Nat) (h : ys.length = xs.length) (hm : m < xs.length) : (List.zipWith (· + ·) xs ys)[m]? = some (xs.getD m 0 + ys.getD m 0) := by
  rw [← mix_all xs ys h, mix_get _ _ _ _ hm, if_pos hm]
theorem fill_same (f : Nat → Nat) (n m : Nat) (h : f m = 0) : fillL f n (m + 1) = fillL f n m := by
  apply List.ext_getElem
  · simp [fillL]
  · intro i h1 h2
    simp only [fillL, List.getElem_map, List.getElem_range]
    by_cases e : i = m
    · subst e; simp [h]
    · have : (i < m + 1) ↔ (i < m) := by omega
      simp [this]
theorem stepF_small {l : List Cl} {s : List Nat × Nat} {r : Nat} (h : (wFull r l).sum ≤ s.2) : stepF l s r = (List.zipWith (· + ·) s.1 (wFull r l), s.2 - (wFull r l).sum) := by
  unfold stepF partsF
  rw [if_pos h, Nat.min_eq_left h]
theorem stepF_big {l : List Cl} {s : List Nat × Nat} {r : Nat} (h : s.2 < (wFull r l).sum) : stepF l s r = (List.zipWith (· + ·) s.1 (splitN s.2 (wFull r l)), 0) := by
  unfold stepF partsF
  rw [if_neg (by omega), Nat.min_eq_right (by omega), Nat.sub_self]
theorem roundsF_length (P : Nat) (l : List Cl) (h0 : ∀ c ∈ l, 0 ≤ c.right) (r : Nat) : (roundsF P l r).1.length = l.length := by rw [roundsF_eq P l h0 r, rounds_length]
theorem roundsF_sum (P : Nat) (l : List Cl) (h0 : ∀ c ∈ l, 0 ≤ c.right) (r : Nat) : (roundsF P l r).1.sum + (roundsF P l r).2 = P := by rw [roundsF_eq P l h0 r]; exact rounds_sum P l h0 r
theorem wFull_length (r : Int) (l : List Cl) : (wFull r l).length = l.length := by simp [wFull]
theorem wFull_at {l : List Cl} (hok : OkL l) (r : Nat) {k : Nat} {x : Cl} (hx : l[k]? = some x) : ∃ a : Nat, x.amount = a ∧ a ≤ 1099511627776 ∧ (wFull r l)[k]? = some (if x.right = (r : Int) then a else 0) := by
  have h := mayC_true (hok.1 x (List.mem_of_getElem? hx))
  refine ⟨x.amount.toNat, by omega, by omega, ?_⟩
  unfold wFull
  rw [List.getElem?_map, hx]
  rfl
theorem wFull_small {l : List Cl} (hok : OkL l) (r : Nat) : ∀ a ∈ wFull r l, a ≤ 1099511627776 := fun a ha => by
  unfold wFull at ha
  obtain ⟨x, hx, rfl⟩ := List.mem_map.1 ha
  have h := mayC_true (hok.1 x hx)
  split <;> omega
theorem cl_in2 {w : World} {B b off : Nat} {xs : List Cl} (h : ListIn clR w B (some ⟨b, off, none⟩) xs) {i : Nat} {x : Cl} (hx : xs[i]? = some x) : w.cell? ⟨b, off + i * 5 + 4, none⟩ = some (.int .i64 x.amount) := by
  obtain ⟨b', off', e, _, h'⟩ := cl_at h hx
  cases e
  exact h'.2.2.2.2
theorem numA_list (l : List Nat) : numA .i64 l = (l.flatMap (numR .i64).cells).toArray := by
  unfold numA
  congr 1
  induction l with
  | nil => rfl
  | cons x r ih => rw [List.map_cons, ih]; rfl
theorem numA_in {w : World} {p : Nat} {l : List Nat} (h : Whole w p 2 (numA .i64 l)) : ListIn (numR .i64) w w.heap.size (some ⟨p, 0, none⟩) l :=
  list_of_cells h.lt fun j u hj => by rw [h.cells, numA_list]; simpa using hj
/-- what a round has at a place -/
theorem step_at {cur ys nx : List Nat} {pr p2 P : Nat} (h : nx = List.zipWith (· + ·) cur ys) (hl : ys.length = cur.length) (hs : nx.sum + p2 = P) {j : Nat} (hj : j < cur.length) : cur.getD j 0 + ys.getD j 0 ≤ P := by
  have h1 := zip_at cur ys j hl hj
  rw [← h] at h1
  have := mem_le_sum nx _ (List.mem_of_getElem? h1)
  omega

set_option maxHeartbeats 8000000 in
set_option maxRecDepth 100000 in
theorem RMoney_any (l : List Cl) (A : Option Addr) (n c P : Nat) (w : World) (hn : n = l.length) (hok : OkL l) (hP : P ≤ 1099511627776) (hx : ListIn clR w w.heap.size A l) :
    Calls Tryz.prog 20 #[.int .i64 P, .slice A n c] w fun e w' => ∃ p, e = .returned (.tuple #[.slice (some ⟨p, 0, none⟩) n n, .int .i64 (potM P l 5)]) ∧ Whole w' p 2 (numA .i64 (roundsM P l 5).1) ∧ Below w.heap.size w w' := by
  have hlen : n ≤ 4096 := by rw [hn]; exact hok.2
  have h0 : ∀ c ∈ l, 0 ≤ c.right := fun c hc => (mayC_true (hok.1 c hc)).1
  have m1 := mk_i64 n (by omega)
  have HN := hide hn; have HX := hide hx; have HOK := hide hok; have H0 := hide h0
  have k0 := Whole.made w 2 (numA .i64 (List.replicate n 0))
  have b0 := (Below.refl w.heap.size w).alloc (Nat.le_refl _) (.cells (numA .i64 (List.replicate n 0)) 2)
  have e0 : List.replicate n 0 = (roundsF P l 0).1 := by rw [roundsF, hn]
  have K0 := hide (show Whole (w.alloc (.cells (numA .i64 (List.replicate n 0)) 2)) w.heap.size 2 (numA .i64 (roundsF P l 0).1) by rw [← e0]; exact k0)
  have B0 := hide b0
  clear hn hx hok h0 k0 b0 e0
  go_enter Tryz.func20, Tryz.ntmps20
  go_wp2_with fail
  go_loopw [0, 7] (fun pv rv wr => ∃ (r pr : Nat), r ≤ 5 ∧ rv = .int .i64 r ∧ pv = .int .i64 pr ∧ Hid (pr = (roundsF P l r).2) ∧ Whole wr w.heap.size 2 (numA .i64 (roundsF P l r).1) ∧ Below w.heap.size w wr) (fun _ rv _ => 5 - (intOf rv).toNat)
  case atStart => exact ⟨0, P, by omega, rfl, rfl, hide rfl, unhide K0, unhide B0⟩
  case round =>
    obtain ⟨r, pr, hr, rfl, rfl, HPR, hk, hb⟩ := hrel
    obtain ⟨wo, rfl⟩ : ∃ wo : World, wo = wr := ⟨_, rfl⟩
    by_cases hlt : r < 5
    · have t5 : decide ((r : Int) < 5) = true := by rw [decide_eq_true_eq]; omega
      have hcl := roundsF_length P l (unhide H0) r
      have hcs := roundsF_sum P l (unhide H0) r
      have hnl := roundsF_length P l (unhide H0) (r + 1)
      have hns := roundsF_sum P l (unhide H0) (r + 1)
      have hnx : roundsF P l (r + 1) = stepF l (roundsF P l r) r := rfl
      rw [← unhide HPR] at hcs
      have hwl := wFull_length r l
      have hws := sum_bound _ _ (wFull_small (unhide HOK) r)
      rw [hwl, ← unhide HN] at hws
      have hws2 : (wFull r l).sum ≤ 4503599627370496 := by
        have : n * 1099511627776 ≤ 4096 * 1099511627776 := Nat.mul_le_mul_right _ hlen
        omega
      have hwm := wFull_small (unhide HOK) r
      have HWA := hide (fun k x hx => wFull_at (unhide HOK) r (k := k) (x := x) hx)
      obtain ⟨wb, hwb⟩ : ∃ o, o = wo.heap.size := ⟨_, rfl⟩
      have hob2 : w.heap.size < wb := by rw [hwb]; exact hk.lt
      have kW := Whole.made_at wo 2 (numA .i64 (List.replicate n 0)) wb hwb
      have kO := hk.alloc (.cells (numA .i64 (List.replicate n 0)) 2)
      have bO := hb.alloc hb.size (.cells (numA .i64 (List.replicate n 0)) 2)
      have hsm : (roundsF P l r).2 = pr := (unhide HPR).symm
      have HSM := hide (fun (h : (wFull r l).sum ≤ pr) => (stepF_small (l := l) (s := roundsF P l r) (r := r) (by rw [hsm]; exact h)))
      have HBG := hide (fun (h : pr < (wFull r l).sum) => (stepF_big (l := l) (s := roundsF P l r) (r := r) (by rw [hsm]; exact h)))
      rw [hsm] at HSM HBG
      have HNX := hide hnx
      rw [hnx] at hnl hns
      obtain ⟨cur, hcur⟩ : ∃ q, q = (roundsF P l r).1 := ⟨_, rfl⟩
      obtain ⟨ws, hws'⟩ : ∃ q, q = wFull r l := ⟨_, rfl⟩
      obtain ⟨nx, hnx'⟩ : ∃ q, q = stepF l (roundsF P l r) r := ⟨_, rfl⟩
      rw [← hcur] at hcl hcs HSM HBG kO
      rw [← hws'] at hwl hws2 HWA HSM HBG hwm
      rw [← hnx'] at hnl hns HNX HSM HBG
      rw [← unhide HN] at hcl hwl hnl
      have H1 := hide (And.intro kO (And.intro kW bO))
      have HL := hide (And.intro hcl (And.intro hcs (And.intro hwl (And.intro hnl hns))))
      have HWM := hide hwm
      have hprP : pr ≤ P := by omega
      have HWB := hide hwb
      clear hcl hcs hwl hnl hns hws hnx kW kO bO hk hb hsm hcur hws' hnx' HPR hwm hwb
      go_wp2_with fail
      rw [← unhide HWB]
      go_loopw [9, 10] (fun s i wr => ∃ k : Nat, k ≤ n ∧ i = .int .i64 k ∧ s = .int .i64 ((ws.take k).sum : Nat) ∧ Whole wr w.heap.size 2 (numA .i64 cur) ∧ Whole wr wb 2 (numA .i64 (fillL (fun i => ws.getD i 0) n k)) ∧ Below w.heap.size w wr) (fun _ i _ => n - (intOf i).toNat)
      case atStart => exact ⟨0, by omega, rfl, rfl, (unhide H1).1, by rw [fill_zero]; exact (unhide H1).2.1, (unhide H1).2.2⟩
      case round =>
        obtain ⟨k, hk, rfl, rfl, kO, kW, hb⟩ := hrel
        obtain ⟨wi, rfl⟩ : ∃ wo : World, wo = wr := ⟨_, rfl⟩
        by_cases hlt2 : k < n
        · obtain ⟨x, hx⟩ : ∃ x, l[k]? = some x := ⟨l[k]'(by rw [← unhide HN]; exact hlt2), List.getElem?_eq_getElem _⟩
          obtain ⟨a, ha, ham, hwa⟩ := unhide HWA k x hx
          obtain ⟨b, off, rfl, hbb, c0, c1, c2, c3, c4⟩ := cl_at ((unhide HX).below hb) hx
          rw [ha] at c4
          have hst := sum_take_succ ws k _ hwa
          have hsl := sum_take_le ws (k + 1)
          have hget : ws.getD k 0 = (if x.right = (r : Int) then a else 0) := by simp only [List.getD, hwa, Option.getD_some]
          have i1 : (0 : Int) ≤ (k : Int) := by omega
          have i2 : (k : Int) < (n : Int) := by omega
          obtain ⟨s0, hs0⟩ : ∃ s, s = (ws.take k).sum := ⟨_, rfl⟩
          obtain ⟨s1, hs1⟩ : ∃ s, s = (ws.take (k + 1)).sum := ⟨_, rfl⟩
          rw [← hs0] at hst ⊢
          rw [← hs1] at hst hsl
          have HS1 := hide hs1
          by_cases hr' : x.right = (r : Int)
          · rw [if_pos hr'] at hst hget
            have t1 : (x.right == (r : Int)) = true := by simpa using hr'
            have cw : IntKind.i64.wrap ((s0 : Int) + (a : Int)) = (s1 : Int) := wrapI (by omega) (by omega)
            have fq := fill_put .i64 (fun i => ws.getD i 0) n k a hget.symm
            have gW := kW.cells k
            rw [numA_get, fill_get _ _ _ _ hlt2] at gW
            simp only [Option.map_some] at gW
            have sW := kW.soft k
            have kO2 := kO.putFar (p := ⟨wb, k, none⟩) (by show w.heap.size ≠ wb; omega) (.int .i64 a)
            have kW2 := kW.put k (.int .i64 a)
            rw [fq] at kW2
            have b2 := hb.setCell (p := ⟨wb, k, none⟩) (Nat.le_of_lt hob2) (.int .i64 a)
            have c4' : (wi.setCell ⟨wb, k, none⟩ (.int .i64 a)).cell? ⟨b, off + k * 5 + 4, none⟩ = some (.int .i64 a) := by
              have := cl_in2 ((unhide HX).below b2) hx
              rw [ha] at this; exact this
            have H3 := hide (And.intro kO2 (And.intro kW2 b2))
            clear hst hsl hget hs0 hs1 hr' fq kO kW hb kO2 kW2 b2 hx hwa ha
            go_wp2_with fail
            go_roundw
            case rel => exact ⟨k + 1, by omega, by go_num, by rw [unhide HS1], (unhide H3).1, (unhide H3).2.1, (unhide H3).2.2⟩
            case measure => simp [intOf]; omega
          · rw [if_neg hr'] at hst hget
            have t1 : (x.right == (r : Int)) = false := by simpa using hr'
            have fq := fill_same (fun i => ws.getD i 0) n k hget
            rw [← fq] at kW
            have hs01 : s0 = s1 := by omega
            have H3 := hide (And.intro kO (And.intro kW (And.intro hb hs01)))
            clear hst hsl hget hs0 hs1 hr' fq kO kW hb hx hwa ha hs01
            go_wp2_with fail
            go_roundw
            case rel => exact ⟨k + 1, by omega, by go_num, by rw [(unhide H3).2.2.2, unhide HS1], (unhide H3).1, (unhide H3).2.1, (unhide H3).2.2.1⟩
            case measure => simp [intOf]; omega
        · have hkn : k = n := by omega
          subst hkn
          have hwl := (unhide HL).2.2.1
          have fW : fillL (fun i => ws.getD i 0) k k = ws := by have h := fill_all ws; rwa [hwl] at h
          rw [fW] at kW
          have hsS : (ws.take k).sum = ws.sum := by rw [List.take_of_length_le (by omega)]
          rw [hsS]
          have hns := (unhide HL).2.2.2.2
          obtain ⟨S, hS⟩ : ∃ S, S = ws.sum := ⟨_, rfl⟩
          rw [← hS]
          have HSS := hide hS
          have H5 := hide (And.intro kO (And.intro kW hb))
          have hbs := hb.size
          by_cases hle : ws.sum ≤ pr
          · have t1 : decide (S ≤ pr) = true := by rw [hS]; simpa using hle
            have t2 : decide ((S : Int) ≤ (pr : Int)) = true := by rw [hS]; simp; omega
            have HLEQ := hide hle
            have HYL := hide hwl
            have HLE := hide (fun j hj => step_at (cur := cur) (ys := ws) (nx := nx.1) (pr := pr) (p2 := nx.2) (P := P) (by rw [unhide HSM (unhide HLEQ)]) (by rw [hwl, (unhide HL).1]) hns (j := j) hj)
            clear hwl fW kO kW hb hsS hns hS hle
            go_wp2_with fail
            go_loopw [11] (fun i wr => ∃ j : Nat, j ≤ k ∧ i = .int .i64 j ∧ Whole wr w.heap.size 2 (numA .i64 (mixL cur ws j)) ∧ Whole wr wb 2 (numA .i64 ws) ∧ Below w.heap.size w wr) (fun i _ => k - (intOf i).toNat)
            case atStart => exact ⟨0, by omega, rfl, by rw [mix_zero]; exact (unhide H5).1, (unhide H5).2.1, (unhide H5).2.2⟩
            case round =>
              obtain ⟨j, hj, rfl, kO, kY, hb⟩ := hrel
              obtain ⟨wj, rfl⟩ : ∃ wo : World, wo = wr := ⟨_, rfl⟩
              by_cases hlt3 : j < k
              · have hjc : j < cur.length := by rw [(unhide HL).1]; exact hlt3
                have hjy : j < (ws).length := by rw [unhide HYL]; exact hlt3
                have hle := unhide HLE j hjc
                have gO := kO.drew.cells j
                have gY := kY.drew.cells j
                have sO := kO.drew.soft j
                rw [numA_get, mix_get _ _ _ _ hjc, if_neg (by omega), Nat.add_zero] at gO
                rw [numA_get, List.getElem?_eq_getElem hjy] at gY
                have hgy : (ws)[j] = (ws).getD j 0 := by simp [List.getD, hjy]
                rw [hgy] at gY
                simp only [Option.map_some] at gO gY
                obtain ⟨x, hx⟩ : ∃ x, x = cur.getD j 0 := ⟨_, rfl⟩
                obtain ⟨y, hy⟩ : ∃ x, x = (ws).getD j 0 := ⟨_, rfl⟩
                obtain ⟨z, hz⟩ : ∃ z, z = x + y := ⟨_, rfl⟩
                rw [← hx] at gO
                rw [← hy] at gY
                rw [← hx, ← hy, ← hz] at hle
                have cw : IntKind.i64.wrap ((x : Int) + (y : Int)) = (z : Int) := wrapI (by omega) (by omega)
                have hput := mix_put .i64 cur (ws) j z hjc (by rw [hz, hx, hy])
                have gO2 : wj.cell? ⟨w.heap.size, j, none⟩ = some (.int .i64 x) := gO
                have gY2 : wj.cell? ⟨wb, j, none⟩ = some (.int .i64 y) := gY
                have sO2 : wj.frozen? ⟨w.heap.size, j, none⟩ = false := sO
                have kO3 := (kO.put j (.int .i64 z)).drew
                rw [hput] at kO3
                have kY3 := (kY.putFar (p := ⟨w.heap.size, j, none⟩) (by show wb ≠ w.heap.size; omega) (.int .i64 z)).drew
                have b3 := (hb.setCell (p := ⟨w.heap.size, j, none⟩) (Nat.le_refl _) (.int .i64 z)).drew
                have H6 := hide (And.intro kO3 (And.intro kY3 b3))
                have j1 : (0 : Int) ≤ (j : Int) := by omega
                have j2 : (j : Int) < (k : Int) := by omega
                clear kO kY hb hle hgy hx hy hz hput kO3 kY3 b3 hjc hjy
                go_wp2_with fail
                refine wp_tail 12 (by kernel_rfl) (by kernel_rfl) ?_
                simp only [List.take_succ_cons, List.take_zero, List.drop_succ_cons, List.drop_zero]
                repeat still_step
                refine wpStill_nil ?_
                go_wp2_with fail
                go_roundw
                case rel => exact ⟨j + 1, by omega, by go_num, (unhide H6).1, (unhide H6).2.1, (unhide H6).2.2⟩
                case measure => simp [intOf]; omega
              · have hjn : j = k := by omega
                subst hjn
                have hfull : mixL cur ws j = nx.1 := by
                  have h := unhide HSM (unhide HLEQ)
                  have hl := (unhide HL).1
                  rw [← hl, mix_all cur ws (by rw [(unhide HL).2.2.1, hl]), h]
                rw [hfull] at kO
                have hp2 : pr - S = nx.2 := by rw [unhide HSM (unhide HLEQ), unhide HSS]
                obtain ⟨p2, hp2'⟩ : ∃ q, q = pr - S := ⟨_, rfl⟩
                have hsle := unhide HLEQ
                rw [← unhide HSS] at hsle
                have cp : IntKind.i64.wrap ((pr : Int) - (S : Int)) = (p2 : Int) := wrapI (by omega) (by omega)
                rw [← hp2'] at hp2
                rw [← unhide HNX] at kO hp2
                have HF := hide (And.intro hp2 (And.intro kO hb))
                clear hp2 hp2' kO kY hb hfull hsle
                go_wp2_with fail
                go_roundw
                case rel => exact ⟨r + 1, p2, by omega, by go_num, rfl, hide (unhide HF).1, (unhide HF).2.1, (unhide HF).2.2⟩
                case measure => simp [intOf]; omega
          · have t1 : decide (S ≤ pr) = false := by rw [hS]; simpa using hle
            have t2 : decide ((S : Int) ≤ (pr : Int)) = false := by rw [hS]; rw [decide_eq_false_iff_not]; omega
            have hlt4 : pr < ws.sum := by omega
            have HLEQ := hide hlt4
            have HSP := hide (RSplit_any pr ws (some ⟨wb, 0, none⟩) k k wi hwl.symm hlen (by omega) (unhide HWM) (by omega) (numA_in kW))
            have hsl := splitN_length pr ws
            rw [hwl] at hsl
            have HLE := fun j hj => step_at (cur := cur) (ys := splitN pr ws) (nx := nx.1) (pr := pr) (p2 := nx.2) (P := P) (by rw [unhide HBG (unhide HLEQ)]) (by rw [hsl, (unhide HL).1]) hns (j := j) hj
            obtain ⟨ys, hys⟩ : ∃ y, y = splitN pr ws := ⟨_, rfl⟩
            rw [← hys] at HSP hsl HLE
            have HLE := hide HLE
            have HYL := hide hsl; have HYS := hide hys
            have hobi : w.heap.size < wi.heap.size := kO.lt
            have HKO := hide kO; have HB := hide hb
            clear hwl fW kO kW hb hsS hns hS hle hsl hys H5 hlt4
            go_wp2_with fail
            (with_reducible refine (unhide HSP).mono ?_); rintro e w3 ⟨p, rfl, hp, hpb, hb3⟩
            have H5 := hide (And.intro ((unhide HKO).after hb3) (And.intro hp ((unhide HB).trans (hb3.mono (unhide HB).size))))
            have hpo : w.heap.size < p := by omega
            clear hp hpb hb3 HKO HB HSP
            go_wp2_with fail
            go_loopw [13] (fun i wr => ∃ j : Nat, j ≤ k ∧ i = .int .i64 j ∧ Whole wr w.heap.size 2 (numA .i64 (mixL cur ys j)) ∧ Whole wr p 2 (numA .i64 ys) ∧ Below w.heap.size w wr) (fun i _ => k - (intOf i).toNat)
            case atStart => exact ⟨0, by omega, rfl, by rw [mix_zero]; exact (unhide H5).1, (unhide H5).2.1, (unhide H5).2.2⟩
            case round =>
              obtain ⟨j, hj, rfl, kO, kY, hb⟩ := hrel
              obtain ⟨wj, rfl⟩ : ∃ wo : World, wo = wr := ⟨_, rfl⟩
              by_cases hlt3 : j < k
              · have hjc : j < cur.length := by rw [(unhide HL).1]; exact hlt3
                have hjy : j < (ys).length := by rw [unhide HYL]; exact hlt3
                have hle := unhide HLE j hjc
                have gO := kO.drew.cells j
                have gY := kY.drew.cells j
                have sO := kO.drew.soft j
                rw [numA_get, mix_get _ _ _ _ hjc, if_neg (by omega), Nat.add_zero] at gO
                rw [numA_get, List.getElem?_eq_getElem hjy] at gY
                have hgy : (ys)[j] = (ys).getD j 0 := by simp [List.getD, hjy]
                rw [hgy] at gY
                simp only [Option.map_some] at gO gY
                obtain ⟨x, hx⟩ : ∃ x, x = cur.getD j 0 := ⟨_, rfl⟩
                obtain ⟨y, hy⟩ : ∃ x, x = (ys).getD j 0 := ⟨_, rfl⟩
                obtain ⟨z, hz⟩ : ∃ z, z = x + y := ⟨_, rfl⟩
                rw [← hx] at gO
                rw [← hy] at gY
                rw [← hx, ← hy, ← hz] at hle
                have cw : IntKind.i64.wrap ((x : Int) + (y : Int)) = (z : Int) := wrapI (by omega) (by omega)
                have hput := mix_put .i64 cur (ys) j z hjc (by rw [hz, hx, hy])
                have gO2 : wj.cell? ⟨w.heap.size, j, none⟩ = some (.int .i64 x) := gO
                have gY2 : wj.cell? ⟨p, j, none⟩ = some (.int .i64 y) := gY
                have sO2 : wj.frozen? ⟨w.heap.size, j, none⟩ = false := sO
                have kO3 := (kO.put j (.int .i64 z)).drew
                rw [hput] at kO3
                have kY3 := (kY.putFar (p := ⟨w.heap.size, j, none⟩) (by show p ≠ w.heap.size; omega) (.int .i64 z)).drew
                have b3 := (hb.setCell (p := ⟨w.heap.size, j, none⟩) (Nat.le_refl _) (.int .i64 z)).drew
                have H6 := hide (And.intro kO3 (And.intro kY3 b3))
                have j1 : (0 : Int) ≤ (j : Int) := by omega
                have j2 : (j : Int) < (k : Int) := by omega
                clear kO kY hb hle hgy hx hy hz hput kO3 kY3 b3 hjc hjy
                go_wp2_with fail
                refine wp_tail 12 (by kernel_rfl) (by kernel_rfl) ?_
                simp only [List.take_succ_cons, List.take_zero, List.drop_succ_cons, List.drop_zero]
                repeat still_step
                refine wpStill_nil ?_
                go_wp2_with fail
                go_roundw
                case rel => exact ⟨j + 1, by omega, by go_num, (unhide H6).1, (unhide H6).2.1, (unhide H6).2.2⟩
                case measure => simp [intOf]; omega
              · have hjn : j = k := by omega
                subst hjn
                have hfull : mixL cur ys j = nx.1 := by
                  have h := unhide HBG (unhide HLEQ)
                  have hl := (unhide HL).1
                  rw [← hl, mix_all cur ys (by rw [unhide HYL, hl]), h, unhide HYS]
                rw [hfull] at kO
                have hp2 : 0 = nx.2 := by rw [unhide HBG (unhide HLEQ)]
                rw [← unhide HNX] at kO hp2
                have HF := hide (And.intro hp2 (And.intro kO hb))
                clear hp2 kO kY hb hfull
                go_wp2_with fail
                go_roundw
                case rel => exact ⟨r + 1, 0, by omega, by go_num, rfl, hide (unhide HF).1, (unhide HF).2.1, (unhide HF).2.2⟩
                case measure => simp [intOf]; omega
    · have hr5 : r = 5 := by omega
      subst hr5
      have e1 : (roundsF P l 5).1 = (roundsM P l 5).1 := by rw [roundsF_eq P l (unhide H0)]
      have e2 : pr = potM P l 5 := by rw [unhide HPR, roundsF_eq P l (unhide H0)]
      rw [e1] at hk
      have HF := hide (And.intro e2 (And.intro hk hb))
      clear e1 e2 hk hb
      go_wp2_with fail
      go_ret2
      exact ⟨w.heap.size, by rw [← (unhide HF).1]; rfl, (unhide HF).2.1, (unhide HF).2.2⟩
end Go.Proofs.YtgbheogmccfaaaaGreat
