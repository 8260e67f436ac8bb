/- Walk: the library's Div64. -/
import Derived.Test.YtgbheogmccfaaaaGreatBits
import Derived.Test.YtgbheogmccfaaaaGreatKnuth
namespace Go.Proofs.YtgbheogmccfaaaaGreat
set_option linter.unusedVariables false
set_option linter.unusedSimpArgs false
open Go.RowKit

theorem tdivE (a b : Nat) : ((a : Int).tdiv (b : Int)) = (a : Int) / (b : Int) := by simp
theorem tdivN (a b : Nat) : ((a : Int).tdiv (b : Int)) = ((a / b : Nat) : Int) := by simp
theorem wrapSub {x y : Nat} (h : y ≤ x) (hx : x < 18446744073709551616) : IntKind.u64.wrap ((x : Int) - (y : Int)) = ((x - y : Nat) : Int) := by rw [IntKind.wrap_u64]; omega
theorem wrapMod {a b c v : Nat} (h : a + b = c + v) (hv : v < 18446744073709551616) : IntKind.u64.wrap (IntKind.u64.wrap (IntKind.u64.wrap (a : Int) + (b : Int)) - IntKind.u64.wrap (c : Int)) = (v : Int) := by
  simp only [IntKind.wrap_u64]; omega

theorem wrapMod3 {n b c v : Nat} (h : n * 4294967296 + b = c + v) (hv : v < 18446744073709551616) : IntKind.u64.wrap (IntKind.u64.wrap (IntKind.u64.wrap ((n : Int) * 4294967296) + (b : Int)) - IntKind.u64.wrap (c : Int)) = (v : Int) := by
  simp only [IntKind.wrap_u64]; omega
theorem wrapJoin {Q a b : Nat} (h : Q = a * 4294967296 + b) (ha : a < 4294967296) (hb : b < 4294967296) : IntKind.u64.wrap (IntKind.u64.wrap ((a : Int) * 4294967296) + (b : Int)) = (Q : Int) := by
  simp only [IntKind.wrap_u64]; omega
theorem wrapDiv (a b : Nat) (h : a < 18446744073709551616) : IntKind.u64.wrap ((a:Int).tdiv (b:Int)) = ((a / b : Nat) : Int) := by
  have h2 := Nat.div_le_self a b
  rw [tdivN]
  exact Mul64.wrapN _ (by omega)
theorem wrapRem (a b : Nat) (h : a < 18446744073709551616) : IntKind.u64.wrap ((a:Int) - IntKind.u64.wrap (((a / b : Nat) : Int) * (b:Int))) = ((a % b : Nat) : Int) := by
  have h2 := Nat.div_add_mod' a b
  have h3 := Nat.div_mul_le_self a b
  rw [Mul64.mulN, Mul64.wrapN _ (by omega), wrapSub h3 h]
  congr 1; omega

theorem glueN0 {un L m : Nat} (hm : m = un * 4294967296 + L / 4294967296) : m * 4294967296 + L % 4294967296 = un * 18446744073709551616 + L := by omega
theorem glueN {un L N m : Nat} (hN : un * 18446744073709551616 + L = N) (hm : m = un * 4294967296 + L / 4294967296) : m * 4294967296 + L % 4294967296 = N := (glueN0 hm).trans hN
theorem wrapDec {q q' : Nat} (h : q = q' + 1) (hq : q < 18446744073709551616) : IntKind.u64.wrap ((q : Int) - 1) = (q' : Int) := by rw [IntKind.wrap_u64]; omega
theorem wrapInc {a b c : Nat} (h : a + b = c) (hc : c < 18446744073709551616) : IntKind.u64.wrap ((a : Int) + (b : Int)) = (c : Int) := by rw [IntKind.wrap_u64]; omega
theorem wrapTim {a b c : Nat} (h : a * b = c) (hc : c < 18446744073709551616) : IntKind.u64.wrap ((a : Int) * (b : Int)) = (c : Int) := by rw [Mul64.mulN, h]; exact Mul64.wrapN _ hc
theorem wrapTst {r u c : Nat} (h : 4294967296 * r + u = c) (hc : c < 18446744073709551616) : IntKind.u64.wrap (IntKind.u64.wrap (4294967296 * (r : Int)) + (u : Int)) = (c : Int) := by simp only [IntKind.wrap_u64]; omega

/-- what one round of the loop comes to, in the words of the walk -/
inductive Rnd (y1 y0 u T q r : Nat) (inv : Nat → Nat → Prop) : Prop
  | goA (q' r' : Nat) (hq : decide ((4294967296 : Int) ≤ (q : Int)) = true) (h1 : IntKind.u64.wrap ((q : Int) - 1) = (q' : Int)) (h2 : IntKind.u64.wrap ((r : Int) + (y1 : Int)) = (r' : Int)) (hr : decide ((4294967296 : Int) ≤ (r' : Int)) = false) (hi : inv q' r') (hm : q' < q)
  | goB (q' r' p c : Nat) (hq : decide ((4294967296 : Int) ≤ (q : Int)) = false) (h3 : IntKind.u64.wrap ((q : Int) * (y0 : Int)) = (p : Int)) (h4 : IntKind.u64.wrap (IntKind.u64.wrap (4294967296 * (r : Int)) + (u : Int)) = (c : Int)) (hc : c < p)
      (h1 : IntKind.u64.wrap ((q : Int) - 1) = (q' : Int)) (h2 : IntKind.u64.wrap ((r : Int) + (y1 : Int)) = (r' : Int)) (hr : decide ((4294967296 : Int) ≤ (r' : Int)) = false) (hi : inv q' r') (hm : q' < q)
  | endA (r' : Nat) (hq : decide ((4294967296 : Int) ≤ (q : Int)) = true) (h1 : IntKind.u64.wrap ((q : Int) - 1) = (T : Int)) (h2 : IntKind.u64.wrap ((r : Int) + (y1 : Int)) = (r' : Int)) (hr : decide ((4294967296 : Int) ≤ (r' : Int)) = true)
  | endB (r' p c : Nat) (hq : decide ((4294967296 : Int) ≤ (q : Int)) = false) (h3 : IntKind.u64.wrap ((q : Int) * (y0 : Int)) = (p : Int)) (h4 : IntKind.u64.wrap (IntKind.u64.wrap (4294967296 * (r : Int)) + (u : Int)) = (c : Int)) (hc : c < p)
      (h1 : IntKind.u64.wrap ((q : Int) - 1) = (T : Int)) (h2 : IntKind.u64.wrap ((r : Int) + (y1 : Int)) = (r' : Int)) (hr : decide ((4294967296 : Int) ≤ (r' : Int)) = true)
  | endC (p c : Nat) (hq : decide ((4294967296 : Int) ≤ (q : Int)) = false) (h3 : IntKind.u64.wrap ((q : Int) * (y0 : Int)) = (p : Int)) (h4 : IntKind.u64.wrap (IntKind.u64.wrap (4294967296 * (r : Int)) + (u : Int)) = (c : Int)) (hc : ¬ c < p) (hT : q = T)

theorem geT {q : Nat} (h : 4294967296 ≤ q) : decide ((4294967296 : Int) ≤ (q : Int)) = true := by rw [decide_eq_true_eq]; omega
theorem geF {q : Nat} (h : q < 4294967296) : decide ((4294967296 : Int) ≤ (q : Int)) = false := by rw [decide_eq_false_iff_not]; omega

/-- the loop's invariant -/
def Ginv (un y1 T q r : Nat) : Prop := q * y1 + r = un ∧ T ≤ q ∧ q ≤ 4294967297 ∧ r < 4294967296

theorem rnd_of {un u y1 y0 q r T : Nat} (hy1 : 1 ≤ y1) (hy1' : y1 < 4294967296) (hy0 : y0 < 4294967296) (hu : u < 4294967296) (hun : un < y1 * 4294967296 + y0) (hT : T = (un * 4294967296 + u) / (y1 * 4294967296 + y0)) (h : Ginv un y1 T q r) :
    Rnd y1 y0 u T q r (Ginv un y1 T) := by
  obtain ⟨i1, i2, i3, i4⟩ := h
  have hTB : T < 4294967296 := by rw [hT]; exact quot_small hun hu
  have hk := knuth_step (B := 4294967296) (un1 := u) (by omega : y0 ≤ 4294967296) (by omega) hT (by omega) hTB i1 i2 (by omega)
  rcases hk with ⟨a, b, c, d, e⟩ | ⟨a, b, c, d, e, f⟩ | ⟨a, b, c⟩ | ⟨a, b, c, d⟩ | ⟨a, b, c⟩
  · exact .goA (q - 1) (r + y1) (geT a) (wrapDec (by omega) (by omega)) (wrapInc rfl (by omega)) (geF b) ⟨c, d, e, b⟩ (by omega)
  · have hp := Lib.half_mul_le (a := q) (b := y0) (by omega) (by omega)
    have hq0 : 0 < q := by
      rcases Nat.eq_zero_or_pos q with h0 | h0
      · subst h0; simp at b
      · exact h0
    exact .goB (q - 1) (r + y1) (q * y0) (4294967296 * r + u) (geF a) (wrapTim rfl (by omega)) (wrapTst rfl (by omega)) b (wrapDec (by omega) (by omega)) (wrapInc rfl (by omega)) (geF c) ⟨d, e, f, c⟩ (by omega)
  · exact .endA (r + y1) (geT a) (wrapDec c (by omega)) (wrapInc rfl (by omega)) (geT b)
  · have hp := Lib.half_mul_le (a := q) (b := y0) (by omega) (by omega)
    exact .endB (r + y1) (q * y0) (4294967296 * r + u) (geF a) (wrapTim rfl (by omega)) (wrapTst rfl (by omega)) b (wrapDec d (by omega)) (wrapInc rfl (by omega)) (geT c)
  · have hp := Lib.half_mul_le (a := q) (b := y0) (by omega) (by omega)
    exact .endC (q * y0) (4294967296 * r + u) (geF a) (wrapTim rfl (by omega)) (wrapTst rfl (by omega)) (by omega) c

theorem ginv_start {un u y1 y0 T : Nat} (hy1 : 2147483648 ≤ y1) (hy1' : y1 < 4294967296) (hy0 : y0 < 4294967296) (hu : u < 4294967296) (hun : un < y1 * 4294967296 + y0) (hT : T = (un * 4294967296 + u) / (y1 * 4294967296 + y0)) :
    Ginv un y1 T (un / y1) (un % y1) :=
  ⟨Nat.div_add_mod' un y1, by rw [hT]; exact guess_ge (by omega) hu, guess_le (B := 4294967296) (by omega) (by omega) hy0 hun, by have := Nat.mod_lt un (show 0 < y1 by omega); omega⟩

/-- the numbers of one division of two words -/
structure Dv (hi lo y s Y y1 y0 un u1 u0 T1 v T2 r2 : Nat) : Prop where
  e1 : IntKind.u64.wrap ((y:Int)*2^s) = (Y:Int)
  e2 : (Y:Int)/4294967296 = (y1:Int)
  e3 : bits .and .u64 (Y:Int) 4294967295 = (y0:Int)
  e4 : bits .or .u64 (IntKind.u64.wrap ((hi:Int) * 2 ^ s)) ((lo:Int) / 2 ^ (64 - s)) = (un:Int)
  e6 : IntKind.u64.wrap ((lo:Int) * 2 ^ s) / 4294967296 = (u1:Int)
  e7 : bits .and .u64 (IntKind.u64.wrap ((lo:Int) * 2 ^ s)) 4294967295 = (u0:Int)
  e8 : IntKind.u64.wrap ((un:Int).tdiv (y1:Int)) = ((un / y1 : Nat) : Int)
  e9 : IntKind.u64.wrap ((un:Int) - IntKind.u64.wrap (((un / y1 : Nat) : Int) * (y1:Int))) = ((un % y1 : Nat) : Int)
  e10 : IntKind.u64.wrap (IntKind.u64.wrap (IntKind.u64.wrap ((un:Int) * 4294967296) + (u1:Int)) - IntKind.u64.wrap ((T1:Int) * (Y:Int))) = (v:Int)
  e11 : IntKind.u64.wrap ((v:Int).tdiv (y1:Int)) = ((v / y1 : Nat) : Int)
  e12 : IntKind.u64.wrap ((v:Int) - IntKind.u64.wrap (((v / y1 : Nat) : Int) * (y1:Int))) = ((v % y1 : Nat) : Int)
  e13 : IntKind.u64.wrap (IntKind.u64.wrap ((T1:Int) * 4294967296) + (T2:Int)) = (((hi * 18446744073709551616 + lo) / y : Nat) : Int)
  e14 : IntKind.u64.wrap (IntKind.u64.wrap (IntKind.u64.wrap ((v:Int) * 4294967296) + (u0:Int)) - IntKind.u64.wrap ((T2:Int) * (Y:Int))) / 2 ^ s = (((hi * 18446744073709551616 + lo) % y : Nat) : Int)
  b1 : 2147483648 ≤ y1
  b1' : y1 < 4294967296
  b0 : y0 < 4294967296
  bu1 : u1 < 4294967296
  bu0 : u0 < 4294967296
  hY : Y = y1 * 4294967296 + y0
  hun : un < y1 * 4294967296 + y0
  hv : v < y1 * 4294967296 + y0
  t1 : T1 = (un * 4294967296 + u1) / (y1 * 4294967296 + y0)
  t2 : T2 = (v * 4294967296 + u0) / (y1 * 4294967296 + y0)
  s64 : s ≤ 63

theorem bitLen_lt (y : Nat) (hy : y < 18446744073709551616) : y < 2 ^ Lib.bitLen y := by
  rcases Nat.lt_or_ge y (2 ^ Lib.bitLen y) with h | h
  · exact h
  · have h1 := Lib.bitLen_shift (Lib.bitLen y) y h hy
    have hq : y / 2 ^ Lib.bitLen y ≠ 0 := by
      have := Nat.div_pos h (Nat.two_pow_pos _)
      omega
    have h2 := Lib.bitLen_half _ hq (Nat.lt_of_le_of_lt (Nat.div_le_self _ _) hy)
    omega
theorem bitLen_ge (y : Nat) (h0 : y ≠ 0) (hy : y < 18446744073709551616) : 1 ≤ Lib.bitLen y ∧ 2 ^ (Lib.bitLen y - 1) ≤ y := by
  have h1 := Lib.bitLen_half y h0 hy
  refine ⟨by omega, ?_⟩
  rcases Nat.lt_or_ge y (2 ^ (Lib.bitLen y - 1)) with h | h
  · have hl := Lib.bitLen_le y 64 (by omega) (by omega)
    have := Lib.bitLen_le y (Lib.bitLen y - 1) (by omega) h
    omega
  · exact h

theorem dv_of (hi lo y s : Nat) (hy0 : y ≠ 0) (hy : y < 18446744073709551616) (hlo : lo < 18446744073709551616) (hhi : hi < y) (hs : s = 64 - Lib.bitLen y) :
    ∃ Y y1 y0 un u1 u0 T1 v T2 r2, Dv hi lo y s Y y1 y0 un u1 u0 T1 v T2 r2 := by
  have hl := Lib.bitLen_le y 64 (by omega) (by omega)
  have hlt := bitLen_lt y hy
  obtain ⟨hg1, hg⟩ := bitLen_ge y hy0 hy
  have hs63 : s ≤ 63 := by omega
  obtain ⟨K, hK⟩ : ∃ K, K = 2 ^ s := ⟨_, rfl⟩
  obtain ⟨M, hM⟩ : ∃ M, M = 2 ^ (64 - s) := ⟨_, rfl⟩
  have hKM : M * K = 18446744073709551616 := by
    rw [hK, hM, ← Nat.pow_add]
    have : 64 - s + s = 64 := by omega
    rw [this]
  have hK0 : 0 < K := by rw [hK]; exact Nat.two_pow_pos _
  have hM0 : 0 < M := by rw [hM]; exact Nat.two_pow_pos _
  have hYlt : y * K < 18446744073709551616 := by
    rw [← hKM]
    refine Nat.mul_lt_mul_of_pos_right ?_ hK0
    rw [hM]
    have : 64 - s = Lib.bitLen y := by omega
    rw [this]; exact hlt
  have hYge : 9223372036854775808 ≤ y * K := by
    have h1 : 2 ^ (Lib.bitLen y - 1) * K ≤ y * K := Nat.mul_le_mul_right K hg
    have h2 : 2 ^ (Lib.bitLen y - 1) * K = 9223372036854775808 := by
      rw [hK, ← Nat.pow_add]
      have : Lib.bitLen y - 1 + s = 63 := by omega
      rw [this]
    omega
  obtain ⟨hN, hun, hlM⟩ := shifted hKM hK0 hM0 hhi hlo
  have hhK : hi * K < 18446744073709551616 := Nat.lt_of_le_of_lt (Nat.le_add_right _ _) (Nat.lt_trans hun hYlt)
  obtain ⟨Y, hYd⟩ : ∃ Y, Y = y * K := ⟨_, rfl⟩
  obtain ⟨L, hLd⟩ : ∃ L, L = lo * K % 18446744073709551616 := ⟨_, rfl⟩
  obtain ⟨un, hund⟩ : ∃ un, un = hi * K + lo / M := ⟨_, rfl⟩
  have hLlt : L < 18446744073709551616 := by rw [hLd]; exact Nat.mod_lt _ (by omega)
  rw [← hYd] at hYlt hYge hun
  rw [← hund] at hun hN
  rw [← hLd] at hN
  have hYsplit : Y / 4294967296 * 4294967296 + Y % 4294967296 = Y := Nat.div_add_mod' Y 4294967296
  have hLsplit : L / 4294967296 * 4294967296 + L % 4294967296 = L := Nat.div_add_mod' L 4294967296
  have cK : ((2 : Int) ^ s) = ((K : Nat) : Int) := by rw [hK]; simp
  have cM : ((2 : Int) ^ (64 - s)) = ((M : Nat) : Int) := by rw [hM]; simp
  obtain ⟨m, hm⟩ : ∃ m, m = un * 4294967296 + L / 4294967296 := ⟨_, rfl⟩
  have hY0 : 0 < Y := by omega
  have hvlt : m % Y < Y := Nat.mod_lt _ hY0
  have hT1 : m / Y < 4294967296 := by rw [hm]; exact quot_small hun (by omega)
  have hT2 : (m % Y * 4294967296 + L % 4294967296) / Y < 4294967296 := quot_small hvlt (by omega)
  have hj := digits_join (Y := Y) (B := 4294967296) (n := un) (u1 := L / 4294967296) (u0 := L % 4294967296) hY0
  rw [← hm] at hj
  obtain ⟨N, dN⟩ : ∃ N, N = (hi * 18446744073709551616 + lo) * K := ⟨_, rfl⟩
  rw [← dN] at hN
  have hNm : m * 4294967296 + L % 4294967296 = N := glueN hN hm
  rw [hNm, dN, hYd, Nat.mul_div_mul_right _ _ hK0, Nat.mul_mod_mul_right, ← hYd] at hj
  have hdm := Nat.div_add_mod' m Y
  obtain ⟨T1, dT1⟩ : ∃ T, T = m / Y := ⟨_, rfl⟩
  obtain ⟨v, dv⟩ : ∃ v, v = m % Y := ⟨_, rfl⟩
  rw [← dT1, ← dv] at hdm
  rw [← dT1] at hT1
  rw [← dv] at hvlt hT2
  rw [← dT1, ← dv] at hj
  obtain ⟨n2, dn2⟩ : ∃ n, n = v * 4294967296 + L % 4294967296 := ⟨_, rfl⟩
  rw [← dn2] at hj hT2
  have hdm2 := Nat.div_add_mod' n2 Y
  have hr2 : n2 % Y < Y := Nat.mod_lt _ hY0
  obtain ⟨T2, dT2⟩ : ∃ T, T = n2 / Y := ⟨_, rfl⟩
  obtain ⟨r2, dr2⟩ : ∃ r, r = n2 % Y := ⟨_, rfl⟩
  rw [← dT2, ← dr2] at hdm2
  rw [← dr2] at hr2
  rw [← dT2] at hT2
  rw [← dT2, ← dr2] at hj
  obtain ⟨Q, dQ⟩ : ∃ Q, Q = (hi * 18446744073709551616 + lo) / y := ⟨_, rfl⟩
  obtain ⟨R, dR⟩ : ∃ R, R = (hi * 18446744073709551616 + lo) % y := ⟨_, rfl⟩
  rw [← dQ, ← dR] at hj
  obtain ⟨u1, du1⟩ : ∃ u, u = L / 4294967296 := ⟨_, rfl⟩
  obtain ⟨u0, du0⟩ : ∃ u, u = L % 4294967296 := ⟨_, rfl⟩
  obtain ⟨y1, dy1⟩ : ∃ u, u = Y / 4294967296 := ⟨_, rfl⟩
  obtain ⟨y0, dy0⟩ : ∃ u, u = Y % 4294967296 := ⟨_, rfl⟩
  have hud := Nat.div_add_mod' un y1
  have hvd := Nat.div_add_mod' v y1
  have hA : un * 4294967296 + u1 = T1 * Y + v := by rw [du1, ← hm]; exact hdm.symm
  have hBq : v * 4294967296 + u0 = T2 * Y + r2 := by rw [du0, ← dn2]; exact hdm2.symm
  have hvB : v < 18446744073709551616 := by omega
  have hrB : r2 < 18446744073709551616 := by omega
  refine ⟨Y, y1, y0, un, u1, u0, T1, v, T2, r2, ?_, ?_, ?_, ?_, ?_, ?_, ?_, ?_, ?_, ?_, ?_, ?_, ?_, by omega, by omega, by omega, by omega, by omega, by omega, by omega, by omega, ?_, ?_, hs63⟩
  · rw [cK, Mul64.mulN, ← hYd]; exact Mul64.wrapN _ hYlt
  · rw [dy1]; exact Mul64.divN Y
  · rw [dy0]; exact Mul64.maskN Y hYlt
  · rw [cK, cM, Mul64.mulN, Mul64.wrapN _ hhK, ← Int.natCast_ediv, bits_or_u64_nat _ _ hhK (Nat.lt_of_le_of_lt (Nat.div_le_self _ _) hlo), hund]
    congr 1
    rw [hK] at hlM ⊢
    rw [Nat.mul_comm hi]
    exact (Nat.two_pow_add_eq_or_of_lt hlM hi).symm
  · rw [cK, Mul64.mulN, Mul64.wrapM, ← hLd, du1]; exact Mul64.divN L
  · rw [cK, Mul64.mulN, Mul64.wrapM, ← hLd, du0]; exact Mul64.maskN L hLlt
  · exact wrapDiv _ _ (by omega)
  · exact wrapRem _ _ (by omega)
  · rw [Mul64.mulN]; exact wrapMod3 (c := T1 * Y) hA hvB
  · exact wrapDiv _ _ (by omega)
  · exact wrapRem _ _ (by omega)
  · rw [← dQ]; exact wrapJoin hj.1 hT1 hT2
  · rw [Mul64.mulN, wrapMod3 (c := T2 * Y) (v := r2) hBq hrB, ← hj.2, cK, ← Int.natCast_ediv, Nat.mul_div_cancel _ hK0, dR]
  · rw [dT1, hm, dy1, dy0, hYsplit, du1]
  · rw [dT2, dn2, dy1, dy0, hYsplit, du0]

set_option maxHeartbeats 4000000 in
set_option maxRecDepth 100000 in
theorem Div64_far (hi lo y s Y y1 y0 un u1 u0 T1 v T2 r2 : Nat) (hy0 : y ≠ 0) (hy : y < 18446744073709551616) (hlo : lo < 18446744073709551616) (hhi : hi < y) (h0 : hi ≠ 0)
    (D : Dv hi lo y s Y y1 y0 un u1 u0 T1 v T2 r2) (w : World)
    (hlz : Calls Tryz.prog 77 #[.int .u64 y] w fun e w' => e = .returned (.int .i64 (s : Int)) ∧ w' = w) :
    Calls Tryz.prog 43 #[.int .u64 hi, .int .u64 lo, .int .u64 y] w fun e w' => e = .returned (.tuple #[.int .u64 (((hi * 18446744073709551616 + lo) / y : Nat) : Int), .int .u64 (((hi * 18446744073709551616 + lo) % y : Nat) : Int)]) ∧ w' = w := by
  obtain ⟨Q, dQ⟩ : ∃ Q, Q = (hi * 18446744073709551616 + lo) / y := ⟨_, rfl⟩
  obtain ⟨R, dR⟩ : ∃ R, R = (hi * 18446744073709551616 + lo) % y := ⟨_, rfl⟩
  have e1 := D.e1; have e2 := D.e2; have e3 := D.e3; have e4 := D.e4; have e6 := D.e6; have e7 := D.e7; have e8 := D.e8; have e9 := D.e9
  have e10 := D.e10; have e11 := D.e11; have e12 := D.e12; have e13 := D.e13; have e14 := D.e14
  rw [← dQ] at e13; rw [← dR] at e14
  rw [← dQ, ← dR]
  have b1 := D.b1; have b1' := D.b1'; have b0 := D.b0; have bu1 := D.bu1; have bu0 := D.bu0; have hs64 := D.s64
  have HD := hide D; clear D dQ dR
  obtain ⟨qa, hqa⟩ : ∃ q, q = un / y1 := ⟨_, rfl⟩
  obtain ⟨ra, hra⟩ : ∃ q, q = un % y1 := ⟨_, rfl⟩
  obtain ⟨qb, hqb⟩ : ∃ q, q = v / y1 := ⟨_, rfl⟩
  obtain ⟨rb, hrb⟩ : ∃ q, q = v % y1 := ⟨_, rfl⟩
  rw [← hqa] at e8 e9; rw [← hra] at e9; rw [← hqb] at e11 e12; rw [← hrb] at e12
  have e8' := e8; have e11' := e11
  rw [tdivE] at e8' e11'
  have HA := hide (And.intro hqa hra); clear hqa hra
  have HB := hide (And.intro hqb hrb); clear hqb hrb
  have HL := hide hlz; clear hlz
  go_enter Tryz.func43, Tryz.ntmps43
  go_wp2_with fail
  refine (unhide HL).mono ?_; rintro e w' ⟨rfl, rfl⟩
  go_wp2_with fail
  go_loop [15, 16] (fun a b => ∃ q r : Nat, a = .int .u64 q ∧ b = .int .u64 r ∧ Hid (Ginv un y1 T1 q r)) (fun a b => (intOf a).toNat)
  case atStart =>
    refine ⟨qa, ra, rfl, rfl, hide ?_⟩
    rw [(unhide HA).1, (unhide HA).2]
    exact ginv_start b1 b1' b0 bu1 (unhide HD).hun (unhide HD).t1
  case round =>
    have HE := hide (And.intro e10 (And.intro e11 (And.intro e11' (And.intro e12 (And.intro e13 e14)))))
    clear e1 e2 e3 e4 e6 e7 e8 e8' e9 e10 e11 e11' e12 e13 e14 hy0 hy hlo hhi h0
    obtain ⟨q, r, rfl, rfl, HI⟩ := hrel
    have hr := rnd_of (by omega) b1' b0 bu1 (unhide HD).hun (unhide HD).t1 (unhide HI)
    obtain (⟨q', r', hq, h1, h2, hr, hi, hm⟩ | ⟨q', r', p, c, hq, h3, h4, hc, h1, h2, hr, hi, hm⟩ | ⟨r', hq, h1, h2, hr⟩ | ⟨r', p, c, hq, h3, h4, hc, h1, h2, hr⟩ | ⟨p, c, hq, h3, h4, hc, hT⟩) := hr
    · have HI' := hide hi; clear hi HI
      have HM := hide hm; clear hm b1 b1' b0 bu1 bu0
      go_wp2_with fail
      go_round
      case rel => exact ⟨q', r', rfl, rfl, HI'⟩
      case measure => have := unhide HM; simp [intOf]; omega
    · have HI' := hide hi; clear hi HI
      have HM := hide hm; clear hm b1 b1' b0 bu1 bu0
      go_wp2_with fail
      go_round
      case rel => exact ⟨q', r', rfl, rfl, HI'⟩
      case measure => have := unhide HM; simp [intOf]; omega
    all_goals
      have b1z : ¬ y1 = 0 := by omega
      have HS := hide (ginv_start b1 b1' b0 bu0 (unhide HD).hv (unhide HD).t2)
      have HC := hide (And.intro (show 1 ≤ y1 by omega) (And.intro b1' (And.intro b0 bu0)))
      clear HI b1 b1' b0 bu1 bu0
      try subst hT
      obtain ⟨e10, e11, e11', e12, e13, e14⟩ := unhide HE
      go_wp2_with fail
      clear e10 e11 e11' e12
      have HE2 := hide (And.intro e13 e14)
      clear e13 e14
      go_loop [18, 16] (fun a b => ∃ q r : Nat, a = .int .u64 q ∧ b = .int .u64 r ∧ Hid (Ginv v y1 T2 q r)) (fun a b => (intOf a).toNat)
      case atStart =>
        refine ⟨qb, rb, rfl, rfl, hide ?_⟩
        rw [(unhide HB).1, (unhide HB).2]
        exact unhide HS
      case round =>
        obtain ⟨q, r, rfl, rfl, HI⟩ := hrel
        have hr := rnd_of (unhide HC).1 (unhide HC).2.1 (unhide HC).2.2.1 (unhide HC).2.2.2 (unhide HD).hv (unhide HD).t2 (unhide HI)
        obtain (⟨q', r', hq, h1, h2, hr, hi, hm⟩ | ⟨q', r', p, c, hq, h3, h4, hc, h1, h2, hr, hi, hm⟩ | ⟨r', hq, h1, h2, hr⟩ | ⟨r', p, c, hq, h3, h4, hc, h1, h2, hr⟩ | ⟨p, c, hq, h3, h4, hc, hT⟩) := hr
        · have HI' := hide hi; clear hi HI
          have HM := hide hm; clear hm
          go_wp2_with fail
          go_round
          case rel => exact ⟨q', r', rfl, rfl, HI'⟩
          case measure => have := unhide HM; simp [intOf]; omega
        · have HI' := hide hi; clear hi HI
          have HM := hide hm; clear hm
          go_wp2_with fail
          go_round
          case rel => exact ⟨q', r', rfl, rfl, HI'⟩
          case measure => have := unhide HM; simp [intOf]; omega
        all_goals
          clear HI
          try subst hT
          obtain ⟨e13, e14⟩ := unhide HE2
          go_wp2_with fail
          go_ret2
          exact ⟨rfl, rfl⟩
end Go.Proofs.YtgbheogmccfaaaaGreat
