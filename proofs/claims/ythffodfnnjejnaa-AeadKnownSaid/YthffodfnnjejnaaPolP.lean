/- Numbers modulo 2^130 - 5 by limbs of 26 bits, in plain Lean. No program, no condition. -/
import Derived.Test.YthffodfnnjejnaaKitA
namespace Go.Proofs.Ythffodfnnjejnaa
open Go.RowKit

abbrev W64 : Nat := 18446744073709551616
abbrev P130 : Nat := 1361129467683753853853498429727072845819
def val5 : List Nat → Nat
  | [] => 0
  | a :: l => a + 67108864 * val5 l

/-- One pass of carrying, k limbs of it. -/
def cAt (x : List Nat) (o : Nat) : Nat → List Nat × Nat
  | 0 => (x, o)
  | k + 1 => ((cAt x o k).1.set k (((cAt x o k).1.getD k 0 + (cAt x o k).2) % W64 % 67108864), ((cAt x o k).1.getD k 0 + (cAt x o k).2) % W64 / 67108864)
def carryU (x : List Nat) : List Nat :=
  (cAt (cAt x 0 5).1 ((cAt x 0 5).2 * 5 % W64) 5).1.set 0 (((cAt (cAt x 0 5).1 ((cAt x 0 5).2 * 5 % W64) 5).1.getD 0 0 + (cAt (cAt x 0 5).1 ((cAt x 0 5).2 * 5 % W64) 5).2 * 5 % W64) % W64)
@[simp] theorem cAt_length (x : List Nat) (o k : Nat) : (cAt x o k).1.length = x.length := by
  induction k with
  | zero => rfl
  | succ k ih => rw [cAt, List.length_set, ih]
@[simp] theorem carryU_length (x : List Nat) : (carryU x).length = x.length := by simp [carryU]
theorem five {x : List Nat} (h : x.length = 5) : ∃ a b c d e, x = [a, b, c, d, e] := by
  match x, h with
  | [a, b, c, d, e], _ => exact ⟨a, b, c, d, e, rfl⟩
/-- One pass: each limb below 2^26, what is over is told. -/
theorem cAt5 (a b c d e o : Nat) : ∃ a' b' c' d' e' q, cAt [a, b, c, d, e] o 5 = ([a', b', c', d', e'], q) ∧ a' = (a + o) % W64 % 67108864 ∧
    b' = (b + (a + o) % W64 / 67108864) % W64 % 67108864 ∧ c' = (c + (b + (a + o) % W64 / 67108864) % W64 / 67108864) % W64 % 67108864 ∧
    d' = (d + (c + (b + (a + o) % W64 / 67108864) % W64 / 67108864) % W64 / 67108864) % W64 % 67108864 ∧
    e' = (e + (d + (c + (b + (a + o) % W64 / 67108864) % W64 / 67108864) % W64 / 67108864) % W64 / 67108864) % W64 % 67108864 ∧
    q = (e + (d + (c + (b + (a + o) % W64 / 67108864) % W64 / 67108864) % W64 / 67108864) % W64 / 67108864) % W64 / 67108864 :=
  ⟨_, _, _, _, _, _, rfl, rfl, rfl, rfl, rfl, rfl, rfl⟩
theorem cAt_val {a b c d e o : Nat} (ha : a < 4611686018427387904) (hb : b < 4611686018427387904) (hc : c < 4611686018427387904) (hd : d < 4611686018427387904) (he : e < 4611686018427387904) (ho : o < 4611686018427387904) :
    ∃ a' b' c' d' e' q, cAt [a, b, c, d, e] o 5 = ([a', b', c', d', e'], q) ∧ a' < 67108864 ∧ b' < 67108864 ∧ c' < 67108864 ∧ d' < 67108864 ∧ e' < 67108864 ∧ q ≤ 137438953472 ∧
      val5 [a, b, c, d, e] + o = val5 [a', b', c', d', e'] + 1361129467683753853853498429727072845824 * q := by
  obtain ⟨a', b', c', d', e', q, h, h1, h2, h3, h4, h5, h6⟩ := cAt5 a b c d e o
  refine ⟨a', b', c', d', e', q, h, ?_⟩
  obtain ⟨v1, hv1⟩ : ∃ v, v = a + o := ⟨_, rfl⟩
  rw [← hv1, Nat.mod_eq_of_lt (show v1 < W64 by show v1 < 18446744073709551616; omega)] at h1 h2 h3 h4 h5 h6
  obtain ⟨v2, hv2⟩ : ∃ v, v = b + v1 / 67108864 := ⟨_, rfl⟩
  rw [← hv2, Nat.mod_eq_of_lt (show v2 < W64 by show v2 < 18446744073709551616; omega)] at h2 h3 h4 h5 h6
  obtain ⟨v3, hv3⟩ : ∃ v, v = c + v2 / 67108864 := ⟨_, rfl⟩
  rw [← hv3, Nat.mod_eq_of_lt (show v3 < W64 by show v3 < 18446744073709551616; omega)] at h3 h4 h5 h6
  obtain ⟨v4, hv4⟩ : ∃ v, v = d + v3 / 67108864 := ⟨_, rfl⟩
  rw [← hv4, Nat.mod_eq_of_lt (show v4 < W64 by show v4 < 18446744073709551616; omega)] at h4 h5 h6
  obtain ⟨v5, hv5⟩ : ∃ v, v = e + v4 / 67108864 := ⟨_, rfl⟩
  rw [← hv5, Nat.mod_eq_of_lt (show v5 < W64 by show v5 < 18446744073709551616; omega)] at h5 h6
  simp only [val5]
  omega
/-- Where the second pass begins with small limbs, at most 1 is over. -/
theorem cAt_small {a b c d e o : Nat} (ha : a < 67108864) (hb : b < 67108864) (hc : c < 67108864) (hd : d < 67108864) (he : e < 67108864) (ho : o ≤ 1099511627776) :
    ∃ a' b' c' d' e' q, cAt [a, b, c, d, e] o 5 = ([a', b', c', d', e'], q) ∧ a' < 67108864 ∧ b' < 67108864 ∧ c' < 67108864 ∧ d' < 67108864 ∧ e' < 67108864 ∧ q ≤ 1 ∧
      val5 [a, b, c, d, e] + o = val5 [a', b', c', d', e'] + 1361129467683753853853498429727072845824 * q := by
  obtain ⟨a', b', c', d', e', q, h, h1, h2, h3, h4, h5, h6, h7⟩ := cAt_val (a := a) (b := b) (c := c) (d := d) (e := e) (o := o) (by omega) (by omega) (by omega) (by omega) (by omega) (by omega)
  refine ⟨a', b', c', d', e', q, h, h1, h2, h3, h4, h5, ?_, h7⟩
  simp only [val5] at h7
  omega
/-- Carried: the same number modulo the prime; small limbs, but for the first one. -/
theorem carryU_val {a b c d e : Nat} (ha : a < 4611686018427387904) (hb : b < 4611686018427387904) (hc : c < 4611686018427387904) (hd : d < 4611686018427387904) (he : e < 4611686018427387904) :
    ∃ a' b' c' d' e' k, carryU [a, b, c, d, e] = [a', b', c', d', e'] ∧ a' < 67108869 ∧ b' < 67108864 ∧ c' < 67108864 ∧ d' < 67108864 ∧ e' < 67108864 ∧
      val5 [a, b, c, d, e] = val5 [a', b', c', d', e'] + P130 * k := by
  obtain ⟨a1, b1, c1, d1, e1, q1, h, h1, h2, h3, h4, h5, h6, h7⟩ := cAt_val (o := 0) ha hb hc hd he (by omega)
  obtain ⟨a2, b2, c2, d2, e2, q2, g, g1, g2, g3, g4, g5, g6, g7⟩ := cAt_small (o := q1 * 5) h1 h2 h3 h4 h5 (by omega)
  refine ⟨a2 + q2 * 5, b2, c2, d2, e2, q1 + q2, ?_, by omega, g2, g3, g4, g5, ?_⟩
  · unfold carryU
    rw [h]
    simp only
    rw [Nat.mod_eq_of_lt (show q1 * 5 < W64 by show q1 * 5 < 18446744073709551616; omega), g]
    simp only [List.getD_cons_zero, List.set_cons_zero]
    rw [Nat.mod_eq_of_lt (show q2 * 5 < W64 by show q2 * 5 < 18446744073709551616; omega), Nat.mod_eq_of_lt (show a2 + q2 * 5 < W64 by show a2 + q2 * 5 < 18446744073709551616; omega)]
  · simp only [val5] at h7 g7 ⊢
    show _ = _ + 1361129467683753853853498429727072845819 * (q1 + q2)
    omega

def pAt (x y : List Nat) : Nat → List Nat
  | 0 => x
  | k + 1 => (pAt x y k).set k (((pAt x y k).getD k 0 + y.getD k 0) % W64)
def plusU (x y : List Nat) : List Nat := pAt x y 5
@[simp] theorem pAt_length (x y : List Nat) (k : Nat) : (pAt x y k).length = x.length := by
  induction k with
  | zero => rfl
  | succ k ih => rw [pAt, List.length_set, ih]
theorem plusU_five {a b c d e a' b' c' d' e' : Nat} (ha : a + a' < W64) (hb : b + b' < W64) (hc : c + c' < W64) (hd : d + d' < W64) (he : e + e' < W64) :
    plusU [a, b, c, d, e] [a', b', c', d', e'] = [a + a', b + b', c + c', d + d', e + e'] := by
  show [(a + a') % W64, (b + b') % W64, (c + c') % W64, (d + d') % W64, (e + e') % W64] = _
  rw [Nat.mod_eq_of_lt ha, Nat.mod_eq_of_lt hb, Nat.mod_eq_of_lt hc, Nat.mod_eq_of_lt hd, Nat.mod_eq_of_lt he]

/-- A product's part. -/
def tP (x y : List Nat) (i k : Nat) : Nat := if i + k ≥ 5 then x.getD i 0 * y.getD k 0 % W64 * 5 % W64 else x.getD i 0 * y.getD k 0 % W64
def tIn (x y : List Nat) (i : Nat) (out : List Nat) : Nat → List Nat
  | 0 => out
  | k + 1 => (tIn x y i out k).set ((i + k) % 5) (((tIn x y i out k).getD ((i + k) % 5) 0 + tP x y i k) % W64)
def tOut (x y : List Nat) : Nat → List Nat
  | 0 => [0, 0, 0, 0, 0]
  | i + 1 => tIn x y i (tOut x y i) 5
def timesU (x y : List Nat) : List Nat := carryU (tOut x y 5)
@[simp] theorem tIn_length (x y : List Nat) (i : Nat) (out : List Nat) (k : Nat) : (tIn x y i out k).length = out.length := by
  induction k with
  | zero => rfl
  | succ k ih => rw [tIn, List.length_set, ih]
@[simp] theorem tOut_length (x y : List Nat) (i : Nat) : (tOut x y i).length = 5 := by
  induction i with
  | zero => rfl
  | succ i ih => rw [tOut, tIn_length, ih]
theorem times_val (x0 x1 x2 x3 x4 y0 y1 y2 y3 y4 : Nat) :
    (x0 + 67108864 * (x1 + 67108864 * (x2 + 67108864 * (x3 + 67108864 * (x4 + 67108864 * 0))))) * (y0 + 67108864 * (y1 + 67108864 * (y2 + 67108864 * (y3 + 67108864 * (y4 + 67108864 * 0))))) =
    ((x0 * y0 + 5 * (x1 * y4 + x2 * y3 + x3 * y2 + x4 * y1)) + 67108864 * ((x0 * y1 + x1 * y0 + 5 * (x2 * y4 + x3 * y3 + x4 * y2)) + 67108864 * ((x0 * y2 + x1 * y1 + x2 * y0 + 5 * (x3 * y4 + x4 * y3)) + 67108864 * ((x0 * y3 + x1 * y2 + x2 * y1 + x3 * y0 + 5 * (x4 * y4)) + 67108864 * (x0 * y4 + x1 * y3 + x2 * y2 + x3 * y1 + x4 * y0 + 67108864 * 0))))) +
    1361129467683753853853498429727072845819 * ((x1 * y4 + x2 * y3 + x3 * y2 + x4 * y1) + 67108864 * ((x2 * y4 + x3 * y3 + x4 * y2) + 67108864 * ((x3 * y4 + x4 * y3) + 67108864 * (x4 * y4)))) := by
  grind
theorem mul_lt53 {x y : Nat} (hx : x < 268435456) (hy : y < 134217728) : x * y < 36028797018963968 := by
  have h1 : x * y ≤ 268435455 * 134217727 := Nat.mul_le_mul (by omega) (by omega)
  omega
theorem add5 {a b c d e : Nat} (ha : a < 288230376151711744) (hb : b < 288230376151711744) (hc : c < 288230376151711744) (hd : d < 288230376151711744) (he : e < 288230376151711744) :
    (((((0 + a) % W64 + b) % W64 + c) % W64 + d) % W64 + e) % W64 = a + b + c + d + e := by
  show (((((0 + a) % 18446744073709551616 + b) % 18446744073709551616 + c) % 18446744073709551616 + d) % 18446744073709551616 + e) % 18446744073709551616 = _
  omega
theorem tOut_is (x0 x1 x2 x3 x4 y0 y1 y2 y3 y4 : Nat) : tOut [x0, x1, x2, x3, x4] [y0, y1, y2, y3, y4] 5 =
    [(((((0 + x0 * y0 % W64) % W64 + x1 * y4 % W64 * 5 % W64) % W64 + x2 * y3 % W64 * 5 % W64) % W64 + x3 * y2 % W64 * 5 % W64) % W64 + x4 * y1 % W64 * 5 % W64) % W64,
    (((((0 + x0 * y1 % W64) % W64 + x1 * y0 % W64) % W64 + x2 * y4 % W64 * 5 % W64) % W64 + x3 * y3 % W64 * 5 % W64) % W64 + x4 * y2 % W64 * 5 % W64) % W64,
    (((((0 + x0 * y2 % W64) % W64 + x1 * y1 % W64) % W64 + x2 * y0 % W64) % W64 + x3 * y4 % W64 * 5 % W64) % W64 + x4 * y3 % W64 * 5 % W64) % W64,
    (((((0 + x0 * y3 % W64) % W64 + x1 * y2 % W64) % W64 + x2 * y1 % W64) % W64 + x3 * y0 % W64) % W64 + x4 * y4 % W64 * 5 % W64) % W64,
    (((((0 + x0 * y4 % W64) % W64 + x1 * y3 % W64) % W64 + x2 * y2 % W64) % W64 + x3 * y1 % W64) % W64 + x4 * y0 % W64) % W64] := by
  simp only [tOut, tIn, tP, List.set_cons_zero, List.set_cons_succ, List.getD_cons_zero, List.getD_cons_succ, Nat.reduceAdd, Nat.reduceMod, Nat.zero_add, ge_iff_le, Nat.reduceLeDiff, if_true, if_false]
set_option maxHeartbeats 2000000 in
theorem tOut5 {x0 x1 x2 x3 x4 y0 y1 y2 y3 y4 : Nat} (h0 : x0 < 268435456) (h1 : x1 < 268435456) (h2 : x2 < 268435456) (h3 : x3 < 268435456) (h4 : x4 < 268435456) (g0 : y0 < 134217728) (g1 : y1 < 134217728) (g2 : y2 < 134217728) (g3 : y3 < 134217728) (g4 : y4 < 134217728) :
    ∃ a b c d e, tOut [x0, x1, x2, x3, x4] [y0, y1, y2, y3, y4] 5 = [a, b, c, d, e] ∧ a = x0 * y0 + 5 * (x1 * y4 + x2 * y3 + x3 * y2 + x4 * y1) ∧ b = x0 * y1 + x1 * y0 + 5 * (x2 * y4 + x3 * y3 + x4 * y2) ∧
      c = x0 * y2 + x1 * y1 + x2 * y0 + 5 * (x3 * y4 + x4 * y3) ∧ d = x0 * y3 + x1 * y2 + x2 * y1 + x3 * y0 + 5 * (x4 * y4) ∧ e = x0 * y4 + x1 * y3 + x2 * y2 + x3 * y1 + x4 * y0 ∧
      a < 4611686018427387904 ∧ b < 4611686018427387904 ∧ c < 4611686018427387904 ∧ d < 4611686018427387904 ∧ e < 4611686018427387904 := by
  have q00 := mul_lt53 h0 g0; have q01 := mul_lt53 h0 g1; have q02 := mul_lt53 h0 g2; have q03 := mul_lt53 h0 g3; have q04 := mul_lt53 h0 g4
  have q10 := mul_lt53 h1 g0; have q11 := mul_lt53 h1 g1; have q12 := mul_lt53 h1 g2; have q13 := mul_lt53 h1 g3; have q14 := mul_lt53 h1 g4
  have q20 := mul_lt53 h2 g0; have q21 := mul_lt53 h2 g1; have q22 := mul_lt53 h2 g2; have q23 := mul_lt53 h2 g3; have q24 := mul_lt53 h2 g4
  have q30 := mul_lt53 h3 g0; have q31 := mul_lt53 h3 g1; have q32 := mul_lt53 h3 g2; have q33 := mul_lt53 h3 g3; have q34 := mul_lt53 h3 g4
  have q40 := mul_lt53 h4 g0; have q41 := mul_lt53 h4 g1; have q42 := mul_lt53 h4 g2; have q43 := mul_lt53 h4 g3; have q44 := mul_lt53 h4 g4
  have m1 : ∀ p, p < 36028797018963968 → p % W64 = p := fun p hp => Nat.mod_eq_of_lt (by show p < 18446744073709551616; omega)
  have m5 : ∀ p, p < 36028797018963968 → p % W64 * 5 % W64 = p * 5 := fun p hp => by rw [m1 p hp]; exact Nat.mod_eq_of_lt (by show p * 5 < 18446744073709551616; omega)
  rw [tOut_is, m1 _ q00, m5 _ q14, m5 _ q23, m5 _ q32, m5 _ q41, m1 _ q01, m1 _ q10, m5 _ q24, m5 _ q33, m5 _ q42, m1 _ q02, m1 _ q11, m1 _ q20, m5 _ q34, m5 _ q43, m1 _ q03, m1 _ q12, m1 _ q21, m1 _ q30, m5 _ q44, m1 _ q04, m1 _ q13, m1 _ q22, m1 _ q31, m1 _ q40]
  rw [add5 (by omega) (by omega) (by omega) (by omega) (by omega), add5 (by omega) (by omega) (by omega) (by omega) (by omega), add5 (by omega) (by omega) (by omega) (by omega) (by omega), add5 (by omega) (by omega) (by omega) (by omega) (by omega), add5 (by omega) (by omega) (by omega) (by omega) (by omega)]
  refine ⟨_, _, _, _, _, rfl, ?_, ?_, ?_, ?_, ?_, ?_, ?_, ?_, ?_, ?_⟩
  · clear q01 q02 q03 q04 q10 q11 q12 q13 q20 q21 q22 q24 q30 q31 q33 q34 q40 q42 q43 q44; omega
  · clear q00 q02 q03 q04 q11 q12 q13 q14 q20 q21 q22 q23 q30 q31 q32 q34 q40 q41 q43 q44; omega
  · clear q00 q01 q03 q04 q10 q12 q13 q14 q21 q22 q23 q24 q30 q31 q32 q33 q40 q41 q42 q44; omega
  · clear q00 q01 q02 q04 q10 q11 q13 q14 q20 q22 q23 q24 q31 q32 q33 q34 q40 q41 q42 q43; omega
  · clear q00 q01 q02 q03 q10 q11 q12 q14 q20 q21 q23 q24 q30 q32 q33 q34 q41 q42 q43 q44; omega
  · clear q01 q02 q03 q04 q10 q11 q12 q13 q20 q21 q22 q24 q30 q31 q33 q34 q40 q42 q43 q44; omega
  · clear q00 q02 q03 q04 q11 q12 q13 q14 q20 q21 q22 q23 q30 q31 q32 q34 q40 q41 q43 q44; omega
  · clear q00 q01 q03 q04 q10 q12 q13 q14 q21 q22 q23 q24 q30 q31 q32 q33 q40 q41 q42 q44; omega
  · clear q00 q01 q02 q04 q10 q11 q13 q14 q20 q22 q23 q24 q31 q32 q33 q34 q40 q41 q42 q43; omega
  · clear q00 q01 q02 q03 q10 q11 q12 q14 q20 q21 q23 q24 q30 q32 q33 q34 q41 q42 q43 q44; omega
/-- The product, modulo the prime. -/
theorem timesU_val {x0 x1 x2 x3 x4 y0 y1 y2 y3 y4 : Nat} (h0 : x0 < 268435456) (h1 : x1 < 268435456) (h2 : x2 < 268435456) (h3 : x3 < 268435456) (h4 : x4 < 268435456) (g0 : y0 < 134217728) (g1 : y1 < 134217728) (g2 : y2 < 134217728) (g3 : y3 < 134217728) (g4 : y4 < 134217728) :
    ∃ a b c d e, timesU [x0, x1, x2, x3, x4] [y0, y1, y2, y3, y4] = [a, b, c, d, e] ∧ a < 67108869 ∧ b < 67108864 ∧ c < 67108864 ∧ d < 67108864 ∧ e < 67108864 ∧
      val5 [a, b, c, d, e] % P130 = val5 [x0, x1, x2, x3, x4] * val5 [y0, y1, y2, y3, y4] % P130 := by
  obtain ⟨a, b, c, d, e, h, ea, eb, ec, ed, ee, la, lb, lc, ld, le⟩ := tOut5 h0 h1 h2 h3 h4 g0 g1 g2 g3 g4
  obtain ⟨a', b', c', d', e', k, hk, la', lb', lc', ld', le', hv⟩ := carryU_val la lb lc ld le
  refine ⟨a', b', c', d', e', by rw [timesU, h, hk], la', lb', lc', ld', le', ?_⟩
  have h5 : val5 [x0, x1, x2, x3, x4] * val5 [y0, y1, y2, y3, y4] = val5 [a, b, c, d, e] + P130 * ((x1 * y4 + x2 * y3 + x3 * y2 + x4 * y1) + 67108864 * ((x2 * y4 + x3 * y3 + x4 * y2) + 67108864 * ((x3 * y4 + x4 * y3) + 67108864 * (x4 * y4)))) := by
    simp only [val5, ea, eb, ec, ed, ee]
    exact times_val ..
  rw [h5, hv, Nat.add_assoc, ← Nat.mul_add, Nat.add_mul_mod_self_left]

def lAt (y : List Nat) : Nat → List Nat
  | 0 => y
  | k + 1 => ((lAt y k).set (k + 1) (((lAt y k).getD (k + 1) 0 + (lAt y k).getD k 0 / 67108864) % W64)).set k ((lAt y k).getD k 0 % 67108864)
@[simp] theorem lAt_length (y : List Nat) (k : Nat) : (lAt y k).length = y.length := by
  induction k with
  | zero => rfl
  | succ k ih => rw [lAt, List.length_set, List.length_set, ih]
def leastU (x : List Nat) : List Nat :=
  if (lAt (plusU (carryU (carryU x)) [5, 0, 0, 0, 0]) 4).getD 4 0 / 67108864 = 0 then carryU (carryU x)
  else (lAt (plusU (carryU (carryU x)) [5, 0, 0, 0, 0]) 4).set 4 ((lAt (plusU (carryU (carryU x)) [5, 0, 0, 0, 0]) 4).getD 4 0 % 67108864)
/-- Carried once more, all limbs are small. -/
theorem carryU_again {a b c d e : Nat} (ha : a < 67108869) (hb : b < 67108864) (hc : c < 67108864) (hd : d < 67108864) (he : e < 67108864) :
    ∃ a' b' c' d' e' k, carryU [a, b, c, d, e] = [a', b', c', d', e'] ∧ a' < 67108864 ∧ b' < 67108864 ∧ c' < 67108864 ∧ d' < 67108864 ∧ e' < 67108864 ∧
      val5 [a, b, c, d, e] = val5 [a', b', c', d', e'] + P130 * k := by
  obtain ⟨a1, b1, c1, d1, e1, q1, h, h1, h2, h3, h4, h5, h6, h7⟩ := cAt_val (a := a) (b := b) (c := c) (d := d) (e := e) (o := 0) (by omega) (by omega) (by omega) (by omega) (by omega) (by omega)
  obtain ⟨a2, b2, c2, d2, e2, q2, g, g1, g2, g3, g4, g5, g6, g7⟩ := cAt_small (o := q1 * 5) h1 h2 h3 h4 h5 (by omega)
  have hq : q2 = 0 ∧ q1 ≤ 1 := by
    simp only [val5] at h7 g7
    omega
  refine ⟨a2, b2, c2, d2, e2, q1, ?_, g1, g2, g3, g4, g5, ?_⟩
  · unfold carryU
    rw [h]
    simp only
    rw [Nat.mod_eq_of_lt (show q1 * 5 < W64 by show q1 * 5 < 18446744073709551616; omega), g, hq.1]
    simp only [List.getD_cons_zero, List.set_cons_zero]
    rw [Nat.mod_eq_of_lt (show a2 + 0 * 5 % W64 < W64 by show a2 + 0 * 5 % 18446744073709551616 < 18446744073709551616; omega)]
    simp
  · simp only [val5] at h7 g7 ⊢
    show _ = _ + 1361129467683753853853498429727072845819 * q1
    omega
theorem lAt4 (a b c d e : Nat) : lAt [a, b, c, d, e] 4 = [a % 67108864, (b + a / 67108864) % W64 % 67108864, (c + (b + a / 67108864) % W64 / 67108864) % W64 % 67108864, (d + (c + (b + a / 67108864) % W64 / 67108864) % W64 / 67108864) % W64 % 67108864,
    (e + (d + (c + (b + a / 67108864) % W64 / 67108864) % W64 / 67108864) % W64 / 67108864) % W64] := rfl
theorem leastU_val {a b c d e : Nat} (ha : a < 4611686018427387904) (hb : b < 4611686018427387904) (hc : c < 4611686018427387904) (hd : d < 4611686018427387904) (he : e < 4611686018427387904) :
    ∃ a' b' c' d' e', leastU [a, b, c, d, e] = [a', b', c', d', e'] ∧ a' < 67108864 ∧ b' < 67108864 ∧ c' < 67108864 ∧ d' < 67108864 ∧ e' < 67108864 ∧
      val5 [a', b', c', d', e'] = val5 [a, b, c, d, e] % P130 := by
  obtain ⟨a1, b1, c1, d1, e1, k1, hk1, la1, lb1, lc1, ld1, le1, hv1⟩ := carryU_val ha hb hc hd he
  obtain ⟨a2, b2, c2, d2, e2, k2, hk2, la2, lb2, lc2, ld2, le2, hv2⟩ := carryU_again la1 lb1 lc1 ld1 le1
  have hm : val5 [a, b, c, d, e] % P130 = val5 [a2, b2, c2, d2, e2] % P130 := by
    rw [hv1, hv2, Nat.add_assoc, ← Nat.mul_add, Nat.add_mul_mod_self_left]
  rw [hm]
  have hp : plusU [a2, b2, c2, d2, e2] [5, 0, 0, 0, 0] = [a2 + 5, b2, c2, d2, e2] := by
    rw [plusU_five] <;> first | rfl | (show _ < 18446744073709551616; omega)
  unfold leastU
  rw [hk1, hk2, hp, lAt4]
  obtain ⟨q1, hq1⟩ : ∃ v, v = (a2 + 5) / 67108864 := ⟨_, rfl⟩
  have m1 : (b2 + q1) % W64 = b2 + q1 := Nat.mod_eq_of_lt (by show _ < 18446744073709551616; omega)
  rw [← hq1, m1]
  obtain ⟨q2, hq2⟩ : ∃ v, v = (b2 + q1) / 67108864 := ⟨_, rfl⟩
  have m2 : (c2 + q2) % W64 = c2 + q2 := Nat.mod_eq_of_lt (by show _ < 18446744073709551616; omega)
  rw [← hq2, m2]
  obtain ⟨q3, hq3⟩ : ∃ v, v = (c2 + q2) / 67108864 := ⟨_, rfl⟩
  have m3 : (d2 + q3) % W64 = d2 + q3 := Nat.mod_eq_of_lt (by show _ < 18446744073709551616; omega)
  rw [← hq3, m3]
  obtain ⟨q4, hq4⟩ : ∃ v, v = (d2 + q3) / 67108864 := ⟨_, rfl⟩
  have m4 : (e2 + q4) % W64 = e2 + q4 := Nat.mod_eq_of_lt (by show _ < 18446744073709551616; omega)
  rw [← hq4, m4]
  simp only [List.getD_cons_succ, List.getD_cons_zero, List.set_cons_succ, List.set_cons_zero]
  have hlt : val5 [a2, b2, c2, d2, e2] < 1361129467683753853853498429727072845824 := by simp only [val5]; omega
  split
  · refine ⟨_, _, _, _, _, rfl, la2, lb2, lc2, ld2, le2, ?_⟩
    rw [Nat.mod_eq_of_lt]
    show _ < 1361129467683753853853498429727072845819
    simp only [val5] at hlt ⊢
    omega
  · rename_i hq5
    clear m1 m2 m3 m4 hm hv1 hv2 hp hlt
    have t4 : q4 = 1 ∧ e2 = 67108863 := by omega
    have t3 : q3 = 1 ∧ d2 = 67108863 := by omega
    have t2 : q2 = 1 ∧ c2 = 67108863 := by omega
    have t1 : q1 = 1 ∧ b2 = 67108863 := by omega
    have t0 : 67108859 ≤ a2 := by omega
    obtain ⟨rfl, rfl⟩ := t4
    obtain ⟨rfl, rfl⟩ := t3
    obtain ⟨rfl, rfl⟩ := t2
    obtain ⟨rfl, rfl⟩ := t1
    refine ⟨_, _, _, _, _, rfl, by omega, by omega, by omega, by omega, by omega, ?_⟩
    simp only [val5, P130]
    omega
end Go.Proofs.Ythffodfnnjejnaa
