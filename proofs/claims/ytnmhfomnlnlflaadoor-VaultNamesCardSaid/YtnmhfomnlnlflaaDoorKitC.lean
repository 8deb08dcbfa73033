/- Small laws of this seat, laid as one text. No condition. -/
import Derived.Test.YtnmhfomnlnlflaaDoorKitB
import Derived.Test.YtnmhfomnlnlflaaDoorKitA
import Derived.Test.YtnmhfomnlnlflaaDoorKitS
import Derived.Stop.BytesEq
import Derived.Deep.Cut
/- The stream's plain laws, and the walk of the law ChachaStreams. No condition. -/
namespace Go.Proofs.YtnmhfomnlnlflaaDoor
open Go.RowKit
theorem mixL_append (A B b : List UInt8) : mixL (A ++ B) b = mixL A b ++ mixL B (b.drop A.length) := by
  unfold mixL
  induction A generalizing b with
  | nil => simp
  | cons x A ih =>
    cases b with
    | nil => simp
    | cons y b => simp [ih b]
theorem streamAt_mix (K : List UInt8) (c : UInt32) (N b : List UInt8) (k : Nat) : streamAt K c N b k = mixL (blocksL K c N k) b := by
  induction k with
  | zero => simp [streamAt, blocksL, mixL]
  | succ k ih => rw [streamAt, blocksL, mixL_append, ih, blocksL_length]
theorem mixL_twice (a b : List UInt8) (h : b.length ≤ a.length) : mixL a (mixL a b) = b := by
  unfold mixL
  induction b generalizing a with
  | nil => cases a <;> simp
  | cons y b ih =>
    cases a with
    | nil => simp at h
    | cons x a =>
      rw [List.zipWith_cons_cons, List.zipWith_cons_cons, ih a (by simpa using h), ← UInt8.xor_assoc]
      simp
theorem streamL_twice (K : List UInt8) (c : UInt32) (N b : List UInt8) : streamL K c N (streamL K c N b) = b := by
  have hl := streamL_length K c N b
  rw [streamL, hl, streamAt_mix]
  rw [streamL, streamAt_mix]
  exact mixL_twice _ _ (by rw [blocksL_length]; omega)
theorem ofNat_succ32 (c : UInt32) (k : Nat) : c + 1 + UInt32.ofNat k = c + UInt32.ofNat (k + 1) := by
  apply UInt32.toNat_inj.1
  rw [UInt32.toNat_add, UInt32.toNat_add, UInt32.toNat_add, UInt32.toNat_ofNat', UInt32.toNat_ofNat', show (1 : UInt32).toNat = 1 from rfl]
  omega
theorem blocksL_succ (K : List UInt8) (c : UInt32) (N : List UInt8) (k : Nat) : blocksL K c N (k + 1) = blockL K c N ++ blocksL K (c + 1) N k := by
  induction k with
  | zero =>
    rw [blocksL, blocksL, blocksL, List.nil_append, List.append_nil, show c + UInt32.ofNat 0 = c by simp]
  | succ k ih =>
    rw [blocksL, ih]
    conv => rhs; rw [blocksL]
    rw [List.append_assoc, ofNat_succ32]
theorem streamL_drop (K : List UInt8) (c : UInt32) (N b : List UInt8) (h : 64 < b.length) : (streamL K c N b).drop 64 = streamL K (c + 1) N (b.drop 64) := by
  have e1 : (b.length + 63) / 64 = ((b.drop 64).length + 63) / 64 + 1 := by rw [List.length_drop]; omega
  rw [streamL, streamL, streamAt_mix, streamAt_mix, e1, blocksL_succ, mixL_append, blockL_length, List.drop_append_of_le_length (by rw [mixL_length, blockL_length]; omega)]
  rw [List.drop_of_length_le (by rw [mixL_length, blockL_length]; omega), List.nil_append]
theorem run_cutAllO {P : Program} {T e : TypeId} {n : Nat} (hT : P.underlying T = some (.array n e)) (hsz : (P.info? e).map (·.size) = some 1) (g o : Nat) (w : World) :
    (Instr.sliceAt T (.pointer (some ⟨g, o, none⟩)) none none none).run P w = .ok (.slice (some ⟨g, o, none⟩) n n) w := by
  obtain ⟨e1, e2⟩ := arrayLen_of hT
  rw [run_sliceAt_array_all w T _ (by rw [e1, e2]; exact hT), e1, e2]
  simp only [run_size1 hsz, Result.andThen_ok, slicedAt, Nat.sub_zero, Nat.zero_mul, add_zero_, ite_self]
end Go.Proofs.YtnmhfomnlnlflaaDoor
/- Numbers modulo 2^130 - 5 by limbs of 26 bits, in plain Lean. No program, no condition. -/
namespace Go.Proofs.YtnmhfomnlnlflaaDoor
open Go.RowKit

abbrev W64 : Nat := 18446744073709551616
abbrev P130 : Nat := 1361129467683753853853498429727072845819
def val5 : List Nat → Nat
  | [] => 0
  | a :: l => a + 67108864 * val5 l

/-- One pass of carrying, k limbs of it. -/
def cAt (x : List Nat) (o : Nat) : Nat → List Nat × Nat
  | 0 => (x, o)
  | k + 1 => ((cAt x o k).1.set k (((cAt x o k).1.getD k 0 + (cAt x o k).2) % W64 % 67108864), ((cAt x o k).1.getD k 0 + (cAt x o k).2) % W64 / 67108864)
def carryU (x : List Nat) : List Nat :=
  (cAt (cAt x 0 5).1 ((cAt x 0 5).2 * 5 % W64) 5).1.set 0 (((cAt (cAt x 0 5).1 ((cAt x 0 5).2 * 5 % W64) 5).1.getD 0 0 + (cAt (cAt x 0 5).1 ((cAt x 0 5).2 * 5 % W64) 5).2 * 5 % W64) % W64)
@[simp] theorem cAt_length (x : List Nat) (o k : Nat) : (cAt x o k).1.length = x.length := by
  induction k with
  | zero => rfl
  | succ k ih => rw [cAt, List.length_set, ih]
@[simp] theorem carryU_length (x : List Nat) : (carryU x).length = x.length := by simp [carryU]
theorem five {x : List Nat} (h : x.length = 5) : ∃ a b c d e, x = [a, b, c, d, e] := by
  match x, h with
  | [a, b, c, d, e], _ => exact ⟨a, b, c, d, e, rfl⟩
/-- One pass: each limb below 2^26, what is over is told. -/
theorem cAt5 (a b c d e o : Nat) : ∃ a' b' c' d' e' q, cAt [a, b, c, d, e] o 5 = ([a', b', c', d', e'], q) ∧ a' = (a + o) % W64 % 67108864 ∧
    b' = (b + (a + o) % W64 / 67108864) % W64 % 67108864 ∧ c' = (c + (b + (a + o) % W64 / 67108864) % W64 / 67108864) % W64 % 67108864 ∧
    d' = (d + (c + (b + (a + o) % W64 / 67108864) % W64 / 67108864) % W64 / 67108864) % W64 % 67108864 ∧
    e' = (e + (d + (c + (b + (a + o) % W64 / 67108864) % W64 / 67108864) % W64 / 67108864) % W64 / 67108864) % W64 % 67108864 ∧
    q = (e + (d + (c + (b + (a + o) % W64 / 67108864) % W64 / 67108864) % W64 / 67108864) % W64 / 67108864) % W64 / 67108864 :=
  ⟨_, _, _, _, _, _, rfl, rfl, rfl, rfl, rfl, rfl, rfl⟩
theorem cAt_val {a b c d e o : Nat} (ha : a < 4611686018427387904) (hb : b < 4611686018427387904) (hc : c < 4611686018427387904) (hd : d < 4611686018427387904) (he : e < 4611686018427387904) (ho : o < 4611686018427387904) :
    ∃ a' b' c' d' e' q, cAt [a, b, c, d, e] o 5 = ([a', b', c', d', e'], q) ∧ a' < 67108864 ∧ b' < 67108864 ∧ c' < 67108864 ∧ d' < 67108864 ∧ e' < 67108864 ∧ q ≤ 137438953472 ∧
      val5 [a, b, c, d, e] + o = val5 [a', b', c', d', e'] + 1361129467683753853853498429727072845824 * q := by
  obtain ⟨a', b', c', d', e', q, h, h1, h2, h3, h4, h5, h6⟩ := cAt5 a b c d e o
  refine ⟨a', b', c', d', e', q, h, ?_⟩
  obtain ⟨v1, hv1⟩ : ∃ v, v = a + o := ⟨_, rfl⟩
  rw [← hv1, Nat.mod_eq_of_lt (show v1 < W64 by show v1 < 18446744073709551616; omega)] at h1 h2 h3 h4 h5 h6
  obtain ⟨v2, hv2⟩ : ∃ v, v = b + v1 / 67108864 := ⟨_, rfl⟩
  rw [← hv2, Nat.mod_eq_of_lt (show v2 < W64 by show v2 < 18446744073709551616; omega)] at h2 h3 h4 h5 h6
  obtain ⟨v3, hv3⟩ : ∃ v, v = c + v2 / 67108864 := ⟨_, rfl⟩
  rw [← hv3, Nat.mod_eq_of_lt (show v3 < W64 by show v3 < 18446744073709551616; omega)] at h3 h4 h5 h6
  obtain ⟨v4, hv4⟩ : ∃ v, v = d + v3 / 67108864 := ⟨_, rfl⟩
  rw [← hv4, Nat.mod_eq_of_lt (show v4 < W64 by show v4 < 18446744073709551616; omega)] at h4 h5 h6
  obtain ⟨v5, hv5⟩ : ∃ v, v = e + v4 / 67108864 := ⟨_, rfl⟩
  rw [← hv5, Nat.mod_eq_of_lt (show v5 < W64 by show v5 < 18446744073709551616; omega)] at h5 h6
  simp only [val5]
  omega
/-- Where the second pass begins with small limbs, at most 1 is over. -/
theorem cAt_small {a b c d e o : Nat} (ha : a < 67108864) (hb : b < 67108864) (hc : c < 67108864) (hd : d < 67108864) (he : e < 67108864) (ho : o ≤ 1099511627776) :
    ∃ a' b' c' d' e' q, cAt [a, b, c, d, e] o 5 = ([a', b', c', d', e'], q) ∧ a' < 67108864 ∧ b' < 67108864 ∧ c' < 67108864 ∧ d' < 67108864 ∧ e' < 67108864 ∧ q ≤ 1 ∧
      val5 [a, b, c, d, e] + o = val5 [a', b', c', d', e'] + 1361129467683753853853498429727072845824 * q := by
  obtain ⟨a', b', c', d', e', q, h, h1, h2, h3, h4, h5, h6, h7⟩ := cAt_val (a := a) (b := b) (c := c) (d := d) (e := e) (o := o) (by omega) (by omega) (by omega) (by omega) (by omega) (by omega)
  refine ⟨a', b', c', d', e', q, h, h1, h2, h3, h4, h5, ?_, h7⟩
  simp only [val5] at h7
  omega
/-- Carried: the same number modulo the prime; small limbs, but for the first one. -/
theorem carryU_val {a b c d e : Nat} (ha : a < 4611686018427387904) (hb : b < 4611686018427387904) (hc : c < 4611686018427387904) (hd : d < 4611686018427387904) (he : e < 4611686018427387904) :
    ∃ a' b' c' d' e' k, carryU [a, b, c, d, e] = [a', b', c', d', e'] ∧ a' < 67108869 ∧ b' < 67108864 ∧ c' < 67108864 ∧ d' < 67108864 ∧ e' < 67108864 ∧
      val5 [a, b, c, d, e] = val5 [a', b', c', d', e'] + P130 * k := by
  obtain ⟨a1, b1, c1, d1, e1, q1, h, h1, h2, h3, h4, h5, h6, h7⟩ := cAt_val (o := 0) ha hb hc hd he (by omega)
  obtain ⟨a2, b2, c2, d2, e2, q2, g, g1, g2, g3, g4, g5, g6, g7⟩ := cAt_small (o := q1 * 5) h1 h2 h3 h4 h5 (by omega)
  refine ⟨a2 + q2 * 5, b2, c2, d2, e2, q1 + q2, ?_, by omega, g2, g3, g4, g5, ?_⟩
  · unfold carryU
    rw [h]
    simp only
    rw [Nat.mod_eq_of_lt (show q1 * 5 < W64 by show q1 * 5 < 18446744073709551616; omega), g]
    simp only [List.getD_cons_zero, List.set_cons_zero]
    rw [Nat.mod_eq_of_lt (show q2 * 5 < W64 by show q2 * 5 < 18446744073709551616; omega), Nat.mod_eq_of_lt (show a2 + q2 * 5 < W64 by show a2 + q2 * 5 < 18446744073709551616; omega)]
  · simp only [val5] at h7 g7 ⊢
    show _ = _ + 1361129467683753853853498429727072845819 * (q1 + q2)
    omega

def pAt (x y : List Nat) : Nat → List Nat
  | 0 => x
  | k + 1 => (pAt x y k).set k (((pAt x y k).getD k 0 + y.getD k 0) % W64)
def plusU (x y : List Nat) : List Nat := pAt x y 5
@[simp] theorem pAt_length (x y : List Nat) (k : Nat) : (pAt x y k).length = x.length := by
  induction k with
  | zero => rfl
  | succ k ih => rw [pAt, List.length_set, ih]
theorem plusU_five {a b c d e a' b' c' d' e' : Nat} (ha : a + a' < W64) (hb : b + b' < W64) (hc : c + c' < W64) (hd : d + d' < W64) (he : e + e' < W64) :
    plusU [a, b, c, d, e] [a', b', c', d', e'] = [a + a', b + b', c + c', d + d', e + e'] := by
  show [(a + a') % W64, (b + b') % W64, (c + c') % W64, (d + d') % W64, (e + e') % W64] = _
  rw [Nat.mod_eq_of_lt ha, Nat.mod_eq_of_lt hb, Nat.mod_eq_of_lt hc, Nat.mod_eq_of_lt hd, Nat.mod_eq_of_lt he]

/-- A product's part. -/
def tP (x y : List Nat) (i k : Nat) : Nat := if i + k ≥ 5 then x.getD i 0 * y.getD k 0 % W64 * 5 % W64 else x.getD i 0 * y.getD k 0 % W64
def tIn (x y : List Nat) (i : Nat) (out : List Nat) : Nat → List Nat
  | 0 => out
  | k + 1 => (tIn x y i out k).set ((i + k) % 5) (((tIn x y i out k).getD ((i + k) % 5) 0 + tP x y i k) % W64)
def tOut (x y : List Nat) : Nat → List Nat
  | 0 => [0, 0, 0, 0, 0]
  | i + 1 => tIn x y i (tOut x y i) 5
def timesU (x y : List Nat) : List Nat := carryU (tOut x y 5)
@[simp] theorem tIn_length (x y : List Nat) (i : Nat) (out : List Nat) (k : Nat) : (tIn x y i out k).length = out.length := by
  induction k with
  | zero => rfl
  | succ k ih => rw [tIn, List.length_set, ih]
@[simp] theorem tOut_length (x y : List Nat) (i : Nat) : (tOut x y i).length = 5 := by
  induction i with
  | zero => rfl
  | succ i ih => rw [tOut, tIn_length, ih]
theorem times_val (x0 x1 x2 x3 x4 y0 y1 y2 y3 y4 : Nat) :
    (x0 + 67108864 * (x1 + 67108864 * (x2 + 67108864 * (x3 + 67108864 * (x4 + 67108864 * 0))))) * (y0 + 67108864 * (y1 + 67108864 * (y2 + 67108864 * (y3 + 67108864 * (y4 + 67108864 * 0))))) =
    ((x0 * y0 + 5 * (x1 * y4 + x2 * y3 + x3 * y2 + x4 * y1)) + 67108864 * ((x0 * y1 + x1 * y0 + 5 * (x2 * y4 + x3 * y3 + x4 * y2)) + 67108864 * ((x0 * y2 + x1 * y1 + x2 * y0 + 5 * (x3 * y4 + x4 * y3)) + 67108864 * ((x0 * y3 + x1 * y2 + x2 * y1 + x3 * y0 + 5 * (x4 * y4)) + 67108864 * (x0 * y4 + x1 * y3 + x2 * y2 + x3 * y1 + x4 * y0 + 67108864 * 0))))) +
    1361129467683753853853498429727072845819 * ((x1 * y4 + x2 * y3 + x3 * y2 + x4 * y1) + 67108864 * ((x2 * y4 + x3 * y3 + x4 * y2) + 67108864 * ((x3 * y4 + x4 * y3) + 67108864 * (x4 * y4)))) := by
  grind
theorem mul_lt53 {x y : Nat} (hx : x < 268435456) (hy : y < 134217728) : x * y < 36028797018963968 := by
  have h1 : x * y ≤ 268435455 * 134217727 := Nat.mul_le_mul (by omega) (by omega)
  omega
theorem add5 {a b c d e : Nat} (ha : a < 288230376151711744) (hb : b < 288230376151711744) (hc : c < 288230376151711744) (hd : d < 288230376151711744) (he : e < 288230376151711744) :
    (((((0 + a) % W64 + b) % W64 + c) % W64 + d) % W64 + e) % W64 = a + b + c + d + e := by
  show (((((0 + a) % 18446744073709551616 + b) % 18446744073709551616 + c) % 18446744073709551616 + d) % 18446744073709551616 + e) % 18446744073709551616 = _
  omega
theorem tOut_is (x0 x1 x2 x3 x4 y0 y1 y2 y3 y4 : Nat) : tOut [x0, x1, x2, x3, x4] [y0, y1, y2, y3, y4] 5 =
    [(((((0 + x0 * y0 % W64) % W64 + x1 * y4 % W64 * 5 % W64) % W64 + x2 * y3 % W64 * 5 % W64) % W64 + x3 * y2 % W64 * 5 % W64) % W64 + x4 * y1 % W64 * 5 % W64) % W64,
    (((((0 + x0 * y1 % W64) % W64 + x1 * y0 % W64) % W64 + x2 * y4 % W64 * 5 % W64) % W64 + x3 * y3 % W64 * 5 % W64) % W64 + x4 * y2 % W64 * 5 % W64) % W64,
    (((((0 + x0 * y2 % W64) % W64 + x1 * y1 % W64) % W64 + x2 * y0 % W64) % W64 + x3 * y4 % W64 * 5 % W64) % W64 + x4 * y3 % W64 * 5 % W64) % W64,
    (((((0 + x0 * y3 % W64) % W64 + x1 * y2 % W64) % W64 + x2 * y1 % W64) % W64 + x3 * y0 % W64) % W64 + x4 * y4 % W64 * 5 % W64) % W64,
    (((((0 + x0 * y4 % W64) % W64 + x1 * y3 % W64) % W64 + x2 * y2 % W64) % W64 + x3 * y1 % W64) % W64 + x4 * y0 % W64) % W64] := by
  simp only [tOut, tIn, tP, List.set_cons_zero, List.set_cons_succ, List.getD_cons_zero, List.getD_cons_succ, Nat.reduceAdd, Nat.reduceMod, Nat.zero_add, ge_iff_le, Nat.reduceLeDiff, if_true, if_false]
set_option maxRecDepth 100000 in
set_option maxHeartbeats 2000000 in
theorem tOut5 {x0 x1 x2 x3 x4 y0 y1 y2 y3 y4 : Nat} (h0 : x0 < 268435456) (h1 : x1 < 268435456) (h2 : x2 < 268435456) (h3 : x3 < 268435456) (h4 : x4 < 268435456) (g0 : y0 < 134217728) (g1 : y1 < 134217728) (g2 : y2 < 134217728) (g3 : y3 < 134217728) (g4 : y4 < 134217728) :
    ∃ a b c d e, tOut [x0, x1, x2, x3, x4] [y0, y1, y2, y3, y4] 5 = [a, b, c, d, e] ∧ a = x0 * y0 + 5 * (x1 * y4 + x2 * y3 + x3 * y2 + x4 * y1) ∧ b = x0 * y1 + x1 * y0 + 5 * (x2 * y4 + x3 * y3 + x4 * y2) ∧
      c = x0 * y2 + x1 * y1 + x2 * y0 + 5 * (x3 * y4 + x4 * y3) ∧ d = x0 * y3 + x1 * y2 + x2 * y1 + x3 * y0 + 5 * (x4 * y4) ∧ e = x0 * y4 + x1 * y3 + x2 * y2 + x3 * y1 + x4 * y0 ∧
      a < 4611686018427387904 ∧ b < 4611686018427387904 ∧ c < 4611686018427387904 ∧ d < 4611686018427387904 ∧ e < 4611686018427387904 := by
  have q00 := mul_lt53 h0 g0; have q01 := mul_lt53 h0 g1; have q02 := mul_lt53 h0 g2; have q03 := mul_lt53 h0 g3; have q04 := mul_lt53 h0 g4
  have q10 := mul_lt53 h1 g0; have q11 := mul_lt53 h1 g1; have q12 := mul_lt53 h1 g2; have q13 := mul_lt53 h1 g3; have q14 := mul_lt53 h1 g4
  have q20 := mul_lt53 h2 g0; have q21 := mul_lt53 h2 g1; have q22 := mul_lt53 h2 g2; have q23 := mul_lt53 h2 g3; have q24 := mul_lt53 h2 g4
  have q30 := mul_lt53 h3 g0; have q31 := mul_lt53 h3 g1; have q32 := mul_lt53 h3 g2; have q33 := mul_lt53 h3 g3; have q34 := mul_lt53 h3 g4
  have q40 := mul_lt53 h4 g0; have q41 := mul_lt53 h4 g1; have q42 := mul_lt53 h4 g2; have q43 := mul_lt53 h4 g3; have q44 := mul_lt53 h4 g4
  have m1 : ∀ p, p < 36028797018963968 → p % W64 = p := fun p hp => Nat.mod_eq_of_lt (by show p < 18446744073709551616; omega)
  have m5 : ∀ p, p < 36028797018963968 → p % W64 * 5 % W64 = p * 5 := fun p hp => by rw [m1 p hp]; exact Nat.mod_eq_of_lt (by show p * 5 < 18446744073709551616; omega)
  rw [tOut_is, m1 _ q00, m5 _ q14, m5 _ q23, m5 _ q32, m5 _ q41, m1 _ q01, m1 _ q10, m5 _ q24, m5 _ q33, m5 _ q42, m1 _ q02, m1 _ q11, m1 _ q20, m5 _ q34, m5 _ q43, m1 _ q03, m1 _ q12, m1 _ q21, m1 _ q30, m5 _ q44, m1 _ q04, m1 _ q13, m1 _ q22, m1 _ q31, m1 _ q40]
  rw [add5 (by omega) (by omega) (by omega) (by omega) (by omega), add5 (by omega) (by omega) (by omega) (by omega) (by omega), add5 (by omega) (by omega) (by omega) (by omega) (by omega), add5 (by omega) (by omega) (by omega) (by omega) (by omega), add5 (by omega) (by omega) (by omega) (by omega) (by omega)]
  refine ⟨_, _, _, _, _, rfl, ?_, ?_, ?_, ?_, ?_, ?_, ?_, ?_, ?_, ?_⟩
  · clear q01 q02 q03 q04 q10 q11 q12 q13 q20 q21 q22 q24 q30 q31 q33 q34 q40 q42 q43 q44; omega
  · clear q00 q02 q03 q04 q11 q12 q13 q14 q20 q21 q22 q23 q30 q31 q32 q34 q40 q41 q43 q44; omega
  · clear q00 q01 q03 q04 q10 q12 q13 q14 q21 q22 q23 q24 q30 q31 q32 q33 q40 q41 q42 q44; omega
  · clear q00 q01 q02 q04 q10 q11 q13 q14 q20 q22 q23 q24 q31 q32 q33 q34 q40 q41 q42 q43; omega
  · clear q00 q01 q02 q03 q10 q11 q12 q14 q20 q21 q23 q24 q30 q32 q33 q34 q41 q42 q43 q44; omega
  · clear q01 q02 q03 q04 q10 q11 q12 q13 q20 q21 q22 q24 q30 q31 q33 q34 q40 q42 q43 q44; omega
  · clear q00 q02 q03 q04 q11 q12 q13 q14 q20 q21 q22 q23 q30 q31 q32 q34 q40 q41 q43 q44; omega
  · clear q00 q01 q03 q04 q10 q12 q13 q14 q21 q22 q23 q24 q30 q31 q32 q33 q40 q41 q42 q44; omega
  · clear q00 q01 q02 q04 q10 q11 q13 q14 q20 q22 q23 q24 q31 q32 q33 q34 q40 q41 q42 q43; omega
  · clear q00 q01 q02 q03 q10 q11 q12 q14 q20 q21 q23 q24 q30 q32 q33 q34 q41 q42 q43 q44; omega
/-- The product, modulo the prime. -/
theorem timesU_val {x0 x1 x2 x3 x4 y0 y1 y2 y3 y4 : Nat} (h0 : x0 < 268435456) (h1 : x1 < 268435456) (h2 : x2 < 268435456) (h3 : x3 < 268435456) (h4 : x4 < 268435456) (g0 : y0 < 134217728) (g1 : y1 < 134217728) (g2 : y2 < 134217728) (g3 : y3 < 134217728) (g4 : y4 < 134217728) :
    ∃ a b c d e, timesU [x0, x1, x2, x3, x4] [y0, y1, y2, y3, y4] = [a, b, c, d, e] ∧ a < 67108869 ∧ b < 67108864 ∧ c < 67108864 ∧ d < 67108864 ∧ e < 67108864 ∧
      val5 [a, b, c, d, e] % P130 = val5 [x0, x1, x2, x3, x4] * val5 [y0, y1, y2, y3, y4] % P130 := by
  obtain ⟨a, b, c, d, e, h, ea, eb, ec, ed, ee, la, lb, lc, ld, le⟩ := tOut5 h0 h1 h2 h3 h4 g0 g1 g2 g3 g4
  obtain ⟨a', b', c', d', e', k, hk, la', lb', lc', ld', le', hv⟩ := carryU_val la lb lc ld le
  refine ⟨a', b', c', d', e', by rw [timesU, h, hk], la', lb', lc', ld', le', ?_⟩
  have h5 : val5 [x0, x1, x2, x3, x4] * val5 [y0, y1, y2, y3, y4] = val5 [a, b, c, d, e] + P130 * ((x1 * y4 + x2 * y3 + x3 * y2 + x4 * y1) + 67108864 * ((x2 * y4 + x3 * y3 + x4 * y2) + 67108864 * ((x3 * y4 + x4 * y3) + 67108864 * (x4 * y4)))) := by
    simp only [val5, ea, eb, ec, ed, ee]
    exact times_val ..
  rw [h5, hv, Nat.add_assoc, ← Nat.mul_add, Nat.add_mul_mod_self_left]

def lAt (y : List Nat) : Nat → List Nat
  | 0 => y
  | k + 1 => ((lAt y k).set (k + 1) (((lAt y k).getD (k + 1) 0 + (lAt y k).getD k 0 / 67108864) % W64)).set k ((lAt y k).getD k 0 % 67108864)
@[simp] theorem lAt_length (y : List Nat) (k : Nat) : (lAt y k).length = y.length := by
  induction k with
  | zero => rfl
  | succ k ih => rw [lAt, List.length_set, List.length_set, ih]
def leastU (x : List Nat) : List Nat :=
  if (lAt (plusU (carryU (carryU x)) [5, 0, 0, 0, 0]) 4).getD 4 0 / 67108864 = 0 then carryU (carryU x)
  else (lAt (plusU (carryU (carryU x)) [5, 0, 0, 0, 0]) 4).set 4 ((lAt (plusU (carryU (carryU x)) [5, 0, 0, 0, 0]) 4).getD 4 0 % 67108864)
/-- Carried once more, all limbs are small. -/
theorem carryU_again {a b c d e : Nat} (ha : a < 67108869) (hb : b < 67108864) (hc : c < 67108864) (hd : d < 67108864) (he : e < 67108864) :
    ∃ a' b' c' d' e' k, carryU [a, b, c, d, e] = [a', b', c', d', e'] ∧ a' < 67108864 ∧ b' < 67108864 ∧ c' < 67108864 ∧ d' < 67108864 ∧ e' < 67108864 ∧
      val5 [a, b, c, d, e] = val5 [a', b', c', d', e'] + P130 * k := by
  obtain ⟨a1, b1, c1, d1, e1, q1, h, h1, h2, h3, h4, h5, h6, h7⟩ := cAt_val (a := a) (b := b) (c := c) (d := d) (e := e) (o := 0) (by omega) (by omega) (by omega) (by omega) (by omega) (by omega)
  obtain ⟨a2, b2, c2, d2, e2, q2, g, g1, g2, g3, g4, g5, g6, g7⟩ := cAt_small (o := q1 * 5) h1 h2 h3 h4 h5 (by omega)
  have hq : q2 = 0 ∧ q1 ≤ 1 := by
    simp only [val5] at h7 g7
    omega
  refine ⟨a2, b2, c2, d2, e2, q1, ?_, g1, g2, g3, g4, g5, ?_⟩
  · unfold carryU
    rw [h]
    simp only
    rw [Nat.mod_eq_of_lt (show q1 * 5 < W64 by show q1 * 5 < 18446744073709551616; omega), g, hq.1]
    simp only [List.getD_cons_zero, List.set_cons_zero]
    rw [Nat.mod_eq_of_lt (show a2 + 0 * 5 % W64 < W64 by show a2 + 0 * 5 % 18446744073709551616 < 18446744073709551616; omega)]
    simp
  · simp only [val5] at h7 g7 ⊢
    show _ = _ + 1361129467683753853853498429727072845819 * q1
    omega
theorem lAt4 (a b c d e : Nat) : lAt [a, b, c, d, e] 4 = [a % 67108864, (b + a / 67108864) % W64 % 67108864, (c + (b + a / 67108864) % W64 / 67108864) % W64 % 67108864, (d + (c + (b + a / 67108864) % W64 / 67108864) % W64 / 67108864) % W64 % 67108864,
    (e + (d + (c + (b + a / 67108864) % W64 / 67108864) % W64 / 67108864) % W64 / 67108864) % W64] := rfl
theorem leastU_val {a b c d e : Nat} (ha : a < 4611686018427387904) (hb : b < 4611686018427387904) (hc : c < 4611686018427387904) (hd : d < 4611686018427387904) (he : e < 4611686018427387904) :
    ∃ a' b' c' d' e', leastU [a, b, c, d, e] = [a', b', c', d', e'] ∧ a' < 67108864 ∧ b' < 67108864 ∧ c' < 67108864 ∧ d' < 67108864 ∧ e' < 67108864 ∧
      val5 [a', b', c', d', e'] = val5 [a, b, c, d, e] % P130 := by
  obtain ⟨a1, b1, c1, d1, e1, k1, hk1, la1, lb1, lc1, ld1, le1, hv1⟩ := carryU_val ha hb hc hd he
  obtain ⟨a2, b2, c2, d2, e2, k2, hk2, la2, lb2, lc2, ld2, le2, hv2⟩ := carryU_again la1 lb1 lc1 ld1 le1
  have hm : val5 [a, b, c, d, e] % P130 = val5 [a2, b2, c2, d2, e2] % P130 := by
    rw [hv1, hv2, Nat.add_assoc, ← Nat.mul_add, Nat.add_mul_mod_self_left]
  rw [hm]
  have hp : plusU [a2, b2, c2, d2, e2] [5, 0, 0, 0, 0] = [a2 + 5, b2, c2, d2, e2] := by
    rw [plusU_five] <;> first | rfl | (show _ < 18446744073709551616; omega)
  unfold leastU
  rw [hk1, hk2, hp, lAt4]
  obtain ⟨q1, hq1⟩ : ∃ v, v = (a2 + 5) / 67108864 := ⟨_, rfl⟩
  have m1 : (b2 + q1) % W64 = b2 + q1 := Nat.mod_eq_of_lt (by show _ < 18446744073709551616; omega)
  rw [← hq1, m1]
  obtain ⟨q2, hq2⟩ : ∃ v, v = (b2 + q1) / 67108864 := ⟨_, rfl⟩
  have m2 : (c2 + q2) % W64 = c2 + q2 := Nat.mod_eq_of_lt (by show _ < 18446744073709551616; omega)
  rw [← hq2, m2]
  obtain ⟨q3, hq3⟩ : ∃ v, v = (c2 + q2) / 67108864 := ⟨_, rfl⟩
  have m3 : (d2 + q3) % W64 = d2 + q3 := Nat.mod_eq_of_lt (by show _ < 18446744073709551616; omega)
  rw [← hq3, m3]
  obtain ⟨q4, hq4⟩ : ∃ v, v = (d2 + q3) / 67108864 := ⟨_, rfl⟩
  have m4 : (e2 + q4) % W64 = e2 + q4 := Nat.mod_eq_of_lt (by show _ < 18446744073709551616; omega)
  rw [← hq4, m4]
  simp only [List.getD_cons_succ, List.getD_cons_zero, List.set_cons_succ, List.set_cons_zero]
  have hlt : val5 [a2, b2, c2, d2, e2] < 1361129467683753853853498429727072845824 := by simp only [val5]; omega
  split
  · refine ⟨_, _, _, _, _, rfl, la2, lb2, lc2, ld2, le2, ?_⟩
    rw [Nat.mod_eq_of_lt]
    show _ < 1361129467683753853853498429727072845819
    simp only [val5] at hlt ⊢
    omega
  · rename_i hq5
    clear m1 m2 m3 m4 hm hv1 hv2 hp hlt
    have t4 : q4 = 1 ∧ e2 = 67108863 := by omega
    have t3 : q3 = 1 ∧ d2 = 67108863 := by omega
    have t2 : q2 = 1 ∧ c2 = 67108863 := by omega
    have t1 : q1 = 1 ∧ b2 = 67108863 := by omega
    have t0 : 67108859 ≤ a2 := by omega
    obtain ⟨rfl, rfl⟩ := t4
    obtain ⟨rfl, rfl⟩ := t3
    obtain ⟨rfl, rfl⟩ := t2
    obtain ⟨rfl, rfl⟩ := t1
    refine ⟨_, _, _, _, _, rfl, by omega, by omega, by omega, by omega, by omega, ?_⟩
    simp only [val5, P130]
    omega
end Go.Proofs.YtnmhfomnlnlflaaDoor
/- Tags of the poly layer, in plain Lean: words, loads, parts, the tag. No program, no condition. -/
namespace Go.Proofs.YtnmhfomnlnlflaaDoor
open Go.RowKit

theorem or_addL (x c k n : Nat) (hn : n = 2 ^ k) (hx : x < n) : x ||| (c * n) = x + c * n := by
  subst hn
  rw [Nat.mul_comm c]; exact or_add_ x c k hx
theorem pw52 : 4503599627370496 = 2 ^ 52 := by decide +kernel
theorem pw40 : 1099511627776 = 2 ^ 40 := by decide +kernel
/-- The lowest 128 bits of small limbs. -/
def lowU (x : List Nat) : Nat := (x.getD 0 0 ||| x.getD 1 0 * 67108864 % W64) ||| x.getD 2 0 * 4503599627370496 % W64
def highU (x : List Nat) : Nat := (x.getD 2 0 / 4096 ||| x.getD 3 0 * 16384 % W64) ||| x.getD 4 0 * 1099511627776 % W64
theorem lowU_val {a b c d e : Nat} (ha : a < 67108864) (hb : b < 67108864) : lowU [a, b, c, d, e] = a + 67108864 * b + 4503599627370496 * (c % 4096) := by
  show (a ||| b * 67108864 % 18446744073709551616) ||| c * 4503599627370496 % 18446744073709551616 = _
  have e1 : b * 67108864 % 18446744073709551616 = b * 67108864 := by omega
  have e2 : c * 4503599627370496 % 18446744073709551616 = c % 4096 * 4503599627370496 := Nat.mul_mod_mul_right 4503599627370496 c 4096
  rw [e1, e2, or_addL a b 26 67108864 rfl ha, or_addL _ (c % 4096) 52 4503599627370496 pw52 (by omega)]
  omega
theorem highU_val {a b c d e : Nat} (hc : c < 67108864) (hd : d < 67108864) : highU [a, b, c, d, e] = c / 4096 + 16384 * d + 1099511627776 * (e % 16777216) := by
  show (c / 4096 ||| d * 16384 % 18446744073709551616) ||| e * 1099511627776 % 18446744073709551616 = _
  have e1 : d * 16384 % 18446744073709551616 = d * 16384 := by omega
  have e2 : e * 1099511627776 % 18446744073709551616 = e % 16777216 * 1099511627776 := Nat.mul_mod_mul_right 1099511627776 e 16777216
  rw [e1, e2, or_addL _ _ 14 16384 rfl (by omega), or_addL _ (e % 16777216) 40 1099511627776 pw40 (by omega)]
  omega
theorem words_val {a b c d e : Nat} (ha : a < 67108864) (hb : b < 67108864) (hc : c < 67108864) (hd : d < 67108864) (_he : e < 67108864) :
    lowU [a, b, c, d, e] + 18446744073709551616 * highU [a, b, c, d, e] = val5 [a, b, c, d, e] % 340282366920938463463374607431768211456 ∧ lowU [a, b, c, d, e] < 18446744073709551616 ∧ highU [a, b, c, d, e] < 18446744073709551616 := by
  rw [lowU_val ha hb, highU_val hc hd]
  simp only [val5]
  omega
/-- A number of two words and what is above. -/
def loadU (low high above : Nat) : List Nat :=
  [low % 67108864, low / 67108864 % 67108864, (low / 4503599627370496 ||| high * 4096 % W64) % 67108864, high / 16384 % 67108864, high / 1099511627776 ||| above * 16777216 % W64]
theorem loadU_val {low high above : Nat} (hl : low < W64) (hh : high < W64) (ha : above ≤ 1) :
    ∃ a b c d e, loadU low high above = [a, b, c, d, e] ∧ a < 67108864 ∧ b < 67108864 ∧ c < 67108864 ∧ d < 67108864 ∧ e < 67108864 ∧ val5 [a, b, c, d, e] = low + 18446744073709551616 * high + 340282366920938463463374607431768211456 * above := by
  have hl' : low < 18446744073709551616 := hl
  have hh' : high < 18446744073709551616 := hh
  have e1 : (low / 4503599627370496 ||| high * 4096 % 18446744073709551616) = low / 4503599627370496 + 4096 * (high % 4503599627370496) := by
    rw [show high * 4096 % 18446744073709551616 = high % 4503599627370496 * 4096 by omega, or_addL _ _ 12 4096 rfl (by omega)]; omega
  have e2 : (high / 1099511627776 ||| above * 16777216 % 18446744073709551616) = high / 1099511627776 + 16777216 * above := by
    rw [show above * 16777216 % 18446744073709551616 = above * 16777216 by omega, or_addL _ _ 24 16777216 rfl (by omega)]; omega
  refine ⟨_, _, _, _, _, rfl, ?_⟩
  show _ ∧ _ ∧ (low / 4503599627370496 ||| high * 4096 % 18446744073709551616) % 67108864 < _ ∧ _ ∧ (high / 1099511627776 ||| above * 16777216 % 18446744073709551616) < _ ∧ low % 67108864 + 67108864 * (low / 67108864 % 67108864 + 67108864 * ((low / 4503599627370496 ||| high * 4096 % 18446744073709551616) % 67108864 + 67108864 * (high / 16384 % 67108864 + 67108864 * ((high / 1099511627776 ||| above * 16777216 % 18446744073709551616) + 67108864 * 0)))) = _
  rw [e1, e2]
  omega

/-- A part of a text with a 1 behind it. -/
def wideL (b : List UInt8) : List UInt8 := b ++ 1 :: List.replicate (16 - b.length) 0
def partU (b : List UInt8) : List Nat := loadU (leNat ((wideL b).take 8)) (leNat (((wideL b).drop 8).take 8)) ((wideL b).getD 16 0).toNat
theorem leNat_zeros (n : Nat) : leNat (List.replicate n 0) = 0 := by
  induction n with
  | zero => rfl
  | succ n ih => rw [List.replicate_succ, leNat, ih]; rfl
theorem wideL_length {b : List UInt8} (h : b.length ≤ 16) : (wideL b).length = 17 := by simp [wideL]; omega
theorem wideL_val (b : List UInt8) : leNat (wideL b) = leNat b + 256 ^ b.length := by
  rw [wideL, leNat_append, leNat, leNat_zeros]
  simp
theorem wideL_split {b : List UInt8} (h : b.length ≤ 16) : leNat (wideL b) = leNat ((wideL b).take 8) + 18446744073709551616 * leNat (((wideL b).drop 8).take 8) + 340282366920938463463374607431768211456 * ((wideL b).getD 16 0).toNat := by
  have hl := wideL_length h
  generalize wideL b = w at hl ⊢
  have h1 : leNat w = leNat (w.take 8) + 18446744073709551616 * leNat (w.drop 8) := by
    conv => lhs; rw [← List.take_append_drop 8 w]
    rw [leNat_append, List.length_take, hl]
    rfl
  have h2 : leNat (w.drop 8) = leNat ((w.drop 8).take 8) + 18446744073709551616 * leNat ((w.drop 8).drop 8) := by
    conv => lhs; rw [← List.take_append_drop 8 (w.drop 8)]
    rw [leNat_append, List.length_take, List.length_drop, hl]
    rfl
  have h3 : (w.drop 8).drop 8 = [w.getD 16 0] := by
    rw [List.drop_drop, List.drop_eq_getElem_cons (by omega), List.drop_of_length_le (by omega)]
    simp [List.getD_eq_getElem?_getD, hl]
  rw [h3, leNat_one] at h2
  rw [h1, h2]
  generalize leNat (w.take 8) = A
  generalize leNat ((w.drop 8).take 8) = B
  omega
theorem wide_above {b : List UInt8} (h : b.length ≤ 16) : ((wideL b).getD 16 0).toNat ≤ 1 := by
  rw [wideL, List.getD_eq_getElem?_getD, List.getElem?_append_right h]
  rcases Nat.lt_or_ge b.length 16 with h1 | h1
  · obtain ⟨k, hk⟩ : ∃ k, 16 - b.length = k + 1 := ⟨16 - b.length - 1, by omega⟩
    rw [hk, List.getElem?_cons_succ, List.getElem?_replicate]
    split <;> simp
  · rw [show 16 - b.length = 0 by omega]
    simp
theorem partU_val {b : List UInt8} (h : b.length ≤ 16) :
    ∃ a0 a1 a2 a3 a4, partU b = [a0, a1, a2, a3, a4] ∧ a0 < 67108864 ∧ a1 < 67108864 ∧ a2 < 67108864 ∧ a3 < 67108864 ∧ a4 < 67108864 ∧ val5 [a0, a1, a2, a3, a4] = leNat b + 256 ^ b.length := by
  have hl := wideL_length h
  have h1 := leNat_lt ((wideL b).take 8)
  have h2 := leNat_lt (((wideL b).drop 8).take 8)
  rw [List.length_take, hl] at h1
  rw [List.length_take, List.length_drop, hl] at h2
  obtain ⟨a0, a1, a2, a3, a4, e, l0, l1, l2, l3, l4, hv⟩ := loadU_val (low := leNat ((wideL b).take 8)) (high := leNat (((wideL b).drop 8).take 8)) (above := ((wideL b).getD 16 0).toNat) h1 h2 (wide_above h)
  exact ⟨a0, a1, a2, a3, a4, e, l0, l1, l2, l3, l4, by rw [hv, ← wideL_split h, wideL_val]⟩

/-- The k-th part of a text. -/
def blk (b : List UInt8) (k : Nat) : List UInt8 := (b.drop (16 * k)).take 16
theorem blk_length (b : List UInt8) (k : Nat) : (blk b k).length ≤ 16 := by rw [blk, List.length_take]; omega
/-- What the parts come to, by r, modulo the prime. -/
def pH (r : Nat) (b : List UInt8) : Nat → Nat
  | 0 => 0
  | k + 1 => (pH r b k + (leNat (blk b k) + 256 ^ (blk b k).length)) * r % P130
/-- The same by limbs. -/
def hU (r : List Nat) (b : List UInt8) : Nat → List Nat
  | 0 => [0, 0, 0, 0, 0]
  | k + 1 => timesU (plusU (hU r b k) (partU (blk b k))) r
theorem hU_val {r0 r1 r2 r3 r4 : Nat} (b : List UInt8) (l0 : r0 < 67108864) (l1 : r1 < 67108864) (l2 : r2 < 67108864) (l3 : r3 < 67108864) (l4 : r4 < 67108864) (k : Nat) :
    ∃ h0 h1 h2 h3 h4, hU [r0, r1, r2, r3, r4] b k = [h0, h1, h2, h3, h4] ∧ h0 < 67108869 ∧ h1 < 67108864 ∧ h2 < 67108864 ∧ h3 < 67108864 ∧ h4 < 67108864 ∧ val5 [h0, h1, h2, h3, h4] % P130 = pH (val5 [r0, r1, r2, r3, r4]) b k := by
  induction k with
  | zero => exact ⟨0, 0, 0, 0, 0, rfl, by omega, by omega, by omega, by omega, by omega, rfl⟩
  | succ k ih =>
    obtain ⟨h0, h1, h2, h3, h4, e, b0, b1, b2, b3, b4, hv⟩ := ih
    obtain ⟨p0, p1, p2, p3, p4, ep, c0, c1, c2, c3, c4, hp⟩ := partU_val (blk_length b k)
    have hs : plusU [h0, h1, h2, h3, h4] [p0, p1, p2, p3, p4] = [h0 + p0, h1 + p1, h2 + p2, h3 + p3, h4 + p4] := by
      rw [plusU_five] <;> (show _ < 18446744073709551616; omega)
    obtain ⟨a0, a1, a2, a3, a4, ea, d0, d1, d2, d3, d4, hm⟩ := timesU_val (x0 := h0 + p0) (x1 := h1 + p1) (x2 := h2 + p2) (x3 := h3 + p3) (x4 := h4 + p4) (y0 := r0) (y1 := r1) (y2 := r2) (y3 := r3) (y4 := r4)
      (by omega) (by omega) (by omega) (by omega) (by omega) (by omega) (by omega) (by omega) (by omega) (by omega)
    refine ⟨a0, a1, a2, a3, a4, by rw [hU, e, ep, hs, ea], d0, d1, d2, d3, d4, ?_⟩
    rw [hm, pH, ← hv, ← hp]
    have e1 : val5 [h0 + p0, h1 + p1, h2 + p2, h3 + p3, h4 + p4] = val5 [h0, h1, h2, h3, h4] + val5 [p0, p1, p2, p3, p4] := by simp only [val5]; omega
    rw [e1, Nat.mul_mod, Nat.add_mod]
    conv => rhs; rw [Nat.mul_mod, Nat.add_mod, Nat.mod_mod]
/-- The key's r: the kept bits of its first sixteen bytes. -/
def maskR : List UInt8 := [255, 255, 255, 15, 252, 255, 255, 15, 252, 255, 255, 15, 252, 255, 255, 15]
def rL (K : List UInt8) : List UInt8 := List.zipWith (· &&& ·) (K.take 16) maskR
/-- The tag: sixteen bytes. -/
def tagL (K b : List UInt8) : List UInt8 := leBytes 16 (pH (leNat (rL K)) b ((b.length + 15) / 16) + leNat (K.drop 16))
theorem leNat_and : ∀ (a m : List UInt8), a.length = m.length → leNat (List.zipWith (· &&& ·) a m) = leNat a &&& leNat m
  | [], [], _ => rfl
  | x :: a, y :: m, h => by
    rw [List.zipWith_cons_cons, leNat, leNat, leNat, leNat_and a m (by simpa using h), UInt8.toNat_and]
    have hx := x.toNat_lt
    have hy := y.toNat_lt
    apply Nat.eq_of_testBit_eq
    intro i
    have e1 : x.toNat + 256 * leNat a = 2 ^ 8 * leNat a + x.toNat := by omega
    have e2 : y.toNat + 256 * leNat m = 2 ^ 8 * leNat m + y.toNat := by omega
    have hxy : x.toNat &&& y.toNat < 2 ^ 8 := Nat.lt_of_le_of_lt Nat.and_le_left hx
    have e3 : (x.toNat &&& y.toNat) + 256 * (leNat a &&& leNat m) = 2 ^ 8 * (leNat a &&& leNat m) + (x.toNat &&& y.toNat) := by omega
    rw [e1, e2, e3, Nat.testBit_and, Nat.testBit_two_pow_mul_add _ hxy, Nat.testBit_two_pow_mul_add _ hx, Nat.testBit_two_pow_mul_add _ hy]
    split <;> simp [Nat.testBit_and]
theorem leNat_append16 (a b : List UInt8) (h : a.length = 8) : leNat (a ++ b) = leNat a + 18446744073709551616 * leNat b := by
  rw [leNat_append, h]
end Go.Proofs.YtnmhfomnlnlflaaDoor
/- The walks of the poly layer's numbers: carry, plus, load, words. No condition. -/
namespace Go.Proofs.YtnmhfomnlnlflaaDoor
open Go.RowKit
/-- Long words as they stand in memory. -/
def u64s (l : List Nat) : List Value := l.map fun (c : Nat) => .int .u64 (c : Int)
@[simp] theorem u64s_length (l : List Nat) : (u64s l).length = l.length := by simp [u64s]
theorem u64s_set (l : List Nat) (i x : Nat) : (u64s l).set i (.int .u64 (x : Int)) = u64s (l.set i x) := by simp [u64s, List.map_set]
theorem u64s_oneCell (l : List Nat) : ∀ u ∈ u64s l, u.oneCell' = true := by
  intro u hu
  simp only [u64s, List.mem_map] at hu
  obtain ⟨c, _, rfl⟩ := hu
  rfl
theorem Arr.u64 {w : World} {g : Nat} {t : TypeId} {s : List Nat} (h : Arr w g t (u64s s)) {a : Nat} (ha : a < s.length) : w.cell? ⟨g, a, none⟩ = some (.int .u64 (s.getD a 0 : Nat)) := by
  refine h.cell ?_
  simp [u64s, List.getD_eq_getElem?_getD, ha]
/-- All words are words. -/
def Lt64 (l : List Nat) : Prop := ∀ i, l.getD i 0 < 18446744073709551616
theorem Lt64.set {l : List Nat} (h : Lt64 l) (k : Nat) {v : Nat} (hv : v < 18446744073709551616) : Lt64 (l.set k v) := by
  intro i
  rw [List.getD_eq_getElem?_getD, List.getElem?_set]
  split
  · split
    · exact hv
    · simp
  · have := h i
    rwa [List.getD_eq_getElem?_getD] at this
theorem and26 (n : Nat) (h : n < 18446744073709551616) : bits .and .u64 (n : Int) 67108863 = ((n % 67108864 : Nat) : Int) := by
  have h1 := u64_and_nat n 67108863 h (by omega)
  rw [show (67108863 : Nat) = 2 ^ 26 - 1 from rfl, Nat.and_two_pow_sub_one_eq_mod] at h1
  exact h1
theorem wrap_add64 (a b : Nat) : IntKind.u64.wrap ((a : Int) + (b : Int)) = (((a + b) % 18446744073709551616 : Nat) : Int) := by
  rw [IntKind.wrap_u64]; omega
theorem wrap_mul64 (a b : Nat) : IntKind.u64.wrap ((a : Int) * (b : Int)) = ((a * b % 18446744073709551616 : Nat) : Int) := by
  rw [IntKind.wrap_u64, Int.natCast_emod, Int.natCast_mul]; rfl
theorem cAt_lt {x : List Nat} (h : Lt64 x) (o k : Nat) : Lt64 (cAt x o k).1 := by
  induction k with
  | zero => exact h
  | succ k ih => exact ih.set k (by have := Nat.mod_lt (((cAt x o k).1.getD k 0 + (cAt x o k).2) % W64) (show 67108864 > 0 by omega); omega)
theorem info38 (l : List Nat) (h : l.length = 5) : (Tryd.prog.info? 120).map (·.size) = some (u64s l).length := by simp only [u64s_length, h]; kernel_rfl
/-- After r passes. -/
def passAt (x : List Nat) : Nat → List Nat × Nat
  | 0 => (x, 0)
  | r + 1 => ((cAt (passAt x r).1 (passAt x r).2 5).1, (cAt (passAt x r).1 (passAt x r).2 5).2 * 5 % W64)
@[simp] theorem passAt_length (x : List Nat) (r : Nat) : (passAt x r).1.length = x.length := by
  induction r with
  | zero => rfl
  | succ r ih => rw [passAt, cAt_length, ih]
theorem passAt_lt {x : List Nat} (h : Lt64 x) (r : Nat) : Lt64 (passAt x r).1 := by
  induction r with
  | zero => exact h
  | succ r ih => exact cAt_lt ih _ _
set_option maxRecDepth 100000 in
set_option maxHeartbeats 4000000 in
theorem carry_any (x : List Nat) (hx : x.length = 5) (hl : Lt64 x) (w : World) :
    Calls Tryd.prog 90 #[.agg (u64s x).toArray] w fun e w' => e = .returned (.agg (u64s (carryU x)).toArray) ∧ Below w.heap.size w w' := by
  go_enter Tryd.func90, Tryd.ntmps90
  go_wp2_with fail
  have hA : Arr ((w.alloc (.cells (u64s x).toArray 120)).alloc (.cells (u64s (List.replicate 5 0)).toArray 120)) w.heap.size 120 (u64s x) := (Arr.newAt rfl rfl).alloc _
  have hR : Arr ((w.alloc (.cells (u64s x).toArray 120)).alloc (.cells (u64s (List.replicate 5 0)).toArray 120)) (w.heap.size + 1) 120 (u64s (List.replicate 5 0)) := Arr.newAt (asz _ _) rfl
  have hB : Below w.heap.size w ((w.alloc (.cells (u64s x).toArray 120)).alloc (.cells (u64s (List.replicate 5 0)).toArray 120)) := ((Below.refl _ _).alloc (Nat.le_refl _) _).alloc (by rw [asz]; omega) _
  change Code.wp _ _ _ _ ((w.alloc (.cells (u64s x).toArray 120)).alloc (.cells (u64s (List.replicate 5 0)).toArray 120))
  generalize ((w.alloc (.cells (u64s x).toArray 120)).alloc (.cells (u64s (List.replicate 5 0)).toArray 120)) = W at hA hR hB ⊢
  go_loopw [3, 5] (fun ov i wr => ∃ r : Nat, r ≤ 2 ∧ i = .int .i64 r ∧ ov = .int .u64 ((passAt x r).2 : Nat) ∧ Arr wr w.heap.size 120 (u64s (passAt x r).1) ∧ Arr wr (w.heap.size + 1) 120 (u64s (List.replicate 5 0)) ∧ Below w.heap.size w wr) (fun _ i _ => 2 - (intOf i).toNat)
  case atStart => exact ⟨0, by omega, rfl, rfl, hA, hR, hB⟩
  case round =>
    obtain ⟨r, hr, rfl, rfl, hA, hR, hB⟩ := hrel
    by_cases hlt : r < 2
    · obtain ⟨y, hy⟩ : ∃ y, y = (passAt x r).1 := ⟨_, rfl⟩
      obtain ⟨o, ho⟩ : ∃ o, o = (passAt x r).2 := ⟨_, rfl⟩
      have hly : y.length = 5 := by rw [hy]; simp [hx]
      have hLy : Lt64 y := by rw [hy]; exact passAt_lt hl r
      have HP : Hid ((passAt x (r + 1)) = ((cAt y o 5).1, (cAt y o 5).2 * 5 % W64)) := by show _ = _; rw [hy, ho]; rfl
      rw [← hy] at hA
      rw [← ho]
      clear hy ho
      go_wp2_with fail
      generalize wr = W1 at hA hR hB ⊢
      go_loopw [3, 7] (fun ov i wr => ∃ k : Nat, k ≤ 5 ∧ i = .int .i64 k ∧ ov = .int .u64 ((cAt y o k).2 : Nat) ∧ Arr wr w.heap.size 120 (u64s (cAt y o k).1) ∧ Arr wr (w.heap.size + 1) 120 (u64s (List.replicate 5 0)) ∧ Below w.heap.size w wr) (fun _ i _ => 5 - (intOf i).toNat)
      case atStart => exact ⟨0, by omega, rfl, rfl, hA, hR, hB⟩
      case round =>
        obtain ⟨k, hk, rfl, rfl, hA, hR, hB⟩ := hrel
        by_cases hlt : k < 5
        · have hlz : (cAt y o k).1.length = 5 := by simp [hly]
          have hLz := cAt_lt hLy o k
          obtain ⟨z, hz⟩ : ∃ z, z = (cAt y o k).1 := ⟨_, rfl⟩
          obtain ⟨q, hq⟩ : ∃ q, q = (cAt y o k).2 := ⟨_, rfl⟩
          obtain ⟨a, ha⟩ : ∃ a, a = z.getD k 0 := ⟨_, rfl⟩
          obtain ⟨v, hv⟩ : ∃ v, v = (a + q) % 18446744073709551616 := ⟨_, rfl⟩
          have HC : Hid (cAt y o (k + 1) = (z.set k (v % 67108864), v / 67108864)) := by show _ = _; rw [hv, ha, hz, hq]; rfl
          rw [← hz] at hA hlz hLz
          rw [← hq]
          have c1 := hA.u64 (a := k) (by omega)
          rw [← ha] at c1
          have f1 := hA.frozen k
          have e1 := wrap_add64 a q
          rw [← hv] at e1
          have hv1 : v < 18446744073709551616 := by rw [hv]; exact Nat.mod_lt _ (by omega)
          have e2 := and26 v hv1
          clear hz hq ha hv
          go_wp2_with fail
          have h1 := (hA.set k (.int .u64 (v : Int))).set k (.int .u64 ((v % 67108864 : Nat) : Int))
          rw [List.set_set, u64s_set] at h1
          refine ⟨⟨k + 1, by omega, by go_num, by rw [HC.out]; rfl, by rw [HC.out]; exact h1, (hR.other (by simp only []; omega) _).other (by simp only []; omega) _, hB.trans ((below_setCell (a := ⟨w.heap.size, k, none⟩) (Nat.le_refl w.heap.size)).trans (below_setCell (a := ⟨w.heap.size, k, none⟩) (Nat.le_refl w.heap.size)))⟩, by simp [intOf]; omega⟩
        · obtain rfl : k = 5 := by omega
          obtain ⟨z, hz⟩ : ∃ z, z = (cAt y o 5).1 := ⟨_, rfl⟩
          obtain ⟨q, hq⟩ : ∃ q, q = (cAt y o 5).2 := ⟨_, rfl⟩
          rw [← hz] at hA
          rw [← hq]
          have e1 := wrap_mul64 q 5
          rw [← hz, ← hq] at HP
          clear hz hq
          obtain ⟨v, hv⟩ : ∃ v, v = q * 5 % 18446744073709551616 := ⟨_, rfl⟩
          rw [show q * 5 % W64 = v from hv.symm] at HP
          rw [← hv] at e1
          clear hv
          simp only [show ((5 : Nat) : Int) = 5 from rfl] at e1 ⊢
          go_wp2_with fail
          refine ⟨⟨r + 1, by omega, by go_num, by rw [HP.out], by rw [HP.out]; exact hA, hR, hB⟩, by simp [intOf]; omega⟩
    · obtain rfl : r = 2 := by omega
      obtain ⟨z, hz⟩ : ∃ z, z = (passAt x 2).1 := ⟨_, rfl⟩
      obtain ⟨q, hq⟩ : ∃ q, q = (passAt x 2).2 := ⟨_, rfl⟩
      have hlz : z.length = 5 := by rw [hz]; simp [hx]
      obtain ⟨a, ha⟩ : ∃ a, a = z.getD 0 0 := ⟨_, rfl⟩
      obtain ⟨v, hv⟩ : ∃ v, v = (a + q) % 18446744073709551616 := ⟨_, rfl⟩
      have HC : Hid (carryU x = z.set 0 v) := by show _ = _; rw [hv, ha, hz, hq]; rfl
      rw [← hz] at hA
      rw [← hq]
      have c1 := hA.u64 (a := 0) (by omega)
      rw [← ha] at c1
      have f1 := hA.frozen 0
      have e1 := wrap_add64 a q
      rw [← hv] at e1
      clear hz hq ha hv
      have h1 := hA.set 0 (.int .u64 (v : Int))
      rw [u64s_set] at h1
      have hRn := hR.other (a := ⟨w.heap.size, 0, none⟩) (by simp only []; omega) (.int .u64 (v : Int))
      have hBn := hB.trans (below_setCell (w := wr) (a := ⟨w.heap.size, 0, none⟩) (v := .int .u64 (v : Int)) (Nat.le_refl _))
      have hlc : (z.set 0 v).length = 5 := by rw [List.length_set, hlz]
      simp only [show ((2 : Nat) : Int) = 2 from rfl]
      go_wp2_with first
        | (refine wpList_load_mid rfl 120 (.tmp 1) rfl w.heap.size 0 rfl (u64s (z.set 0 v)) _ h1.range Tryd.underlying120 rfl (info38 _ hlc) ?_)
        | (refine wpList_put hRn rfl 120 (.tmp 2) (.tmp 34) rfl (u64s (z.set 0 v)) rfl rfl (by simp [hlz]) (info38 _ hlc) (u64s_oneCell _) ?_; intro w2 hR2 hB2 hO2)
      refine bodyPost_ret (results_cell_row rfl _ _ (w.heap.size + 1) _ _ _ _ rfl hR2 Tryd.underlying120 rfl (by have := info38 _ hlc; simpa using this)) rfl ?_
      rw [HC.out]
      exact ⟨rfl, hBn.trans (hB2.mono (by omega))⟩
end Go.Proofs.YtnmhfomnlnlflaaDoor
/- The walks of the poly layer's numbers: load, words, plus, times, least. No condition. -/
namespace Go.Proofs.YtnmhfomnlnlflaaDoor
open Go.RowKit
section
variable {P : Program} {ev : Operand → Value} {d : Option Tmp} {t T U : TypeId} {s : String} {af : Array Edge} {gd : Option (Nat × Bool)} {w : World} {x y : Operand}
theorem run_add64 {a b : Nat} (h1 : ev x = .int .u64 a) (h2 : ev y = .int .u64 b) : (execOp ev ⟨d, .binOp .add T x y U, t, s, af, gd⟩).run P w = .ok (.value (.int .u64 (((a + b) % 18446744073709551616 : Nat) : Int))) w := by
  simp only [execOp, h1, h2]
  go_simp
  exact wrap_add64 a b
theorem run_mul64 {a b : Nat} (h1 : ev x = .int .u64 a) (h2 : ev y = .int .u64 b) : (execOp ev ⟨d, .binOp .mul T x y U, t, s, af, gd⟩).run P w = .ok (.value (.int .u64 ((a * b % 18446744073709551616 : Nat) : Int))) w := by
  simp only [execOp, h1, h2]
  go_simp
  exact wrap_mul64 a b
theorem run_shr26 {a : Nat} (h1 : ev x = .int .u64 a) (hc : ev y = .int .u64 26) : (execOp ev ⟨d, .binOp .shr T x y U, t, s, af, gd⟩).run P w = .ok (.value (.int .u64 ((a / 67108864 : Nat) : Int))) w := by
  simp only [execOp, h1, hc]
  go_simp
theorem run_inc {a : Nat} (h : a < 1000000) (h1 : ev x = .int .i64 a) (hc : ev y = .int .i64 1) : (execOp ev ⟨d, .binOp .add T x y U, t, s, af, gd⟩).run P w = .ok (.value (.int .i64 ((a + 1 : Nat) : Int))) w := by
  simp only [execOp, h1, hc]
  go_simp
  exact IntWalk.i64_in _ (by omega)
theorem wrap_mulK (a b : Nat) (z : Int) (hz : z = b) : IntKind.u64.wrap ((a : Int) * z) = (((a * b) % 18446744073709551616 : Nat) : Int) := by
  subst hz; exact wrap_mul64 a b
theorem or64 (a b : Nat) (ha : a < 18446744073709551616) (hb : b < 18446744073709551616) : ∃ q : Nat, q = (a ||| b) ∧ q < 18446744073709551616 ∧ bits .or .u64 (a : Int) (b : Int) = (q : Int) :=
  ⟨_, rfl, Nat.or_lt_two_pow (n := 64) ha hb, u64_or_nat _ _ ha hb⟩
end
set_option maxRecDepth 100000 in
set_option maxHeartbeats 4000000 in
theorem load_any (low high above : Nat) (hl : low < 18446744073709551616) (hh : high < 18446744073709551616) (w : World) :
    Calls Tryd.prog 70 #[.int .u64 low, .int .u64 high, .int .u64 above] w fun e w' => e = .returned (.agg (u64s (loadU low high above)).toArray) ∧ Below w.heap.size w w' := by
  obtain ⟨x0, hx0⟩ : ∃ v, v = low % 67108864 := ⟨_, rfl⟩
  have e1 : bits .and .u64 (low : Int) 67108863 = (x0 : Int) := by rw [hx0]; exact and26 low hl
  obtain ⟨x1, hx1⟩ : ∃ v, v = low / 67108864 % 67108864 := ⟨_, rfl⟩
  have e2 : bits .and .u64 ((low : Int) / 67108864) 67108863 = (x1 : Int) := by rw [hx1]; exact and26 (low / 67108864) (by omega)
  obtain ⟨p, hp⟩ : ∃ v, v = high * 4096 % 18446744073709551616 := ⟨_, rfl⟩
  have w1 : IntKind.u64.wrap ((high : Int) * 4096) = (p : Int) := by rw [hp]; exact wrap_mulK high 4096 4096 rfl
  obtain ⟨q, hq, hql, e3⟩ := or64 (low / 4503599627370496) p (by omega) (by rw [hp]; exact Nat.mod_lt _ (by omega))
  have e3' : bits .or .u64 ((low : Int) / 4503599627370496) (p : Int) = (q : Int) := e3
  obtain ⟨x2, hx2⟩ : ∃ v, v = q % 67108864 := ⟨_, rfl⟩
  have e4 : bits .and .u64 (q : Int) 67108863 = (x2 : Int) := by rw [hx2]; exact and26 q hql
  obtain ⟨x3, hx3⟩ : ∃ v, v = high / 16384 % 67108864 := ⟨_, rfl⟩
  have e5 : bits .and .u64 ((high : Int) / 16384) 67108863 = (x3 : Int) := by rw [hx3]; exact and26 (high / 16384) (by omega)
  obtain ⟨p2, hp2⟩ : ∃ v, v = above * 16777216 % 18446744073709551616 := ⟨_, rfl⟩
  have w2 : IntKind.u64.wrap ((above : Int) * 16777216) = (p2 : Int) := by rw [hp2]; exact wrap_mulK above 16777216 16777216 rfl
  obtain ⟨x4, hx4, _, e6⟩ := or64 (high / 1099511627776) p2 (by omega) (by rw [hp2]; exact Nat.mod_lt _ (by omega))
  have e6' : bits .or .u64 ((high : Int) / 1099511627776) (p2 : Int) = (x4 : Int) := e6
  have hE : loadU low high above = [x0, x1, x2, x3, x4] := by rw [hx0, hx1, hx2, hx3, hx4, hq, hp, hp2]; rfl
  rw [hE]
  clear hE hx0 hx1 hx2 hx3 hx4 hq hp hp2 e3 e6
  go_enter Tryd.func70, Tryd.ntmps70
  go_wp2_with fail
  refine bodyPost_ret (results_cell_row rfl _ _ w.heap.size _ _ _ _ rfl (Arr.newAt (l := u64s [x0, x1, x2, x3, x4]) rfl rfl) Tryd.underlying120 rfl (by kernel_rfl)) rfl ?_
  exact ⟨rfl, (Below.refl _ _).alloc (Nat.le_refl _) _⟩
set_option maxRecDepth 100000 in
set_option maxHeartbeats 4000000 in
theorem words_any (x : List Nat) (hx : x.length = 5) (hl : Lt64 x) (w : World) :
    Calls Tryd.prog 75 #[.agg (u64s x).toArray] w fun e w' => e = .returned (.tuple #[.int .u64 (lowU x : Nat), .int .u64 (highU x : Nat)]) ∧ Below w.heap.size w w' := by
  obtain ⟨a, b, c, d, e, rfl⟩ := five hx
  have la : a < 18446744073709551616 := hl 0
  have lb : b < 18446744073709551616 := hl 1
  have lc : c < 18446744073709551616 := hl 2
  obtain ⟨p1, hp1⟩ : ∃ v, v = b * 67108864 % 18446744073709551616 := ⟨_, rfl⟩
  have w1 : IntKind.u64.wrap ((b : Int) * 67108864) = (p1 : Int) := by rw [hp1]; exact wrap_mulK b 67108864 67108864 rfl
  obtain ⟨q1, hq1, lq1, e1⟩ := or64 a p1 la (by rw [hp1]; exact Nat.mod_lt _ (by omega))
  obtain ⟨p2, hp2⟩ : ∃ v, v = c * 4503599627370496 % 18446744073709551616 := ⟨_, rfl⟩
  have w2 : IntKind.u64.wrap ((c : Int) * 4503599627370496) = (p2 : Int) := by rw [hp2]; exact wrap_mulK c 4503599627370496 4503599627370496 rfl
  obtain ⟨q2, hq2, lq2, e2⟩ := or64 q1 p2 lq1 (by rw [hp2]; exact Nat.mod_lt _ (by omega))
  obtain ⟨p3, hp3⟩ : ∃ v, v = d * 16384 % 18446744073709551616 := ⟨_, rfl⟩
  have w3 : IntKind.u64.wrap ((d : Int) * 16384) = (p3 : Int) := by rw [hp3]; exact wrap_mulK d 16384 16384 rfl
  obtain ⟨q3, hq3, lq3, e3⟩ := or64 (c / 4096) p3 (by omega) (by rw [hp3]; exact Nat.mod_lt _ (by omega))
  have e3' : bits .or .u64 ((c : Int) / 4096) (p3 : Int) = (q3 : Int) := e3
  obtain ⟨p4, hp4⟩ : ∃ v, v = e * 1099511627776 % 18446744073709551616 := ⟨_, rfl⟩
  have w4 : IntKind.u64.wrap ((e : Int) * 1099511627776) = (p4 : Int) := by rw [hp4]; exact wrap_mulK e 1099511627776 1099511627776 rfl
  obtain ⟨q4, hq4, lq4, e4⟩ := or64 q3 p4 lq3 (by rw [hp4]; exact Nat.mod_lt _ (by omega))
  have hlow : lowU [a, b, c, d, e] = q2 := by rw [hq2, hq1, hp1, hp2]; rfl
  have hhigh : highU [a, b, c, d, e] = q4 := by rw [hq4, hq3, hp3, hp4]; rfl
  rw [hlow, hhigh]
  clear hlow hhigh hp1 hp2 hp3 hp4 hq1 hq2 hq3 hq4 e3 hl
  go_enter Tryd.func75, Tryd.ntmps75
  have hA : Arr (w.alloc (.cells (u64s [a, b, c, d, e]).toArray 120)) w.heap.size 120 (u64s [a, b, c, d, e]) := Arr.newAt rfl rfl
  have c0 := hA.cell (i := 0) rfl
  have c1 := hA.cell (i := 1) rfl
  have c2 := hA.cell (i := 2) rfl
  have c3 := hA.cell (i := 3) rfl
  have c4 := hA.cell (i := 4) rfl
  go_wp2_with fail
  go_ret2
  exact ⟨rfl, (Below.refl _ _).alloc (Nat.le_refl _) _⟩
theorem pAt_lt {x y : List Nat} (h : Lt64 x) (k : Nat) : Lt64 (pAt x y k) := by
  induction k with
  | zero => exact h
  | succ k ih => exact ih.set k (Nat.mod_lt _ (show 18446744073709551616 > 0 by omega))
set_option maxRecDepth 100000 in
set_option maxHeartbeats 4000000 in
theorem plus_any (x y : List Nat) (hx : x.length = 5) (hy : y.length = 5) (w : World) :
    Calls Tryd.prog 71 #[.agg (u64s x).toArray, .agg (u64s y).toArray] w fun e w' => e = .returned (.agg (u64s (plusU x y)).toArray) ∧ Below w.heap.size w w' := by
  go_enter Tryd.func71, Tryd.ntmps71
  go_wp2_with fail
  generalize hW : ((w.alloc _).alloc _).alloc _ = W
  have h2 : Arr W w.heap.size 120 (u64s x) := by rw [← hW]; exact ((Arr.newAt rfl rfl).alloc _).alloc _
  have h3 : Arr W (w.heap.size + 1) 120 (u64s y) := by rw [← hW]; exact (Arr.newAt (asz _ _) rfl).alloc _
  have h4 : Arr W (w.heap.size + 1 + 1) 120 (u64s (List.replicate 5 0)) := by rw [← hW]; exact Arr.newAt (by simp only [asz]) (by kernel_rfl)
  have hB : Below w.heap.size w W := by rw [← hW]; exact (((Below.refl _ _).alloc (by omega) _).alloc (by simp only [asz]; omega) _).alloc (by simp only [asz]; omega) _
  clear hW
  go_loopw [6] (fun i wr => ∃ r : Nat, r ≤ 5 ∧ i = .int .i64 r ∧ Arr wr w.heap.size 120 (u64s (pAt x y r)) ∧ Arr wr (w.heap.size + 1) 120 (u64s y) ∧ Arr wr (w.heap.size + 1 + 1) 120 (u64s (List.replicate 5 0)) ∧ Below w.heap.size w wr) (fun i _ => 5 - (intOf i).toNat)
  case atStart => exact ⟨0, by omega, rfl, h2, h3, h4, hB⟩
  case round =>
    obtain ⟨r, hr, rfl, h2, h3, h4, hB⟩ := hrel
    by_cases hlt : r < 5
    · obtain ⟨z, hz⟩ : ∃ z, z = pAt x y r := ⟨_, rfl⟩
      obtain ⟨a, ha⟩ : ∃ a, a = z.getD r 0 := ⟨_, rfl⟩
      obtain ⟨b, hb⟩ : ∃ b, b = y.getD r 0 := ⟨_, rfl⟩
      have hlz : z.length = 5 := by rw [hz]; simp [hx]
      have HP : Hid (pAt x y (r + 1) = z.set r ((a + b) % 18446744073709551616)) := by show _ = _; rw [ha, hb, hz]; rfl
      rw [← hz] at h2
      have c2 := h2.u64 (a := r) (by omega)
      have c3 := h3.u64 (a := r) (by omega)
      rw [← ha] at c2
      rw [← hb] at c3
      clear hz ha hb
      go_wp2_with fail
      refine wp_region_st (by kernel_rfl) [IsV (.int .i64 (r : Nat)), IsV (.pointer (some ⟨w.heap.size, r, none⟩)), IsV (.int .u64 ((a : Nat) : Int)), IsV (.int .i64 (r : Nat)), IsV (.pointer (some ⟨(w.heap.size + 1), r, none⟩)), IsV (.int .u64 ((b : Nat) : Int)), IsV (.int .u64 ((((a + b) % 18446744073709551616) : Nat) : Int)), IsV (.pointer (some ⟨w.heap.size, r, none⟩))] 8 _ rfl rfl rfl (by kernel_rfl) (by kernel_rfl) ?_ (⟨w.heap.size, r, none⟩ : Addr) (.int .u64 ((((a + b) % 18446744073709551616) : Nat) : Int)) ?_ ?_ ?_
      · intro φ hφ
        simp only [List.mem_cons, List.not_mem_nil, or_false] at hφ
        rcases hφ with rfl | rfl | rfl | rfl | rfl | rfl | rfl | rfl <;> exact ⟨_, rfl⟩
      · refine ⟨?_, ?_, ?_, ?_, ?_, ?_, ?_, ?_, trivial⟩
        · intro a1 w1 hG hF
          exact d_old rfl (wants0 rfl) (.tmp 5) (.inr rfl) (.int .i64 (r : Nat)) (hF.ol 5 (by kernel_rfl)) rfl
        · intro a1 w1 hG hF
          have e2 : a1.eval (.tmp 2) = .pointer (some ⟨w.heap.size, 0, none⟩) := hF.ol 2 (by kernel_rfl)
          obtain ⟨_, e9, rfl⟩ := hF.dp 0 9 (by kernel_rfl)
          exact d_is rfl (wants0 rfl) _ rfl (run_idx Tryd.underlying120 (by kernel_rfl) e2 e9 (by omega))
        · intro a1 w1 hG hF
          obtain ⟨_, e10, rfl⟩ := hF.dp 1 10 (by kernel_rfl)
          exact d_is rfl (wants0 rfl) _ rfl (run_load1 Tryd.underlying39 e10 ((hG.cell _).trans c2))
        · intro a1 w1 hG hF
          exact d_old rfl (wants0 rfl) (.tmp 5) (.inr rfl) (.int .i64 (r : Nat)) (hF.ol 5 (by kernel_rfl)) rfl
        · intro a1 w1 hG hF
          have e3 : a1.eval (.tmp 3) = .pointer (some ⟨(w.heap.size + 1), 0, none⟩) := hF.ol 3 (by kernel_rfl)
          obtain ⟨_, e12, rfl⟩ := hF.dp 3 12 (by kernel_rfl)
          exact d_is rfl (wants0 rfl) _ rfl (run_idx Tryd.underlying120 (by kernel_rfl) e3 e12 (by omega))
        · intro a1 w1 hG hF
          obtain ⟨_, e13, rfl⟩ := hF.dp 4 13 (by kernel_rfl)
          exact d_is rfl (wants0 rfl) _ rfl (run_load1 Tryd.underlying39 e13 ((hG.cell _).trans c3))
        · intro a1 w1 hG hF
          obtain ⟨_, e11, rfl⟩ := hF.dp 2 11 (by kernel_rfl)
          obtain ⟨_, e14, rfl⟩ := hF.dp 5 14 (by kernel_rfl)
          exact d_is rfl (wants0 rfl) _ rfl (run_add64 e11 e14)
        · intro a1 w1 hG hF
          have e2 : a1.eval (.tmp 2) = .pointer (some ⟨w.heap.size, 0, none⟩) := hF.ol 2 (by kernel_rfl)
          obtain ⟨_, e9, rfl⟩ := hF.dp 0 9 (by kernel_rfl)
          exact d_is rfl (wants0 rfl) _ rfl (run_idx Tryd.underlying120 (by kernel_rfl) e2 e9 (by omega))
      · intro a1 w1 hG hF
        obtain ⟨_, e16, rfl⟩ := hF.dp 7 16 (by kernel_rfl)
        obtain ⟨_, e15, rfl⟩ := hF.dp 6 15 (by kernel_rfl)
        exact ⟨wants0 rfl, run_store1 (by kernel_rfl) e16 e15 (by rw [hG.cell]; exact (Option.isSome_iff_exists.2 ⟨_, c2⟩)) (by rw [hG.frozen]; exact h2.frozen _)⟩
      intro vs k0 hf
      clear hf
      simp only [putAll, Nat.zero_add, Nat.reduceAdd]
      have h2' := (h2.dr ⟨k0, rfl⟩).set r (.int .u64 (((a + b) % 18446744073709551616 : Nat) : Int))
      rw [u64s_set] at h2'
      have h3' := (h3.dr ⟨k0, rfl⟩).other (a := ⟨w.heap.size, r, none⟩) (by simp only []; omega) (.int .u64 (((a + b) % 18446744073709551616 : Nat) : Int))
      have h4' := (h4.dr ⟨k0, rfl⟩).other (a := ⟨w.heap.size, r, none⟩) (by simp only []; omega) (.int .u64 (((a + b) % 18446744073709551616 : Nat) : Int))
      have hB' := hB.trans ((below_dr ⟨k0, rfl⟩).trans (below_setCell (a := ⟨w.heap.size, r, none⟩) (v := .int .u64 (((a + b) % 18446744073709551616 : Nat) : Int)) (Nat.le_refl w.heap.size)))
      rw [← HP.out] at h2'
      generalize ((wr.drewN k0).setCell _ _) = W1 at h2' h3' h4' hB' ⊢
      clear h2 h3 h4 hB c2 c3
      go_simp
      go_wp2_with fail
      go_roundw
      case rel => exact ⟨r + 1, by omega, by go_num, h2', h3', h4', hB'⟩
      case measure => simp [intOf]; omega
    · obtain rfl : r = 5 := by omega
      obtain ⟨z, hz⟩ : ∃ z, z = plusU x y := ⟨_, rfl⟩
      have hlz : z.length = 5 := by rw [hz]; simp [plusU, hx]
      rw [show pAt x y 5 = z from hz.symm] at h2
      have HZ := Lib.hid hz
      clear hz
      simp only [show ((5 : Nat) : Int) = 5 from rfl]
      go_wp2_with first
        | (refine wpList_load_mid rfl 120 (.tmp 2) rfl w.heap.size 0 rfl (u64s z) _ h2.range Tryd.underlying120 rfl (info38 _ hlz) ?_)
        | (refine wpList_put h4 rfl 120 (.tmp 4) (.tmp 18) rfl (u64s z) rfl rfl (by simp [hlz]) (info38 _ hlz) (u64s_oneCell _) ?_; intro w2 h42 hB2 hO2)
      refine bodyPost_ret (results_cell_row rfl _ _ (w.heap.size + 1 + 1) _ _ _ _ rfl h42 Tryd.underlying120 rfl (by have := info38 _ hlz; simpa using this)) rfl ?_
      rw [← HZ.out]
      exact ⟨rfl, hB.trans (hB2.mono (by omega))⟩
end Go.Proofs.YtnmhfomnlnlflaaDoor
/- The walks of the poly layer's numbers: times, least, part. No condition. -/
namespace Go.Proofs.YtnmhfomnlnlflaaDoor
open Go.RowKit
theorem tIn_lt (x y : List Nat) (i : Nat) {o : List Nat} (h : Lt64 o) (k : Nat) : Lt64 (tIn x y i o k) := by
  induction k with
  | zero => exact h
  | succ k ih => exact ih.set _ (Nat.mod_lt _ (show 18446744073709551616 > 0 by omega))
theorem tOut_lt (x y : List Nat) (i : Nat) : Lt64 (tOut x y i) := by
  induction i with
  | zero =>
    intro j
    match j with
    | 0 | 1 | 2 | 3 | 4 => show 0 < _; omega
    | j + 5 => show 0 < _; omega
  | succ i ih => exact tIn_lt x y i ih 5
set_option maxRecDepth 100000 in
set_option maxHeartbeats 4000000 in
theorem times_any (x y : List Nat) (hx : x.length = 5) (hy : y.length = 5) (w : World) :
    Calls Tryd.prog 73 #[.agg (u64s x).toArray, .agg (u64s y).toArray] w fun e w' => e = .returned (.agg (u64s (timesU x y)).toArray) ∧ Below w.heap.size w w' := by
  go_enter Tryd.func73, Tryd.ntmps73
  go_wp2_with fail
  generalize hW : (((w.alloc _).alloc _).alloc _).alloc _ = W
  have hX : Arr W w.heap.size 120 (u64s x) := by rw [← hW]; exact (((Arr.newAt rfl rfl).alloc _).alloc _).alloc _
  have hY : Arr W (w.heap.size + 1) 120 (u64s y) := by rw [← hW]; exact ((Arr.newAt (asz _ _) rfl).alloc _).alloc _
  have hR : Arr W (w.heap.size + 1 + 1) 120 (u64s (List.replicate 5 0)) := by rw [← hW]; exact (Arr.newAt (by simp only [asz]) (by kernel_rfl)).alloc _
  have hO : Arr W (w.heap.size + 1 + 1 + 1) 120 (u64s (tOut x y 0)) := by rw [← hW]; exact Arr.newAt (by simp only [asz]) (by kernel_rfl)
  have hB : Below w.heap.size w W := by rw [← hW]; exact ((((Below.refl _ _).alloc (by omega) _).alloc (by simp only [asz]; omega) _).alloc (by simp only [asz]; omega) _).alloc (by simp only [asz]; omega) _
  clear hW
  go_loopw [9] (fun i wr => ∃ r : Nat, r ≤ 5 ∧ i = .int .i64 r ∧ Arr wr w.heap.size 120 (u64s x) ∧ Arr wr (w.heap.size + 1) 120 (u64s y) ∧ Arr wr (w.heap.size + 1 + 1) 120 (u64s (List.replicate 5 0)) ∧ Arr wr (w.heap.size + 1 + 1 + 1) 120 (u64s (tOut x y r)) ∧ Below w.heap.size w wr) (fun i _ => 5 - (intOf i).toNat)
  case atStart => exact ⟨0, by omega, rfl, hX, hY, hR, hO, hB⟩
  case round =>
    obtain ⟨i, hi, rfl, hX, hY, hR, hO, hB⟩ := hrel
    by_cases hlt : i < 5
    · obtain ⟨O, hOe⟩ : ∃ O, O = tOut x y i := ⟨_, rfl⟩
      have hlO : O.length = 5 := by rw [hOe]; simp
      have HT : Hid (tOut x y (i + 1) = tIn x y i O 5) := by show _ = _; rw [hOe]; rfl
      rw [← hOe] at hO
      clear hOe
      go_wp2_with fail
      generalize wr = W1 at hX hY hR hO hB ⊢
      go_simp
      go_loopw [12] (fun k wr => ∃ r : Nat, r ≤ 5 ∧ k = .int .i64 r ∧ Arr wr w.heap.size 120 (u64s x) ∧ Arr wr (w.heap.size + 1) 120 (u64s y) ∧ Arr wr (w.heap.size + 1 + 1) 120 (u64s (List.replicate 5 0)) ∧ Arr wr (w.heap.size + 1 + 1 + 1) 120 (u64s (tIn x y i O r)) ∧ Below w.heap.size w wr) (fun i _ => 5 - (intOf i).toNat)
      case atStart => exact ⟨0, by omega, rfl, hX, hY, hR, hO, hB⟩
      case round =>
        obtain ⟨k, hk, rfl, hX, hY, hR, hO, hB⟩ := hrel
        by_cases hlt2 : k < 5
        · obtain ⟨a, ha⟩ : ∃ a, a = x.getD i 0 := ⟨_, rfl⟩
          obtain ⟨b, hb⟩ : ∃ b, b = y.getD k 0 := ⟨_, rfl⟩
          have hca : some (Value.int .u64 ((x.getD i 0 : Nat) : Int)) = some (Value.int .u64 (a : Int)) := by rw [ha]
          have hcb : some (Value.int .u64 ((y.getD k 0 : Nat) : Int)) = some (Value.int .u64 (b : Int)) := by rw [hb]
          have HA := Lib.hid ha
          have HB := Lib.hid hb
          clear ha hb
          go_wp2_with fail
          refine wp_region_ssaL (by kernel_rfl) [IsV (.int .i64 (i : Nat)), IsV (.pointer (some ⟨w.heap.size, i, none⟩)), IsV (.int .u64 ((a : Nat) : Int)), IsV (.int .i64 (k : Nat)), IsV (.pointer (some ⟨w.heap.size + 1, k, none⟩)), IsV (.int .u64 ((b : Nat) : Int)), IsV (.int .u64 ((a * b % 18446744073709551616 : Nat) : Int)), IsV (.int .u64 ((a * b % 18446744073709551616 : Nat) : Int))] (by kernel_rfl) ?_ ?_ ?_
          · intro φ hφ v w1 w2 h hg
            simp only [List.mem_cons, List.not_mem_nil, or_false] at hφ
            rcases hφ with rfl | rfl | rfl | rfl | rfl | rfl | rfl | rfl
            all_goals first | exact h | exact RdV.gr h hg
          · refine ⟨?_, ?_, ?_, ?_, ?_, ?_, ?_, ?_, trivial⟩
            · intro a1 w1 hG hF
              exact s_old rfl (wants0 rfl) (.tmp 6) (.inr rfl) (.int .i64 (i : Nat)) (hF.ol 6 (by kernel_rfl)) rfl
            · intro a1 w1 hG hF
              have e2 : a1.eval (.tmp 2) = .pointer (some ⟨w.heap.size, 0, none⟩) := hF.ol 2 (by kernel_rfl)
              obtain ⟨_, e15, rfl⟩ := hF.dp 0 15 (by kernel_rfl)
              exact s_is rfl (wants0 rfl) _ rfl (run_idx Tryd.underlying120 (by kernel_rfl) e2 e15 (by omega))
            · intro a1 w1 hG hF
              obtain ⟨_, e16, rfl⟩ := hF.dp 1 16 (by kernel_rfl)
              exact s_is rfl (wants0 rfl) _ rfl (run_load1 Tryd.underlying39 e16 (((hX.gr ((Gr.drew wr).trans hG)).u64 (by omega)).trans hca))
            · intro a1 w1 hG hF
              exact s_old rfl (wants0 rfl) (.tmp 7) (.inr rfl) (.int .i64 (k : Nat)) (hF.ol 7 (by kernel_rfl)) rfl
            · intro a1 w1 hG hF
              have e3 : a1.eval (.tmp 3) = .pointer (some ⟨w.heap.size + 1, 0, none⟩) := hF.ol 3 (by kernel_rfl)
              obtain ⟨_, e18, rfl⟩ := hF.dp 3 18 (by kernel_rfl)
              exact s_is rfl (wants0 rfl) _ rfl (run_idx Tryd.underlying120 (by kernel_rfl) e3 e18 (by omega))
            · intro a1 w1 hG hF
              obtain ⟨_, e19, rfl⟩ := hF.dp 4 19 (by kernel_rfl)
              exact s_is rfl (wants0 rfl) _ rfl (run_load1 Tryd.underlying39 e19 (((hY.gr ((Gr.drew wr).trans hG)).u64 (by omega)).trans hcb))
            · intro a1 w1 hG hF
              obtain ⟨_, e17, rfl⟩ := hF.dp 2 17 (by kernel_rfl)
              obtain ⟨_, e20, rfl⟩ := hF.dp 5 20 (by kernel_rfl)
              exact s_is rfl (wants0 rfl) _ rfl (run_mul64 e17 e20)
            · intro a1 w1 hG hF
              exact s_same rfl (wants0 rfl) (.tmp 21) (.inl rfl) (hF.dp 6 21 (by kernel_rfl))
          · intro vs w1 hG hf
            have z8 : vs 7 = .int .u64 ((a * b % 18446744073709551616 : Nat) : Int) := hf.2.2.2.2.2.2.2.1
            clear hf
            simp only [putAll, Nat.zero_add, Nat.reduceAdd, z8]
            have hG0 := (Gr.drew wr).trans hG
            clear hG
            replace hX := hX.gr hG0
            replace hY := hY.gr hG0
            replace hR := hR.gr hG0
            replace hO := hO.gr hG0
            replace hB := hB.trans (hG0.mono hB.size)
            clear hG0 z8
            generalize w1 = W2 at hX hY hR hO hB ⊢
            obtain ⟨v, hv⟩ : ∃ v, v = a * b % 18446744073709551616 := ⟨_, rfl⟩
            obtain ⟨v5, hv5⟩ : ∃ v5, v5 = v * 5 % 18446744073709551616 := ⟨_, rfl⟩
            rw [← hv]
            have HV := Lib.hid hv
            have HV5 := Lib.hid hv5
            clear hv hv5 hca hcb
            obtain ⟨j, hj⟩ : ∃ j, j = (i + k) % 5 := ⟨_, rfl⟩
            obtain ⟨z, hz⟩ : ∃ z, z = tIn x y i O k := ⟨_, rfl⟩
            obtain ⟨t, ht⟩ : ∃ t, t = z.getD j 0 := ⟨_, rfl⟩
            have hlz : z.length = 5 := by rw [hz]; simp [hlO]
            have hj5 : j < 5 := by rw [hj]; exact Nat.mod_lt _ (by omega)
            have ej : ((i : Int) + (k : Int)) % 5 = (j : Int) := by omega
            rw [← hz] at hO
            have c1 := hO.u64 (a := j) (by omega)
            rw [← ht] at c1
            have f1 := hO.frozen j
            have HJ := Lib.hid hj
            have HZ := Lib.hid hz
            have HTT := Lib.hid ht
            clear hj hz ht
            go_simp
            by_cases h5 : 5 ≤ i + k
            · have hp : tP x y i k = v5 := by show (if i + k ≥ 5 then _ else _) = _; rw [if_pos (by omega), HV5.out, HV.out, HA.out, HB.out]
              have e5 : IntKind.u64.wrap ((v : Int) * 5) = (v5 : Int) := by rw [HV5.out]; exact wrap_mulK v 5 5 rfl
              have h5 : (5 : Int) ≤ (i : Int) + (k : Int) := by omega
              have e1 := wrap_add64 t v5
              obtain ⟨u, hu⟩ : ∃ u, u = (t + v5) % 18446744073709551616 := ⟨_, rfl⟩
              rw [← hu] at e1
              have HC : Hid (tIn x y i O (k + 1) = z.set j u) := by show _ = _; rw [hu, ← hp, HTT.out, HJ.out, HZ.out]; rfl
              clear hp hu
              go_wp2_with fail
              have hO' := hO.set j (.int .u64 (u : Int))
              rw [u64s_set, ← HC.out] at hO'
              refine ⟨⟨k + 1, by omega, by go_num, hX.other (by simp only []; omega) _, hY.other (by simp only []; omega) _, hR.other (by simp only []; omega) _, hO', hB.trans (below_setCell (a := ⟨w.heap.size + 1 + 1 + 1, j, none⟩) (by simp only []; omega))⟩, by simp [intOf]; omega⟩
            · have hp : tP x y i k = v := by show (if i + k ≥ 5 then _ else _) = _; rw [if_neg (by omega), HV.out, HA.out, HB.out]
              have h5 : ¬ (5 : Int) ≤ (i : Int) + (k : Int) := by omega
              have e1 := wrap_add64 t v
              obtain ⟨u, hu⟩ : ∃ u, u = (t + v) % 18446744073709551616 := ⟨_, rfl⟩
              rw [← hu] at e1
              have HC : Hid (tIn x y i O (k + 1) = z.set j u) := by show _ = _; rw [hu, ← hp, HTT.out, HJ.out, HZ.out]; rfl
              clear hp hu
              go_wp2_with fail
              have hO' := hO.set j (.int .u64 (u : Int))
              rw [u64s_set, ← HC.out] at hO'
              refine ⟨⟨k + 1, by omega, by go_num, hX.other (by simp only []; omega) _, hY.other (by simp only []; omega) _, hR.other (by simp only []; omega) _, hO', hB.trans (below_setCell (a := ⟨w.heap.size + 1 + 1 + 1, j, none⟩) (by simp only []; omega))⟩, by simp [intOf]; omega⟩
        · obtain rfl : k = 5 := by omega
          rw [← HT.out] at hO
          simp only [show ((5 : Nat) : Int) = 5 from rfl]
          go_wp2_with fail
          go_roundw
          case rel => exact ⟨i + 1, by omega, by go_num, hX, hY, hR, hO, hB⟩
          case measure => simp [intOf]; omega
    · obtain rfl : i = 5 := by omega
      have hlt := tOut_lt x y 5
      have hlo : (tOut x y 5).length = 5 := by simp
      obtain ⟨O, hOe⟩ : ∃ O, O = tOut x y 5 := ⟨_, rfl⟩
      have HE : Hid (timesU x y = carryU O) := by show _ = _; rw [hOe]; rfl
      rw [← hOe] at hO hlt hlo
      clear hOe
      obtain ⟨q, hq⟩ : ∃ q, q = carryU O := ⟨_, rfl⟩
      have hlq : q.length = 5 := by rw [hq]; simp [hlo]
      have hcar := fun w => carry_any O hlo hlt w
      rw [← hq] at hcar HE
      clear hq
      simp only [show ((5 : Nat) : Int) = 5 from rfl]
      go_wp2_with first
        | (refine wpList_load_mid rfl 120 (.tmp 5) rfl (w.heap.size + 1 + 1 + 1) 0 rfl (u64s O) _ hO.range Tryd.underlying120 rfl (info38 _ hlo) ?_)
        | (go_at_call 90; refine (hcar _).mono ?_; rintro e w4 ⟨rfl, hB4⟩; replace hR := hR.gr hB4; replace hB := hB.trans (hB4.mono hB.size))
        | (refine wpList_put hR rfl 120 (.tmp 4) (.tmp 40) rfl (u64s q) rfl rfl (by simp [hlq]) (info38 _ hlq) (u64s_oneCell _) ?_; intro w5 hR5 hB5 hO5)
      refine bodyPost_ret (results_cell_row rfl _ _ (w.heap.size + 1 + 1) _ _ _ _ rfl hR5 Tryd.underlying120 rfl (by have := info38 _ hlq; simpa using this)) rfl ?_
      rw [HE.out]
      exact ⟨rfl, hB.trans (hB5.mono (by omega))⟩
end Go.Proofs.YtnmhfomnlnlflaaDoor
/- The walks of the poly layer's numbers: least, part. No condition. -/
namespace Go.Proofs.YtnmhfomnlnlflaaDoor
open Go.RowKit
theorem carryU_lt {x : List Nat} (h : Lt64 x) : Lt64 (carryU x) := (cAt_lt (cAt_lt h _ _) _ _).set 0 (Nat.mod_lt _ (show 18446744073709551616 > 0 by omega))
theorem lAt_lt {x : List Nat} (h : Lt64 x) (k : Nat) : Lt64 (lAt x k) := by
  induction k with
  | zero => exact h
  | succ k ih =>
    refine (ih.set _ (Nat.mod_lt _ (show 18446744073709551616 > 0 by omega))).set _ ?_
    have := ih k
    omega
theorem lit5 : (u64s [5, 0, 0, 0, 0]).toArray = #[.int .u64 5, .int .u64 0, .int .u64 0, .int .u64 0, .int .u64 0] := by kernel_rfl
set_option maxRecDepth 100000 in
set_option maxHeartbeats 4000000 in
theorem least_any (x : List Nat) (hx : x.length = 5) (hl : Lt64 x) (w : World) :
    Calls Tryd.prog 74 #[.agg (u64s x).toArray] w fun e w' => e = .returned (.agg (u64s (leastU x)).toArray) ∧ Below w.heap.size w w' := by
  have hc1 := fun w => carry_any x hx hl w
  have hc2 := fun w => carry_any (carryU x) (by simp [hx]) (carryU_lt hl) w
  obtain ⟨c1, hc1e⟩ : ∃ c, c = carryU x := ⟨_, rfl⟩
  obtain ⟨z, hz⟩ : ∃ z, z = carryU (carryU x) := ⟨_, rfl⟩
  have hp := fun w => plus_any (carryU (carryU x)) [5, 0, 0, 0, 0] (by simp [hx]) rfl w
  obtain ⟨y, hy⟩ : ∃ y, y = plusU z [5, 0, 0, 0, 0] := ⟨_, rfl⟩
  have hLy : Lt64 y := by rw [hy, hz]; exact pAt_lt (carryU_lt (carryU_lt hl)) 5
  have hlz : z.length = 5 := by rw [hz]; simp [hx]
  have hly : y.length = 5 := by rw [hy]; simp [plusU, hlz]
  have HE : Hid (leastU x = if (lAt y 4).getD 4 0 / 67108864 = 0 then z else (lAt y 4).set 4 ((lAt y 4).getD 4 0 % 67108864)) := by show _ = _; rw [hy, hz]; rfl
  rw [← hz, ← hy, lit5] at hp
  rw [← hz, ← hc1e] at hc2
  rw [← hc1e] at hc1
  have hlc : c1.length = 5 := by rw [hc1e]; simp [hx]
  clear hc1e hz hy hl
  go_enter Tryd.func74, Tryd.ntmps74
  go_wp2_with first
    | (refine wpList_load_mid rfl 120 (.tmp 1) rfl w.heap.size 0 rfl (u64s z) _ hZ.range Tryd.underlying120 rfl (info38 _ hlz) ?_)
    | (refine wpList_load_mid rfl 120 (.tmp 1) rfl w.heap.size 0 rfl (u64s x) _ ((Arr.newAt rfl rfl).alloc _).range Tryd.underlying120 rfl (info38 _ hx) ?_)
    | (go_at_call_of 90 (Value.agg (u64s x).toArray); refine (hc1 _).mono ?_; rintro e w1 ⟨rfl, hB1⟩; have h1 := Arr.below ((Arr.newAt rfl rfl).alloc _) hB1 (by simp only [asz]; omega); have hR := Arr.below (Arr.newAt (l := u64s (List.replicate 5 0)) (asz _ _) (by kernel_rfl)) hB1 (by simp only [asz]; omega); have hB := (((Below.refl w.heap.size w).alloc (by omega) _).alloc (by simp only [asz]; omega) _).trans (hB1.mono (by simp only [asz]; omega)); clear hB1)
    | (go_at_call_of 90 (Value.agg (u64s c1).toArray); refine (hc2 _).mono ?_; rintro e w2 ⟨rfl, hB2⟩; replace h1 := h1.gr hB2; replace hR := hR.gr hB2; replace hB := hB.trans (hB2.mono hB.size); clear hB2)
    | (refine wpList_put h1 rfl 120 (.tmp 1) (.tmp 7) rfl (u64s z) rfl rfl (by simp [hlz, hx]) (info38 _ hlz) (u64s_oneCell _) ?_; intro w3 hZ hB3 hO3; replace hR := hO3 _ _ _ (by omega) hR; replace hB := hB.trans hB3; clear hB3 hO3 h1)
    | (go_at_call 71; refine (hp _).mono ?_; rintro e w4 ⟨rfl, hB4⟩; replace hZ := hZ.gr hB4; replace hR := hR.gr hB4; replace hB := hB.trans (hB4.mono hB.size); clear hB4)
    | (refine wpList_new rfl 120 (.tmp 3) (.tmp 10) rfl _ (u64s y) rfl rfl rfl (by simp only [u64s_length, hly]; rfl) (info38 _ hly) (u64s_oneCell y) ?_; intro w5 hY hG5; have l2 := hR.lt; replace hZ := hZ.gr hG5; replace hR := hR.gr hG5; replace hB := hB.trans (hG5.mono hB.size); clear hG5)
  clear hc1 hc2 hp
  generalize w4.heap.size = g3 at hY l2 ⊢
  generalize w5 = W at hZ hR hY hB ⊢
  go_loopw [11] (fun i wr => ∃ r : Nat, r ≤ 4 ∧ i = .int .i64 r ∧ Arr wr w.heap.size 120 (u64s z) ∧ Arr wr (w.heap.size + 1) 120 (u64s (List.replicate 5 0)) ∧ Arr wr g3 120 (u64s (lAt y r)) ∧ Below w.heap.size w wr) (fun i _ => 4 - (intOf i).toNat)
  case atStart => exact ⟨0, by omega, rfl, hZ, hR, hY, hB⟩
  case round =>
    obtain ⟨k, hk, rfl, hZ, hR, hY, hB⟩ := hrel
    by_cases hlt : k < 4
    · obtain ⟨v, hv⟩ : ∃ v, v = lAt y k := ⟨_, rfl⟩
      have hlv : v.length = 5 := by rw [hv]; simp [hly]
      have hLv : Lt64 v := by rw [hv]; exact lAt_lt hLy k
      obtain ⟨a, ha⟩ : ∃ a, a = v.getD (k + 1) 0 := ⟨_, rfl⟩
      obtain ⟨b, hb⟩ : ∃ b, b = v.getD k 0 := ⟨_, rfl⟩
      have hbl : b < 18446744073709551616 := by rw [hb]; exact hLv k
      obtain ⟨u, hu⟩ : ∃ u, u = (a + b / 67108864) % 18446744073709551616 := ⟨_, rfl⟩
      have HC : Hid (lAt y (k + 1) = (v.set (k + 1) u).set k (b % 67108864)) := by show _ = _; rw [hu, ha, hb, hv]; rfl
      rw [← hv] at hY
      have c1 := hY.u64 (a := k + 1) (by omega)
      have c2 := hY.u64 (a := k) (by omega)
      rw [← ha] at c1
      rw [← hb] at c2
      have HA := Lib.hid ha
      have HBB := Lib.hid hb
      clear ha hb hv
      go_wp2_with fail
      refine wp_region_st (by kernel_rfl) [IsV (.int .i64 (k : Nat)), IsV (.int .i64 ((k + 1) : Nat)), IsV (.pointer (some ⟨g3, (k + 1), none⟩)), IsV (.int .u64 ((a : Nat) : Int)), IsV (.int .i64 (k : Nat)), IsV (.pointer (some ⟨g3, k, none⟩)), IsV (.int .u64 ((b : Nat) : Int)), IsV (.int .u64 (((b / 67108864) : Nat) : Int)), IsV (.int .u64 ((((a + (b / 67108864)) % 18446744073709551616) : Nat) : Int)), IsV (.pointer (some ⟨g3, (k + 1), none⟩))] 10 _ rfl rfl rfl (by kernel_rfl) (by kernel_rfl) ?_ (⟨g3, (k + 1), none⟩ : Addr) (.int .u64 ((((a + (b / 67108864)) % 18446744073709551616) : Nat) : Int)) ?_ ?_ ?_
      · intro φ hφ
        simp only [List.mem_cons, List.not_mem_nil, or_false] at hφ
        rcases hφ with rfl | rfl | rfl | rfl | rfl | rfl | rfl | rfl | rfl | rfl <;> exact ⟨_, rfl⟩
      · refine ⟨?_, ?_, ?_, ?_, ?_, ?_, ?_, ?_, ?_, ?_, trivial⟩
        · intro a1 w1 hG hF
          exact d_old rfl (wants0 rfl) (.tmp 4) (.inr rfl) (.int .i64 (k : Nat)) (hF.ol 4 (by kernel_rfl)) rfl
        · intro a1 w1 hG hF
          obtain ⟨_, e14, rfl⟩ := hF.dp 0 14 (by kernel_rfl)
          exact d_is rfl (wants0 rfl) _ rfl (run_inc (by omega) e14 rfl)
        · intro a1 w1 hG hF
          have e3 : a1.eval (.tmp 3) = .pointer (some ⟨g3, 0, none⟩) := hF.ol 3 (by kernel_rfl)
          obtain ⟨_, e15, rfl⟩ := hF.dp 1 15 (by kernel_rfl)
          exact d_is rfl (wants0 rfl) _ rfl (run_idx Tryd.underlying120 (by kernel_rfl) e3 e15 (by omega))
        · intro a1 w1 hG hF
          obtain ⟨_, e16, rfl⟩ := hF.dp 2 16 (by kernel_rfl)
          exact d_is rfl (wants0 rfl) _ rfl (run_load1 Tryd.underlying39 e16 ((hG.cell _).trans c1))
        · intro a1 w1 hG hF
          exact d_old rfl (wants0 rfl) (.tmp 4) (.inr rfl) (.int .i64 (k : Nat)) (hF.ol 4 (by kernel_rfl)) rfl
        · intro a1 w1 hG hF
          have e3 : a1.eval (.tmp 3) = .pointer (some ⟨g3, 0, none⟩) := hF.ol 3 (by kernel_rfl)
          obtain ⟨_, e18, rfl⟩ := hF.dp 4 18 (by kernel_rfl)
          exact d_is rfl (wants0 rfl) _ rfl (run_idx Tryd.underlying120 (by kernel_rfl) e3 e18 (by omega))
        · intro a1 w1 hG hF
          obtain ⟨_, e19, rfl⟩ := hF.dp 5 19 (by kernel_rfl)
          exact d_is rfl (wants0 rfl) _ rfl (run_load1 Tryd.underlying39 e19 ((hG.cell _).trans c2))
        · intro a1 w1 hG hF
          obtain ⟨_, e20, rfl⟩ := hF.dp 6 20 (by kernel_rfl)
          exact d_is rfl (wants0 rfl) _ rfl (run_shr26 e20 rfl)
        · intro a1 w1 hG hF
          obtain ⟨_, e17, rfl⟩ := hF.dp 3 17 (by kernel_rfl)
          obtain ⟨_, e21, rfl⟩ := hF.dp 7 21 (by kernel_rfl)
          exact d_is rfl (wants0 rfl) _ rfl (run_add64 e17 e21)
        · intro a1 w1 hG hF
          have e3 : a1.eval (.tmp 3) = .pointer (some ⟨g3, 0, none⟩) := hF.ol 3 (by kernel_rfl)
          obtain ⟨_, e15, rfl⟩ := hF.dp 1 15 (by kernel_rfl)
          exact d_is rfl (wants0 rfl) _ rfl (run_idx Tryd.underlying120 (by kernel_rfl) e3 e15 (by omega))
      · intro a1 w1 hG hF
        obtain ⟨_, e23, rfl⟩ := hF.dp 9 23 (by kernel_rfl)
        obtain ⟨_, e22, rfl⟩ := hF.dp 8 22 (by kernel_rfl)
        exact ⟨wants0 rfl, run_store1 (by kernel_rfl) e23 e22 (by rw [hG.cell]; exact (Option.isSome_iff_exists.2 ⟨_, c1⟩)) (by rw [hG.frozen]; exact hY.frozen _)⟩
      intro vs k0 hf
      clear hf
      simp only [putAll, Nat.zero_add, Nat.reduceAdd]
      rw [← hu]
      have hY' := (hY.dr ⟨k0, rfl⟩).set (k + 1) (.int .u64 (u : Int))
      rw [u64s_set] at hY'
      have hZ' := (hZ.dr ⟨k0, rfl⟩).other (a := ⟨g3, k + 1, none⟩) (by simp only []; omega) (.int .u64 (u : Int))
      have hR' := (hR.dr ⟨k0, rfl⟩).other (a := ⟨g3, k + 1, none⟩) (by simp only []; omega) (.int .u64 (u : Int))
      have hB' := hB.trans ((below_dr ⟨k0, rfl⟩).trans (below_setCell (a := ⟨g3, k + 1, none⟩) (v := .int .u64 (u : Int)) (by simp only []; omega)))
      generalize ((wr.drewN k0).setCell _ _) = W1 at hY' hZ' hR' hB' ⊢
      have c3 := hY'.u64 (a := k) (by rw [List.length_set]; omega)
      have e3 : (v.set (k + 1) u).getD k 0 = b := by
        rw [HBB.out, List.getD_eq_getElem?_getD, List.getD_eq_getElem?_getD, List.getElem?_set_ne (by omega)]
      rw [e3] at c3
      have f3 := hY'.frozen k
      have e4 := and26 b hbl
      obtain ⟨q, hq⟩ : ∃ q, q = b % 67108864 := ⟨_, rfl⟩
      rw [← hq] at e4
      have HQ := Lib.hid hq
      clear hY hZ hR hB c1 c2 hu hq e3
      go_simp
      go_wp2_with fail
      go_roundw
      case rel =>
        have h1 := hY'.set k (.int .u64 (q : Int))
        rw [u64s_set, HQ.out, ← HC.out] at h1
        rw [HQ.out]
        rw [HQ.out] at *
        exact ⟨k + 1, by omega, by go_num, hZ'.other (by simp only []; omega) _, hR'.other (by simp only []; omega) _, h1, hB'.trans (below_setCell (by simp only []; omega))⟩
      case measure => simp [intOf]; omega
    · obtain rfl : k = 4 := by omega
      obtain ⟨v, hv⟩ : ∃ v, v = lAt y 4 := ⟨_, rfl⟩
      have hlv : v.length = 5 := by rw [hv]; simp [hly]
      have hLv : Lt64 v := by rw [hv]; exact lAt_lt hLy 4
      obtain ⟨t, ht⟩ : ∃ t, t = v.getD 4 0 := ⟨_, rfl⟩
      have htl : t < 18446744073709551616 := by rw [ht]; exact hLv 4
      rw [← hv] at hY HE
      rw [← ht] at HE
      have c4 := hY.u64 (a := 4) (by omega)
      rw [← ht] at c4
      have f4 := hY.frozen 4
      have e4 := and26 t htl
      obtain ⟨q, hq⟩ : ∃ q, q = t % 67108864 := ⟨_, rfl⟩
      rw [← hq] at e4 HE
      have hlq : (v.set 4 q).length = 5 := by rw [List.length_set, hlv]
      have hYn := hY.set 4 (.int .u64 (q : Int))
      rw [u64s_set] at hYn
      have hRn := hR.other (a := ⟨g3, 4, none⟩) (by simp only []; omega) (.int .u64 (q : Int))
      have hBn := hB.trans (below_setCell (w := wr) (a := ⟨g3, 4, none⟩) (v := .int .u64 (q : Int)) (by simp only []; omega))
      clear hv ht hq
      simp only [show ((4 : Nat) : Int) = 4 from rfl]
      by_cases h0 : t / 67108864 = 0
      · have h0' : (t : Int) / 67108864 = 0 := by omega
        go_wp2_with first
          | (refine wpList_load_mid rfl 120 (.tmp 1) rfl w.heap.size 0 rfl (u64s z) _ hZ.range Tryd.underlying120 rfl (info38 _ hlz) ?_)
          | (refine wpList_put hR rfl 120 (.tmp 2) (.tmp 34) rfl (u64s z) rfl rfl (by simp [hlz]) (info38 _ hlz) (u64s_oneCell _) ?_; intro w8 hR8 hB8 hO8)
        refine bodyPost_ret (results_cell_row rfl _ _ (w.heap.size + 1) _ _ _ _ rfl hR8 Tryd.underlying120 rfl (by have := info38 _ hlz; simpa using this)) rfl ?_
        rw [HE.out, if_pos h0]
        exact ⟨rfl, hB.trans (hB8.mono (by omega))⟩
      · have h0' : ¬ (t : Int) / 67108864 = 0 := by omega
        go_wp2_with first
          | (refine wpList_load_mid rfl 120 (.tmp 3) rfl g3 0 rfl (u64s (v.set 4 q)) _ hYn.range Tryd.underlying120 rfl (info38 _ hlq) ?_)
          | (refine wpList_put hRn rfl 120 (.tmp 2) (.tmp 39) rfl (u64s (v.set 4 q)) rfl rfl (by simp [hlv]) (info38 _ hlq) (u64s_oneCell _) ?_; intro w8 hR8 hB8 hO8)
        refine bodyPost_ret (results_cell_row rfl _ _ (w.heap.size + 1) _ _ _ _ rfl hR8 Tryd.underlying120 rfl (by have := info38 _ hlq; simpa using this)) rfl ?_
        rw [HE.out, if_neg h0]
        exact ⟨rfl, hBn.trans (hB8.mono (by omega))⟩
end Go.Proofs.YtnmhfomnlnlflaaDoor
/- The walk of part. No condition. -/
namespace Go.Proofs.YtnmhfomnlnlflaaDoor
open Go.RowKit
theorem run_cutA_h {P : Program} {T e : TypeId} {n : Nat} (hT : P.underlying T = some (.array n e)) (hsz : (P.info? e).map (·.size) = some 1) (g hi : Nat) (h2 : hi ≤ n) (h : Int) (hh : h = hi) (w : World) :
    (Instr.sliceAt T (.pointer (some ⟨g, 0, none⟩)) none (some (.int .i64 h)) none).run P w = .ok (.slice (some ⟨g, 0, none⟩) hi n) w := by
  subst hh
  obtain ⟨e1, e2⟩ := arrayLen_of hT
  rw [run_sliceAt_array_h w T _ (by rw [e1, e2]; exact hT) _ _ (by omega) (by rw [e1]; omega), e1, e2]
  simp only [run_size1 hsz, Result.andThen_ok, slicedAt, Int.toNat_natCast, Nat.sub_zero, Nat.zero_mul, add_zero_, ite_self]
theorem run_cutA_l {P : Program} {T e : TypeId} {n : Nat} (hT : P.underlying T = some (.array n e)) (hsz : (P.info? e).map (·.size) = some 1) (g lo : Nat) (h2 : lo < n) (h : Int) (hh : h = lo) (w : World) :
    (Instr.sliceAt T (.pointer (some ⟨g, 0, none⟩)) (some (.int .i64 h)) none none).run P w = .ok (.slice (some ⟨g, lo, none⟩) (n - lo) (n - lo)) w := by
  subst hh
  obtain ⟨e1, e2⟩ := arrayLen_of hT
  rw [run_sliceAt_array_l w T _ (by rw [e1, e2]; exact hT) _ _ (by omega) (by rw [e1]; omega), e1, e2]
  simp only [run_size1 hsz, Result.andThen_ok, slicedAt, Int.toNat_natCast, Nat.mul_one]
  rw [if_neg (by omega), add_row, Nat.zero_add]
theorem wide_set (b : List UInt8) (h : b.length ≤ 16) : ((u8s (List.replicate 17 0)).take 0 ++ u8s b ++ (u8s (List.replicate 17 0)).drop (0 + b.length)).set b.length (.int .u8 1) = u8s (wideL b) := by
  have e1 : (u8s (List.replicate 17 0)).drop (0 + b.length) = u8s (0 :: List.replicate (16 - b.length) 0) := by
    rw [u8s_drop, List.drop_replicate, ← List.replicate_succ]
    congr 2; omega
  rw [e1, List.take_zero, List.nil_append, List.set_append_right _ _ (by simp), u8s_length, Nat.sub_self, wideL, u8s_append]
  rfl
theorem Arr.u8 {w : World} {g : Nat} {t : TypeId} {s : List UInt8} (h : Arr w g t (u8s s)) {a : Nat} (ha : a < s.length) : w.cell? ⟨g, a, none⟩ = some (.int .u8 ((s.getD a 0).toNat : Int)) := by
  refine h.cell ?_
  simp [u8s, List.getD_eq_getElem?_getD, ha]
set_option maxRecDepth 100000 in
set_option maxHeartbeats 4000000 in
theorem part_any (A : Option Addr) (n c : Nat) (b : List UInt8) (hn : n ≤ 16) (w : World) (hr : Rd w A n (u8s b)) :
    Calls Tryd.prog 72 #[.slice A n c] w fun e w' => e = .returned (.agg (u64s (partU b)).toArray) ∧ Below w.heap.size w w' := by
  have hl : b.length = n := by simpa using hr.1
  have hlw := wideL_length (b := b) (by omega)
  obtain ⟨v, hv⟩ : ∃ v, v = wideL b := ⟨_, rfl⟩
  rw [← hv] at hlw
  obtain ⟨lo, hlo⟩ : ∃ x, x = v.take 8 := ⟨_, rfl⟩
  obtain ⟨hi, hhi⟩ : ∃ x, x = (v.drop 8).take 8 := ⟨_, rfl⟩
  obtain ⟨ab, hab⟩ : ∃ x, x = (v.getD 16 0).toNat := ⟨_, rfl⟩
  have hlol : leNat lo < 18446744073709551616 := by have := leNat_lt (v.take 8); rw [List.length_take, hlw] at this; rw [hlo]; exact this
  have hhil : leNat hi < 18446744073709551616 := by have := leNat_lt ((v.drop 8).take 8); rw [List.length_take, List.length_drop, hlw] at this; rw [hhi]; exact this
  have habl : ab < 256 := by rw [hab]; exact (v.getD 16 0).toNat_lt
  have HP : Hid (partU b = loadU (leNat lo) (leNat hi) ab) := by show _ = _; rw [hlo, hhi, hab, hv]; rfl
  have hlu : (loadU (leNat lo) (leNat hi) ab).length = 5 := rfl
  have hload := fun w => load_any (leNat lo) (leNat hi) ab hlol hhil w
  obtain ⟨q, hq⟩ : ∃ q, q = loadU (leNat lo) (leNat hi) ab := ⟨_, rfl⟩
  rw [← hq] at hlu hload HP
  have ws := wide_set b (by omega)
  rw [← hv, hl] at ws
  have HLO := Lib.hid hlo
  have HHI := Lib.hid hhi
  have HAB := Lib.hid hab
  have WS := Lib.hid ws
  have hn17 : ((n : Int) < 17) := by omega
  have e256 : (ab : Int) % 18446744073709551616 = ab := by omega
  clear hv hlo hhi hab hq ws
  go_enter Tryd.func72, Tryd.ntmps72
  have hcut0 := fun w1 => run_cutAll (P := Tryd.prog) Tryd.underlying142 (by kernel_rfl) (w.heap.size + 1) w1
  have hcut1 := fun w1 => run_cutA_h (P := Tryd.prog) Tryd.underlying142 (by kernel_rfl) (w.heap.size + 1) 8 (by omega) 8 rfl w1
  have hcut2 := fun w1 => run_cutA (P := Tryd.prog) Tryd.underlying142 (by kernel_rfl) (w.heap.size + 1) 8 16 (by omega) (by omega) (by omega) 8 16 rfl rfl w1
  go_wp2_with first
    | (refine wpList_copyA (Arr.newAt (l := u8s (List.replicate 17 0)) (asz _ _) (by kernel_rfl)) rfl (.tmp 8) (.tmp 9) 27 27 rfl 5 Tryd.underlying27 (by kernel_rfl) 0 17 17 rfl A n c rfl (u8s b) ((hr.alloc _).alloc _) (u8s_oneCell _) (by omega) (by simp) ?_; intro w2 h3 hB2 hO2; have h2 := hO2 _ _ _ (by omega) ((Arr.newAt (w := w) (l := u64s (List.replicate 5 0)) rfl (by kernel_rfl)).alloc _); have hB := (((Below.refl w.heap.size w).alloc (by omega) _).alloc (by simp only [asz]; omega) _).trans (hB2.mono (by omega)); clear hB2 hO2; have c1 := h3.cell (i := n) (v := _) (List.getElem?_eq_getElem (by simp; omega)); have f1 := h3.frozen n; have h4 := h3.set n (.int .u8 1); rw [WS.out] at h4; have h2 := h2.other (a := ⟨w.heap.size + 1, n, none⟩) (by simp only []; omega) (.int .u8 1); have hB := hB.trans (below_setCell (w := w2) (a := ⟨w.heap.size + 1, n, none⟩) (v := .int .u8 1) (by simp only []; omega)); have r1 := h4.rd 0 8 (by simp; omega); have r2 := h4.rd 8 8 (by simp; omega); rw [List.drop_zero, u8s_take] at r1; rw [u8s_drop, u8s_take] at r2; rw [← HLO.out] at r1; rw [← HHI.out] at r2; have c16 := h4.u8 (a := 16) (by omega); rw [← HAB.out] at c16; clear h3)
    | (go_at_call 69; refine (low64_any _ _ _ _ (by first | exact r1 | exact r2)).mono ?_; rintro e w5 ⟨rfl, rfl⟩)
    | (go_at_call 70; refine (hload _).mono ?_; rintro e w6 ⟨rfl, hB6⟩; replace h2 := h2.gr hB6; replace hB := hB.trans (hB6.mono hB.size); clear hB6)
    | (refine wpList_put h2 rfl 120 (.tmp 2) (.tmp 29) rfl (u64s q) rfl rfl (by simp [hlu]) (info38 _ hlu) (u64s_oneCell _) ?_; intro w8 hR8 hB8 hO8)
  refine bodyPost_ret (results_cell_row rfl _ _ w.heap.size _ _ _ _ rfl hR8 Tryd.underlying120 rfl (by have := info38 _ hlu; simpa using this)) rfl ?_
  rw [HP.out]
  exact ⟨rfl, hB.trans (hB8.mono (by omega))⟩
end Go.Proofs.YtnmhfomnlnlflaaDoor
/- A region whose order is open: reads and calls, then a whole array into one that is there. No condition. -/
namespace Go.Proofs.YtnmhfomnlnlflaaDoor
open Go.RowKit
section
variable {P : Program} {ops : Array Oper} {Q : Exit → Act → World → Prop}
/-- **A REGION THAT DRAWS ITS ORDER: ITS LAST OPERATION, BEHIND ALL OTHERS, STORES.** -/
theorem wp_region_put {id : Nat} {a0 : Act} {w0 : World} (hm : P.follows .mixedOrders = true) (L : List (Value → World → Prop)) (z : Nat) (oz : Oper) (hz : ops.size = z + 1) (hoz : ops[z]? = some oz) (hzd : oz.dst = none) (hdom : domB ops z = true) (hB : ssaB ops a0.tmps.size = true)
    (hL : ∀ φ ∈ L, ∀ v w w', φ v w → Gr w w' → φ v w')
    (hstep : AllFrom (StepL P ops Q a0 w0.drew Gr L) 0 (ops.toList.take z)) (R : World → World → Prop)
    (hlast : ∀ a w, Gr w0.drew w → Finds ops (fun i => L.getD i AnyV) a0 z oz a w → wpOp P ops Q z (fun a' w' => ∃ v, a' = a.put oz.dst v ∧ R w w') a w)
    (hend : ∀ (vs : Nat → Value) w w', Gr w0.drew w → R w w' → Q .normal (putAll vs 0 (ops.toList.take z) a0) w') : (Code.region id ops true).wp P Q a0 w0 := by
  have hΦ : ∀ i v (w w' : World), (L.getD i AnyV) v w → Gr w w' → (L.getD i AnyV) v w' := by
    intro i v w w' h hg
    rcases Nat.lt_or_ge i L.length with hlt | hge
    · simp only [List.getD_eq_getElem?_getD, List.getElem?_eq_getElem hlt, Option.getD_some] at h ⊢
      exact hL _ (List.getElem_mem hlt) v w w' h hg
    · simp only [List.getD_eq_getElem?_getD, List.getElem?_eq_none hge, Option.getD_none] at h ⊢
      exact trivial
  refine wp_region_any hm (wpAny_ssaS a0 w0.drew (fun i => L.getD i AnyV) Gr z oz hz hoz hzd hdom (fun _ _ _ => Gr.trans) hΦ hB ?_ R hlast ?_ ops.size (Array.replicate ops.size false) a0 w0.drew (by simp) ?_ ?_ (Gr.refl _) ⟨rfl, rfl, ?_, fun _ _ => rfl, ?_⟩)
  · intro i o hi hiz a w hg hF
    have h1 := allFrom_get (ops.toList.take z) 0 hstep i o (by rw [List.getElem?_take]; simp [hiz, hi])
    simp only [Nat.zero_add] at h1
    exact h1 a w hg hF
  · intro a w w' hg hR hnew hdef hsize hold
    have hch : ∀ i, ∃ v, i < z → (∀ d, ((ops[i]?).bind (fun o : Oper => o.dst)) = some d → a.tmps[d]? = some v) := by
      intro i
      by_cases hi : i < z
      · obtain ⟨v, h1, h2⟩ := hnew i _ (Array.getElem?_eq_getElem (by omega : i < ops.size)) hi
        exact ⟨v, fun _ d hd => h1 d (by simpa [(by omega : i < ops.size)] using hd)⟩
      · exact ⟨undef, fun h => absurd h hi⟩
    have hvs := fun i => Classical.choose_spec (hch i)
    have hend' := hend (fun i => Classical.choose (hch i)) w w' hg hR
    have hlen : ∀ j (o : Oper), (ops.toList.take z)[j]? = some o → j < z ∧ ops[j]? = some o := by
      intro j o h
      rw [List.getElem?_take] at h
      split at h
      · exact ⟨by assumption, by simpa using h⟩
      · cases h
    have ha : putAll (fun i => Classical.choose (hch i)) 0 (ops.toList.take z) a0 = a := by
      have h1 := putAll_defers (fun i => Classical.choose (hch i)) (ops.toList.take z) 0 a0
      have h2 := putAll_size (fun i => Classical.choose (hch i)) (ops.toList.take z) 0 a0
      have h3 : (putAll (fun i => Classical.choose (hch i)) 0 (ops.toList.take z) a0).tmps = a.tmps := by
        apply Array.ext_getElem?
        intro t
        by_cases hex : ∃ (j : Nat) (o : Oper), (ops.toList.take z)[j]? = some o ∧ o.dst = some t
        · obtain ⟨j, o, hj0, hd⟩ := hex
          obtain ⟨hjz, hj⟩ := hlen j o hj0
          have hlt : j < ops.size := by omega
          have hb := List.all_eq_true.1 hB j (by simpa using hlt)
          rw [hj] at hb
          simp only [Bool.and_eq_true, hd, decide_eq_true_eq] at hb
          rw [putAll_new _ t (ops.toList.take z) 0 a0 j o hj0 hd hb.1.2 fun k o' hk hd' => ?_, (hvs j) hjz t (by rw [hj]; exact hd)]
          · simp
          · rcases Nat.decEq k j with hkj | hkj
            · exfalso
              obtain ⟨hkz, hk'⟩ := hlen k o' hk
              have hltk : k < ops.size := by omega
              have h5 := List.all_eq_true.1 hb.2 k (by simpa using hltk)
              rw [hk'] at h5
              simp [hkj, hd'] at h5
            · exact hkj
        · rw [putAll_old _ t (ops.toList.take z) 0 a0 (fun (o : Oper) ho e => hex (by obtain ⟨j, hj⟩ := List.getElem?_of_mem ho; exact ⟨j, o, hj, e⟩)), hold t fun i o hi hiz e => hex ⟨i, o, by rw [List.getElem?_take]; simp [hiz, hi], e⟩]
      have h4 := hdef
      cases a
      cases hq : putAll (fun i => Classical.choose (hch i)) 0 (ops.toList.take z) a0
      rw [hq] at h1 h3
      simp only at h1 h3 h4
      rw [h1, h3, h4]
    rw [← ha]
    exact hend'
  · unfold unlisted
    rw [List.filter_eq_self.2]
    · simp
    · intro i hi
      simp only [List.mem_range] at hi
      simp [hi]
  · rw [Array.getD_eq_getD_getElem?, Array.getElem?_replicate]
    split <;> simp
  · intro i o hi hl
    exfalso
    rw [Array.getD_eq_getD_getElem?, Array.getElem?_replicate] at hl
    split at hl <;> simp at hl
  · intro i o e hi hl
    exfalso
    rw [Array.getD_eq_getD_getElem?, Array.getElem?_replicate] at hl
    split at hl <;> simp at hl


/-- The same where it is a whole array. -/
theorem wp_region_putA {id : Nat} {a0 : Act} {w0 : World} (hm : P.follows .mixedOrders = true) (L : List (Value → World → Prop)) (z : Nat) (oz : Oper) (hz : ops.size = z + 1) (hoz : ops[z]? = some oz) (hzd : oz.dst = none) (hdom : domB ops z = true) (hB : ssaB ops a0.tmps.size = true)
    {b : Nat} {t : TypeId} {cs : List Value} (hA : Arr w0 b t cs) (ty : TypeId) (x y : Operand) (ho : oz.op = .store ty x y) (hgd : oz.guard = none) (vs : List Value) (hn : cs.length = vs.length) (hi : (P.info? ty).map (·.size) = some vs.length) (h1 : ∀ v ∈ vs, v.oneCell' = true)
    (hL : ∀ φ ∈ L, ∀ v w w', φ v w → Gr w w' → φ v w')
    (hstep : AllFrom (StepL P ops Q a0 w0.drew Gr L) 0 (ops.toList.take z))
    (hlast : ∀ a w, Gr w0.drew w → Finds ops (fun i => L.getD i AnyV) a0 z oz a w → a.eval x = .pointer (some ⟨b, 0, none⟩) ∧ a.eval y = .agg vs.toArray)
    (hend : ∀ (us : Nat → Value) w', Arr w' b t vs → Below b w0 w' → (∀ g t' cs', g ≠ b → Arr w0 g t' cs' → Arr w' g t' cs') → Q .normal (putAll us 0 (ops.toList.take z) a0) w') : (Code.region id ops true).wp P Q a0 w0 := by
  refine wp_region_put hm L z oz hz hoz hzd hdom hB hL hstep (fun w w' => w' = w.setCells b 0 vs) ?_ ?_
  · intro a w hG hF
    obtain ⟨hx, hy⟩ := hlast a w hG hF
    have hA' := hA.gr ((Gr.drew w0).trans hG)
    unfold wpOp
    have hw : Region.wanted oz (yielded ops a.tmps) = true := by simp [Region.wanted, hgd]
    simp only [hoz, hw, if_true]
    refine .inl (wp_store_mid ty x y ho b 0 vs.toArray hx hy (by have := hA'.there; rw [hn] at this; simpa using this) (by simpa using hi) (all_oneCell_toArray h1) ⟨undef, rfl, rfl⟩)
  · rintro us w w' hG rfl
    have hG' := (Gr.drew w0).trans hG
    exact hend us _ ((hA.gr hG').setAll vs hn.symm) ((hG'.mono (Nat.le_of_lt hA.lt)).trans (below_setCells (Nat.le_refl _) _ _ _)) (fun g t' cs' hg hA2 => (hA2.gr hG').setCells_other hg _ _)
end
end Go.Proofs.YtnmhfomnlnlflaaDoor
/- The walk of poly.Tag. No condition. -/
namespace Go.Proofs.YtnmhfomnlnlflaaDoor
open Go.RowKit
def rU (K : List UInt8) : List Nat := loadU (leNat (K.take 8) &&& 1152921487695413247) (leNat ((K.drop 8).take 8) &&& 1152921487695413244) 0
theorem rL_val {K : List UInt8} (hK : K.length = 32) : leNat (rL K) = (leNat (K.take 8) &&& 1152921487695413247) + 18446744073709551616 * (leNat ((K.drop 8).take 8) &&& 1152921487695413244) := by
  have e1 : K.take 16 = K.take 8 ++ (K.drop 8).take 8 := by
    rw [show 16 = 8 + 8 from rfl, List.take_add]
  have e2 : maskR = [255, 255, 255, 15, 252, 255, 255, 15] ++ [252, 255, 255, 15, 252, 255, 255, 15] := rfl
  rw [rL, e1, e2, List.zipWith_append (by rw [List.length_take, hK]; rfl), leNat_append16 _ _ (by simp [hK]), leNat_and _ _ (by simp [hK]), leNat_and _ _ (by simp [hK])]
  rfl
theorem rU_val {K : List UInt8} (hK : K.length = 32) : ∃ a b c d e, rU K = [a, b, c, d, e] ∧ a < 67108864 ∧ b < 67108864 ∧ c < 67108864 ∧ d < 67108864 ∧ e < 67108864 ∧ val5 [a, b, c, d, e] = leNat (rL K) := by
  obtain ⟨a, b, c, d, e, h, h0, h1, h2, h3, h4, hv⟩ := loadU_val (low := leNat (K.take 8) &&& 1152921487695413247) (high := leNat ((K.drop 8).take 8) &&& 1152921487695413244) (above := 0)
    (by have := Nat.and_le_right (n := leNat (K.take 8)) (m := 1152921487695413247); show _ < 18446744073709551616; omega) (by have := Nat.and_le_right (n := leNat ((K.drop 8).take 8)) (m := 1152921487695413244); show _ < 18446744073709551616; omega) (by omega)
  exact ⟨a, b, c, d, e, h, h0, h1, h2, h3, h4, by rw [hv, rL_val hK]; omega⟩
/-- The two last words of the tag. -/
def tagU (x : List Nat) (s0 s1 : Nat) : List UInt8 :=
  leBytes 8 ((lowU x + s0) % 18446744073709551616) ++ leBytes 8 (((if (lowU x + s0) % 18446744073709551616 < lowU x then (highU x + 1) % 18446744073709551616 else highU x) + s1) % 18446744073709551616)
theorem leBytes_mod (k x m : Nat) (h : k ≤ m) : leBytes k (x % 256 ^ m) = leBytes k x := by
  induction k generalizing x m with
  | zero => rfl
  | succ k ih =>
    obtain ⟨m, rfl⟩ : ∃ j, m = j + 1 := ⟨m - 1, by omega⟩
    rw [leBytes, leBytes]
    have e1 : x % 256 ^ (m + 1) / 256 = x / 256 % 256 ^ m := by
      rw [Nat.pow_succ, Nat.mul_comm, Nat.mod_mul_right_div_self]
    have e2 : UInt8.ofNat (x % 256 ^ (m + 1)) = UInt8.ofNat x := by
      apply UInt8.toNat_inj.1
      rw [UInt8.toNat_ofNat', UInt8.toNat_ofNat', Nat.pow_succ, Nat.mul_comm]
      exact Nat.mod_mul_right_mod _ _ _
    rw [e1, e2, ih _ _ (by omega)]
theorem leBytes_add (j k x : Nat) : leBytes (j + k) x = leBytes j x ++ leBytes k (x / 256 ^ j) := by
  induction j generalizing x with
  | zero => simp [leBytes]
  | succ j ih =>
    rw [show j + 1 + k = (j + k) + 1 by omega, leBytes, ih, leBytes, List.cons_append, Nat.div_div_eq_div_mul, Nat.pow_succ, Nat.mul_comm 256]
theorem tagU_val {x : List Nat} {s0 s1 v : Nat} (hv : lowU x + 18446744073709551616 * highU x = v % 340282366920938463463374607431768211456) (hl : lowU x < 18446744073709551616) (h0 : s0 < 18446744073709551616) :
    tagU x s0 s1 = leBytes 16 (v + (s0 + 18446744073709551616 * s1)) := by
  have e1 : leBytes 16 (v + (s0 + 18446744073709551616 * s1)) = leBytes 16 ((v % 340282366920938463463374607431768211456 + (s0 + 18446744073709551616 * s1)) % 340282366920938463463374607431768211456) := by
    have h1 := leBytes_mod 16 (v + (s0 + 18446744073709551616 * s1)) 16 (Nat.le_refl _)
    have h2 := leBytes_mod 16 (v % 340282366920938463463374607431768211456 + (s0 + 18446744073709551616 * s1)) 16 (Nat.le_refl _)
    have e : (256 : Nat) ^ 16 = 340282366920938463463374607431768211456 := by decide +kernel
    rw [e] at h1 h2
    rw [h2, ← h1, ← h2, Nat.mod_add_mod]
  rw [e1, ← hv, tagU, show (16 : Nat) = 8 + 8 from rfl, leBytes_add]
  have e8 : (256 : Nat) ^ 8 = 18446744073709551616 := by decide +kernel
  have hm8 := fun x => leBytes_mod 8 x 8 (Nat.le_refl _)
  rw [e8] at hm8 ⊢
  generalize lowU x = lo at hl ⊢
  generalize highU x = hi
  congr 1
  · rw [← hm8 ((lo + 18446744073709551616 * hi + (s0 + 18446744073709551616 * s1)) % 340282366920938463463374607431768211456)]
    congr 1
    omega
  · congr 1
    split <;> omega
/-- How many parts a text has. -/
def nParts (n : Nat) : Nat := (n + 15) / 16
theorem tag_is {K : List UInt8} (hK : K.length = 32) (b : List UInt8) :
    tagU (leastU (hU (rU K) b (nParts b.length))) (leNat ((K.drop 16).take 8)) (leNat (K.drop 24)) = tagL K b := by
  obtain ⟨r0, r1, r2, r3, r4, er, q0, q1, q2, q3, q4, hrv⟩ := rU_val hK
  obtain ⟨h0, h1, h2, h3, h4, eh, p0, p1, p2, p3, p4, hhv⟩ := hU_val (r0 := r0) (r1 := r1) (r2 := r2) (r3 := r3) (r4 := r4) b q0 q1 q2 q3 q4 (nParts b.length)
  obtain ⟨a, c, d, e, f, el, t0, t1, t2, t3, t4, hlv⟩ := leastU_val (a := h0) (b := h1) (c := h2) (d := h3) (e := h4) (by omega) (by omega) (by omega) (by omega) (by omega)
  obtain ⟨hw, hlo, _⟩ := words_val t0 t1 t2 t3 t4
  rw [er, eh, el]
  have h0 : leNat ((K.drop 16).take 8) < 18446744073709551616 := by have := leNat_lt ((K.drop 16).take 8); rw [List.length_take, List.length_drop, hK] at this; exact this
  rw [tagU_val hw hlo h0, hlv, hhv, hrv, tagL]
  congr 2
  have e1 : K.drop 16 = (K.drop 16).take 8 ++ K.drop 24 := by
    conv => lhs; rw [← List.take_append_drop 8 (K.drop 16)]
    rw [List.drop_drop]
  conv => rhs; rw [e1]
  rw [leNat_append16 _ _ (by simp [hK])]
theorem hU_lt {R b : List UInt8} (hR : R.length = 32) (k : Nat) : Lt64 (hU (rU R) b k) ∧ (hU (rU R) b k).length = 5 := by
  obtain ⟨r0, r1, r2, r3, r4, er, q0, q1, q2, q3, q4, _⟩ := rU_val hR
  obtain ⟨h0, h1, h2, h3, h4, eh, p0, p1, p2, p3, p4, _⟩ := hU_val (r0 := r0) (r1 := r1) (r2 := r2) (r3 := r3) (r4 := r4) b q0 q1 q2 q3 q4 k
  rw [er, eh]
  refine ⟨fun i => ?_, rfl⟩
  match i with
  | 0 => show h0 < _; omega
  | 1 => show h1 < _; omega
  | 2 => show h2 < _; omega
  | 3 => show h3 < _; omega
  | 4 => show h4 < _; omega
  | i + 5 => show 0 < _; omega
theorem leastU_lt {R b : List UInt8} (hR : R.length = 32) (k : Nat) : Lt64 (leastU (hU (rU R) b k)) ∧ (leastU (hU (rU R) b k)).length = 5 := by
  obtain ⟨r0, r1, r2, r3, r4, er, q0, q1, q2, q3, q4, _⟩ := rU_val hR
  obtain ⟨h0, h1, h2, h3, h4, eh, p0, p1, p2, p3, p4, _⟩ := hU_val (r0 := r0) (r1 := r1) (r2 := r2) (r3 := r3) (r4 := r4) b q0 q1 q2 q3 q4 k
  obtain ⟨a, c, d, e, f, el, t0, t1, t2, t3, t4, _⟩ := leastU_val (a := h0) (b := h1) (c := h2) (d := h3) (e := h4) (by omega) (by omega) (by omega) (by omega) (by omega)
  rw [er, eh, el]
  refine ⟨fun i => ?_, rfl⟩
  match i with
  | 0 => show a < _; omega
  | 1 => show c < _; omega
  | 2 => show d < _; omega
  | 3 => show e < _; omega
  | 4 => show f < _; omega
  | i + 5 => show 0 < _; omega
theorem run_cutRdH {P : Program} {T e : TypeId} (hT : P.underlying T = some (.slice e)) (hsz : (P.info? e).map (·.size) = some 1) {A : Option Addr} {n c k : Nat} {z : Int} (hz : z = k) (h1 : k ≤ n) (h2 : n ≤ c) (w : World) :
    (Instr.sliceAt T (.slice A n c) none (some (.int .i64 z)) none).run P w = .ok (.slice A k c) w := by
  subst hz
  have e1 : P.elem T = e := by simp [Program.elem, hT]
  have e2 : A.map (·.add 0) = A := by cases A <;> simp [add_zero_]
  rw [run_sliceAt_slice w T _ _ _ _ (by rw [e1]; exact hT), run_slice_h w T _ _ _ (by rw [e1]; exact hT) _ _ (by omega) (by omega), e1]
  simp only [run_size1 hsz, Result.andThen_ok, sliced, Nat.zero_mul, e2, ite_self, Nat.sub_zero, Int.toNat_natCast]
theorem info16 (l : List UInt8) (h : l.length = 16) : (Tryd.prog.info? 88).map (·.size) = some (u8s l).length := by simp only [u8s_length, h]; kernel_rfl
set_option maxRecDepth 100000 in
set_option maxHeartbeats 4000000 in
theorem polyTag_any (K : List UInt8) (hK : K.length = 32) (A : Option Addr) (n c : Nat) (b : List UInt8) (hnc : n ≤ c) (w : World) (hr : Rd w A n (u8s b)) :
    Calls Tryd.prog 54 #[.agg (u8s K).toArray, .slice A n c] w fun e w' => e = .returned (.agg (u8s (tagL K b)).toArray) ∧ Below w.heap.size w w' := by
  have hl : b.length = n := by simpa using hr.1
  obtain ⟨i0, hi0, hz0, hz1, hz2⟩ := info_parts Tryd.info5
  obtain ⟨k0, hk0⟩ : ∃ x, x = K.take 8 := ⟨_, rfl⟩
  obtain ⟨k1, hk1⟩ : ∃ x, x = (K.drop 8).take 8 := ⟨_, rfl⟩
  obtain ⟨k2, hk2⟩ : ∃ x, x = (K.drop 16).take 8 := ⟨_, rfl⟩
  obtain ⟨k3, hk3⟩ : ∃ x, x = K.drop 24 := ⟨_, rfl⟩
  have b0 : leNat k0 < 18446744073709551616 := by have := leNat_lt k0; rw [show k0.length = 8 by rw [hk0]; simp [hK]] at this; exact this
  have b1 : leNat k1 < 18446744073709551616 := by have := leNat_lt k1; rw [show k1.length = 8 by rw [hk1]; simp [hK]] at this; exact this
  have a0 : bits .and .u64 ((leNat k0 : Nat) : Int) 1152921487695413247 = ((leNat k0 &&& 1152921487695413247 : Nat) : Int) := u64_and_nat (leNat k0) 1152921487695413247 b0 (by decide)
  have a1 : bits .and .u64 ((leNat k1 : Nat) : Int) 1152921487695413244 = ((leNat k1 &&& 1152921487695413244 : Nat) : Int) := u64_and_nat (leNat k1) 1152921487695413244 b1 (by decide)
  obtain ⟨m0, hm0⟩ : ∃ x, x = leNat k0 &&& 1152921487695413247 := ⟨_, rfl⟩
  obtain ⟨m1, hm1⟩ : ∃ x, x = leNat k1 &&& 1152921487695413244 := ⟨_, rfl⟩
  have l0 : m0 < 18446744073709551616 := by rw [hm0]; exact Nat.lt_of_le_of_lt Nat.and_le_left b0
  have l1 : m1 < 18446744073709551616 := by rw [hm1]; exact Nat.lt_of_le_of_lt Nat.and_le_left b1
  rw [← hm0] at a0
  rw [← hm1] at a1
  have hload := fun w => load_any m0 m1 0 l0 l1 w
  obtain ⟨R, hR⟩ : ∃ R, R = loadU m0 m1 0 := ⟨_, rfl⟩
  have hRl : R.length = 5 := by rw [hR]; rfl
  have HR : Hid (R = rU K) := by show _ = _; rw [hR, hm0, hm1, hk0, hk1]; rfl
  rw [← hR] at hload
  have h2k : Arr (w.alloc (.cells (u8s K).toArray 22)) w.heap.size 22 (u8s K) := Arr.newAt rfl rfl
  have H0 := Lib.hid hk0
  have H1 := Lib.hid hk1
  have H2 := Lib.hid hk2
  have H3 := Lib.hid hk3
  clear hk0 hk1 hk2 hk3 hm0 hm1 hR b0 b1
  have cut0 := fun w1 => run_cutA_h (P := Tryd.prog) Tryd.underlying22 (by kernel_rfl) w.heap.size 8 (by omega) 8 rfl w1
  have cut1 := fun w1 => run_cutA (P := Tryd.prog) Tryd.underlying22 (by kernel_rfl) w.heap.size 8 16 (by omega) (by omega) (by omega) 8 16 rfl rfl w1
  have cut2 := fun w1 => run_cutA (P := Tryd.prog) Tryd.underlying22 (by kernel_rfl) w.heap.size 16 24 (by omega) (by omega) (by omega) 16 24 rfl rfl w1
  have cut3 := fun w1 => run_cutA_l (P := Tryd.prog) Tryd.underlying22 (by kernel_rfl) w.heap.size 24 (by omega) 24 rfl w1
  go_enter Tryd.func54, Tryd.ntmps54
  go_wp2_with first
    | (go_at_call 69; have r0 := h2k.rd 0 8 (by simp [hK]); have r1 := h2k.rd 8 8 (by simp [hK]); rw [List.drop_zero, u8s_take, ← H0.out] at r0; rw [u8s_drop, u8s_take, ← H1.out] at r1; refine (low64_any _ _ _ _ (by first | exact r0.alloc _ | exact r1.alloc _)).mono ?_; rintro e w5 ⟨rfl, rfl⟩; clear r0 r1)
    | (go_at_call 70; refine (hload _).mono ?_; rintro e w6 ⟨rfl, hB6⟩; have h2 := Arr.below (h2k.alloc _) hB6 (by simp only [asz]; omega); have h4 := Arr.below (Arr.newAt (l := u8s (List.replicate 16 0)) (asz _ _) (by kernel_rfl)) hB6 (by simp only [asz]; omega); have hB := (((Below.refl w.heap.size w).alloc (by omega) _).alloc (by simp only [asz]; omega) _).trans (hB6.mono (by simp only [asz]; omega)); have l4 := h4.lt; clear hB6)
    | (refine wpList_new rfl 120 (.tmp 9) (.tmp 32) rfl _ (u64s R) rfl rfl rfl (by simp only [u64s_length, hRl]; rfl) (info38 _ hRl) (u64s_oneCell R) ?_; intro w7 h9 hG7; have l9 := h9.lt)
  replace h2 := h2.gr hG7
  replace h4 := h4.gr hG7
  replace hB := hB.trans (hG7.mono hB.size)
  clear hG7 cut0 cut1 hload a0 a1
  generalize hW : w7.alloc _ = W
  have h10 : Arr W w7.heap.size 120 (u64s (hU R b 0)) := by rw [← hW]; exact Arr.newAt rfl (by kernel_rfl)
  replace h2 : Arr W w.heap.size 22 (u8s K) := by rw [← hW]; exact h2.alloc _
  replace h4 : Arr W (w.heap.size + 1) 88 (u8s (List.replicate 16 0)) := by rw [← hW]; exact h4.alloc _
  replace h9 : Arr W w6.heap.size 120 (u64s R) := by rw [← hW]; exact h9.alloc _
  replace hB : Below w.heap.size w W := by rw [← hW]; exact hB.alloc hB.size _
  clear hW h2k
  have hcong : hU (rU K) b = hU R b := by rw [HR.out]
  have hUl := fun r => hU_lt (b := b) hK r
  rw [hcong] at hUl
  generalize w6.heap.size = g9 at h9 l4 l9 ⊢
  generalize w7.heap.size = g10 at h10 l9 ⊢
  go_loopw [1] (fun v wr => ∃ r A' c', 16 * r ≤ n + 15 ∧ v = .slice A' (n - 16 * r) c' ∧ n - 16 * r ≤ c' ∧ Rd w A' (n - 16 * r) (u8s (b.drop (16 * r))) ∧ Arr wr w.heap.size 22 (u8s K) ∧ Arr wr (w.heap.size + 1) 88 (u8s (List.replicate 16 0)) ∧ Arr wr g9 120 (u64s R) ∧ Arr wr g10 120 (u64s (hU R b r)) ∧ Below w.heap.size w wr) (fun v _ => slLen v)
  case atStart => exact ⟨0, A, c, by omega, rfl, hnc, by simpa using hr, h2, h4, h9, h10, hB⟩
  case round =>
    obtain ⟨r, A', c', hr16, rfl, hc', hrd0, h2, h4, h9, h10, hB⟩ := hrel
    have hrd := hrd0.below hB
    by_cases hlt : 16 * r < n
    · obtain ⟨m, hm⟩ : ∃ m, m = n - 16 * r := ⟨_, rfl⟩
      rw [← hm] at hc' hrd0 hrd ⊢
      have hm0 : 0 < m := by omega
      obtain ⟨k, hk⟩ : ∃ k, k = min m 16 := ⟨_, rfl⟩
      have hkm : min (m : Int) 16 = (k : Int) := by omega
      have hk16 : k ≤ 16 := by omega
      have hkle : k ≤ m := by omega
      obtain ⟨p, hp⟩ : ∃ p, p = blk b r := ⟨_, rfl⟩
      have hrp : Rd wr A' k (u8s p) := by
        have := hrd.take hkle
        rw [u8s_take] at this
        rw [hp, blk]
        have e : (b.drop (16 * r)).take k = (b.drop (16 * r)).take 16 := by
          have hld : (b.drop (16 * r)).length = m := by rw [List.length_drop]; omega
          rcases Nat.lt_or_ge m 16 with h | h
          · rw [List.take_of_length_le (by omega), List.take_of_length_le (by omega)]
          · congr 1; omega
        rwa [e] at this
      have hrn : Rd w (if c' = k then A' else A'.map (·.add k)) (m - k) (u8s (b.drop (16 * (r + 1)))) := by
        have := hrd0.cut hkle hc'
        rw [u8s_drop, List.drop_drop] at this
        rcases Nat.lt_or_ge m 16 with h | h
        · have e1 : b.drop (16 * r + k) = [] := List.drop_of_length_le (by omega)
          have e2 : b.drop (16 * (r + 1)) = [] := List.drop_of_length_le (by omega)
          rwa [e1, ← e2] at this
        · rwa [show 16 * r + k = 16 * (r + 1) by omega] at this
      obtain ⟨h, hh⟩ : ∃ h, h = hU R b r := ⟨_, rfl⟩
      have hhl : h.length = 5 := by rw [hh]; exact (hUl r).2
      obtain ⟨q, hq⟩ : ∃ q, q = partU p := ⟨_, rfl⟩
      have hql : q.length = 5 := by rw [hq]; rfl
      have hpart := fun w hr => part_any A' k c' p hk16 w hr
      rw [← hq] at hpart
      obtain ⟨s, hs⟩ : ∃ s, s = plusU h q := ⟨_, rfl⟩
      have hsl : s.length = 5 := by rw [hs]; simp [plusU, hhl]
      have hplus := fun w => plus_any h q hhl hql w
      rw [← hs] at hplus
      obtain ⟨u, hu⟩ : ∃ u, u = timesU s R := ⟨_, rfl⟩
      have hul : u.length = 5 := by rw [hu]; simp [timesU]
      have htimes := fun w => times_any s R hsl hRl w
      rw [← hu] at htimes
      have HU : Hid (hU R b (r + 1) = u) := by show _ = _; rw [hu, hs, hq, hp, hh]; rfl
      rw [← hh] at h10
      have HM := Lib.hid hm
      have HKK := Lib.hid hk
      clear hu hs hq hh hp hk hm hUl hcong
      go_wp2_with fail
      refine wp_region_putA (by kernel_rfl) [IsV (.agg (u64s h).toArray), IsV (.slice A' m c'), IsV (.int .i64 (k : Nat)), IsV (.slice A' k c'), IsV (.agg (u64s q).toArray), IsV (.agg (u64s s).toArray), IsV (.agg (u64s R).toArray), IsV (.agg (u64s u).toArray)] 8 _ rfl rfl rfl (by kernel_rfl) (by kernel_rfl) h10 120 (.tmp 10) (.tmp 46) rfl rfl (u64s u) (by simp [hhl, hul]) (info38 _ hul) (u64s_oneCell _) ?_ ?_ ?_ ?_
      · intro φ hφ v w1 w2 h hg
        simp only [List.mem_cons, List.not_mem_nil, or_false] at hφ
        rcases hφ with rfl | rfl | rfl | rfl | rfl | rfl | rfl | rfl
        all_goals first | exact h | exact RdV.gr h hg
      · refine ⟨?_, ?_, ?_, ?_, ?_, ?_, ?_, ?_, trivial⟩
        · intro a1 w1 hG hF
          have e10 : a1.eval (.tmp 10) = .pointer (some ⟨g10, 0, none⟩) := hF.ol 10 (by kernel_rfl)
          exact s_wp rfl (wants0 rfl) (wp_load_mid _ _ rfl g10 0 e10 (u64s h) _ (h10.gr ((Gr.drew wr).trans hG)).range Tryd.underlying120 rfl (info38 _ hhl) ⟨_, rfl, rfl, Gr.refl _⟩)
        · intro a1 w1 hG hF
          exact s_old rfl (wants0 rfl) (.tmp 1) (.inr rfl) (.slice A' m c') (hF.ol 1 (by kernel_rfl)) rfl
        · intro a1 w1 hG hF
          exact s_old rfl (wants0 rfl) (.tmp 11) (.inr rfl) (.int .i64 (k : Nat)) (hF.ol 11 (by kernel_rfl)) rfl
        · intro a1 w1 hG hF
          obtain ⟨_, e40, rfl⟩ := hF.dp 1 40 (by kernel_rfl)
          obtain ⟨_, e41, rfl⟩ := hF.dp 2 41 (by kernel_rfl)
          exact s_is rfl (wants0 rfl) _ rfl (by simp only [execOp, e40, e41, Option.map, Sem.run_bind, run_cutRdH (P := Tryd.prog) Tryd.underlying27 (by kernel_rfl) rfl hkle hc', Result.andThen_ok, Sem.run_pure])
        · intro a1 w1 hG hF
          obtain ⟨_, e42, rfl⟩ := hF.dp 3 42 (by kernel_rfl)
          exact s_call rfl (wants0 rfl) _ rfl _ _ (by simp only [execOp, resolve, invoke, List.map_toArray, List.map_cons, List.map_nil, e42]; go_simp) ((hpart w1 (Gr.rd ((Gr.drew wr).trans hG) hrp)).mono fun e w2 ⟨he, hb⟩ => ⟨_, he, rfl, hb⟩)
        · intro a1 w1 hG hF
          obtain ⟨_, e39, rfl⟩ := hF.dp 0 39 (by kernel_rfl)
          obtain ⟨_, e43, rfl⟩ := hF.dp 4 43 (by kernel_rfl)
          exact s_call rfl (wants0 rfl) _ rfl _ _ (by simp only [execOp, resolve, invoke, List.map_toArray, List.map_cons, List.map_nil, e39, e43]; go_simp) ((hplus w1).mono fun e w2 ⟨he, hb⟩ => ⟨_, he, rfl, hb⟩)
        · intro a1 w1 hG hF
          have e9 : a1.eval (.tmp 9) = .pointer (some ⟨g9, 0, none⟩) := hF.ol 9 (by kernel_rfl)
          exact s_wp rfl (wants0 rfl) (wp_load_mid _ _ rfl g9 0 e9 (u64s R) _ (h9.gr ((Gr.drew wr).trans hG)).range Tryd.underlying120 rfl (info38 _ hRl) ⟨_, rfl, rfl, Gr.refl _⟩)
        · intro a1 w1 hG hF
          obtain ⟨_, e44, rfl⟩ := hF.dp 5 44 (by kernel_rfl)
          obtain ⟨_, e45, rfl⟩ := hF.dp 6 45 (by kernel_rfl)
          exact s_call rfl (wants0 rfl) _ rfl _ _ (by simp only [execOp, resolve, invoke, List.map_toArray, List.map_cons, List.map_nil, e44, e45]; go_simp) ((htimes w1).mono fun e w2 ⟨he, hb⟩ => ⟨_, he, rfl, hb⟩)
      · intro a1 w1 hG hF
        have e10 : a1.eval (.tmp 10) = .pointer (some ⟨g10, 0, none⟩) := hF.ol 10 (by kernel_rfl)
        obtain ⟨_, e46, rfl⟩ := hF.dp 7 46 (by kernel_rfl)
        exact ⟨e10, e46⟩
      · intro vs w1 hA9 hB9 hO9
        simp only [List.take_succ_cons, List.take_zero, putAll, Nat.zero_add, Nat.reduceAdd]
        have h2' := hO9 _ _ _ (by omega) h2
        have h4' := hO9 _ _ _ (by omega) h4
        have h9' := hO9 _ _ _ (by omega) h9
        have hB' := hB.trans (hB9.mono (by omega))
        rw [← HU.out] at hA9
        have hcutl := fun w => run_cutRdK (P := Tryd.prog) Tryd.underlying27 (by kernel_rfl) (A := A') (c := c') (z := (k : Int)) rfl hkle w
        generalize w1 = W1 at h2' h4' h9' hA9 hB' ⊢
        generalize (if c' = k then A' else A'.map (·.add k)) = A2 at hcutl hrn ⊢
        clear h2 h4 h9 h10 hB hO9 hB9 hpart hplus htimes hrd hrd0 hrp
        go_simp
        go_wp2_with fail
        go_roundw
        case rel => 
          have hk := HKK.out
          have hm := HM.out
          refine ⟨r + 1, A2, c' - k, by omega, ?_, by omega, ?_, h2', h4', h9', hA9, hB'⟩
          · rw [show n - 16 * (r + 1) = m - k by omega]
          · rw [show n - 16 * (r + 1) = m - k by omega]; exact hrn
        case measure => simp [slLen]; omega
    · have hE := tag_is hK b
      obtain ⟨h, hh⟩ : ∃ h, h = hU R b r := ⟨_, rfl⟩
      have hhl : h.length = 5 := by rw [hh]; exact (hUl r).2
      have hhL : Lt64 h := by rw [hh]; exact (hUl r).1
      have hnr : r = nParts b.length := by unfold nParts; omega
      rw [← H2.out, ← H3.out, hcong, ← hnr, ← hh] at hE
      have hleast := fun w => least_any h hhl hhL w
      obtain ⟨q, hq⟩ : ∃ q, q = leastU h := ⟨_, rfl⟩
      have hqq := leastU_lt (b := b) hK r
      rw [hcong, ← hh, ← hq] at hqq
      rw [← hq] at hleast hE
      have hwords := fun w => words_any q hqq.2 hqq.1 w
      rw [← hh] at h10
      obtain ⟨lo, hlo⟩ : ∃ x, x = lowU q := ⟨_, rfl⟩
      obtain ⟨hi, hhi⟩ : ∃ x, x = highU q := ⟨_, rfl⟩
      rw [← hlo, ← hhi] at hwords
      obtain ⟨sm, hsm⟩ : ∃ x, x = (lo + (leNat k2)) % 18446744073709551616 := ⟨_, rfl⟩
      obtain ⟨hi1, hh1⟩ : ∃ x, x = (hi + 1) % 18446744073709551616 := ⟨_, rfl⟩
      obtain ⟨t1, ht1⟩ : ∃ x, x = ((if sm < lo then hi1 else hi) + (leNat k3)) % 18446744073709551616 := ⟨_, rfl⟩
      have hE2 : Hid (tagL K b = leBytes 8 sm ++ leBytes 8 t1) := by show _ = _; rw [← hE, tagU, ← hlo, ← hhi, ← hsm, ← hh1, ← ht1]
      have hsml : sm < 18446744073709551616 := by rw [hsm]; exact Nat.mod_lt _ (by omega)
      have ht1l : t1 < 18446744073709551616 := by rw [ht1]; exact Nat.mod_lt _ (by omega)
      have e0 := wrap_add64 lo (leNat k2)
      rw [← hsm] at e0
      have HH1 := Lib.hid hh1
      have HT1 := Lib.hid ht1
      simp only [show n - 16 * r = 0 by omega] at hrd0 hrd hc' ⊢
      clear hE hlo hhi hsm hh1 ht1 hq hh hUl hcong hqq hrd hrd0 hc' hnr
      have htl : (tagL K b).length = 16 := by simp [tagL]
      have mk : True := trivial
      by_cases hcmp : sm < lo
      · have e3 : IntKind.u64.wrap ((hi : Int) + 1) = (hi1 : Int) := by rw [HH1.out]; exact wrap_add64 hi 1
        have e4 : IntKind.u64.wrap ((hi1 : Int) + ((leNat k3 : Nat) : Int)) = (t1 : Int) := by rw [HT1.out, if_pos hcmp]; exact wrap_add64 hi1 (leNat k3)
        have hcmp' : ((sm : Int) < (lo : Int)) := by omega
        go_wp2_with first
          | (refine wpList_load_mid rfl 120 (.tmp 10) rfl g10 0 rfl (u64s h) _ h10.range Tryd.underlying120 rfl (info38 _ hhl) ?_)
          | (go_at_call 74; refine (hleast _).mono ?_; rintro e w5 ⟨rfl, hB5⟩; replace h2 := h2.gr hB5; replace h4 := h4.gr hB5; replace hB := hB.trans (hB5.mono hB.size); clear hB5)
          | (go_at_call 75; refine (hwords _).mono ?_; rintro e w6 ⟨rfl, hB6⟩; replace h2 := h2.gr hB6; replace h4 := h4.gr hB6; replace hB := hB.trans (hB6.mono hB.size); clear hB6; have r2 := h2.rd 16 8 (by simp [hK]); have r3 := h2.rd 24 8 (by simp [hK]); rw [u8s_drop, u8s_take, ← H2.out] at r2; rw [u8s_drop, u8s_take, List.take_of_length_le (by simp [hK]), ← H3.out] at r3)
          | (go_at_call 69; refine (low64_any _ _ _ _ (by first | exact r2 | exact r3)).mono ?_; rintro e w7 ⟨rfl, rfl⟩)
          | (go_at_call 49; clear mk; refine (putLow_k sm 8 hsml (by omega) _).mono ?_; rintro e w8 ⟨v8, rfl, ho8, hB8⟩; have z8 := hB8.size; have l4b := h4.lt; replace h4 := h4.gr hB8; replace hB := hB.trans (hB8.mono hB.size); clear r2 r3 h2)
          | (go_at_call 49; refine (putLow_k t1 8 ht1l (by omega) _).mono ?_; rintro e w9 ⟨v9, rfl, ho9, hB9⟩; have z9 := hB9.size; replace ho8 := Gr.own hB9 ho8; replace h4 := h4.gr hB9; replace hB := hB.trans (hB9.mono hB.size); obtain ⟨A9, c9, rfl, _, _⟩ := own_form ho9; have r9 := Rd.of_own ho9)
          | (at_builtin; go_must (refine wpList_app _ rfl (.tmp 75) (.tmp 79) 27 rfl _ 5 i0 (.int .u8 0) 1 Tryd.underlying27 hi0 hz0 hz1 hz2 rfl v8 8 _ rfl ho8 A9 8 c9 _ rfl r9 (u8s_oneCell _) (by omega) (by unfold maxLen; omega) (by omega) ?_; rintro v10 w10 hA10; have hB10 := hA10.below ho8 (by omega); replace h4 := h4.below hB10 l4b; replace hB := hB.trans (hB10.mono (by omega)); have ho10 := hA10.own; rw [← u8s_append, ← hE2.out] at ho10; obtain ⟨go, co, rfl, _, hgo, hgl⟩ := own_at ho10 (by omega); have hrg : w10.rangeAt go 0 (u8s (tagL K b)) := (fun j v hv => by have := ho10.cells (g := go) rfl j v hv; rw [add_row] at this; exact this); have ha := fun w => run_arrAt (P := Tryd.prog) Tryd.underlying88 (A := some ⟨go, 0, none⟩) (c := co) (Nat.le_refl 16) w; clear hA10 ho10 ho8 r9 ho9))
          | (refine wpList_load_mid rfl 88 (.tmp 82) rfl go 0 rfl (u8s (tagL K b)) _ hrg Tryd.underlying88 rfl (info16 _ htl) ?_)
          | (refine wpList_put h4 rfl 88 (.tmp 4) (.tmp 83) rfl (u8s (tagL K b)) rfl rfl (by simp [htl]) (info16 _ htl) (u8s_oneCell _) ?_; intro w11 hR11 hB11 hO11)
        refine bodyPost_ret (results_cell_row rfl _ _ (w.heap.size + 1) _ _ _ _ rfl hR11 Tryd.underlying88 rfl (by have := info16 _ htl; simpa using this)) rfl ?_
        exact ⟨rfl, hB.trans (hB11.mono (by omega))⟩
      · have e4 : IntKind.u64.wrap ((hi : Int) + ((leNat k3 : Nat) : Int)) = (t1 : Int) := by rw [HT1.out, if_neg hcmp]; exact wrap_add64 hi (leNat k3)
        have hcmp' : ¬ ((sm : Int) < (lo : Int)) := by omega
        go_wp2_with first
          | (refine wpList_load_mid rfl 120 (.tmp 10) rfl g10 0 rfl (u64s h) _ h10.range Tryd.underlying120 rfl (info38 _ hhl) ?_)
          | (go_at_call 74; refine (hleast _).mono ?_; rintro e w5 ⟨rfl, hB5⟩; replace h2 := h2.gr hB5; replace h4 := h4.gr hB5; replace hB := hB.trans (hB5.mono hB.size); clear hB5)
          | (go_at_call 75; refine (hwords _).mono ?_; rintro e w6 ⟨rfl, hB6⟩; replace h2 := h2.gr hB6; replace h4 := h4.gr hB6; replace hB := hB.trans (hB6.mono hB.size); clear hB6; have r2 := h2.rd 16 8 (by simp [hK]); have r3 := h2.rd 24 8 (by simp [hK]); rw [u8s_drop, u8s_take, ← H2.out] at r2; rw [u8s_drop, u8s_take, List.take_of_length_le (by simp [hK]), ← H3.out] at r3)
          | (go_at_call 69; refine (low64_any _ _ _ _ (by first | exact r2 | exact r3)).mono ?_; rintro e w7 ⟨rfl, rfl⟩)
          | (go_at_call 49; clear mk; refine (putLow_k sm 8 hsml (by omega) _).mono ?_; rintro e w8 ⟨v8, rfl, ho8, hB8⟩; have z8 := hB8.size; have l4b := h4.lt; replace h4 := h4.gr hB8; replace hB := hB.trans (hB8.mono hB.size); clear r2 r3 h2)
          | (go_at_call 49; refine (putLow_k t1 8 ht1l (by omega) _).mono ?_; rintro e w9 ⟨v9, rfl, ho9, hB9⟩; have z9 := hB9.size; replace ho8 := Gr.own hB9 ho8; replace h4 := h4.gr hB9; replace hB := hB.trans (hB9.mono hB.size); obtain ⟨A9, c9, rfl, _, _⟩ := own_form ho9; have r9 := Rd.of_own ho9)
          | (at_builtin; go_must (refine wpList_app _ rfl (.tmp 75) (.tmp 79) 27 rfl _ 5 i0 (.int .u8 0) 1 Tryd.underlying27 hi0 hz0 hz1 hz2 rfl v8 8 _ rfl ho8 A9 8 c9 _ rfl r9 (u8s_oneCell _) (by omega) (by unfold maxLen; omega) (by omega) ?_; rintro v10 w10 hA10; have hB10 := hA10.below ho8 (by omega); replace h4 := h4.below hB10 l4b; replace hB := hB.trans (hB10.mono (by omega)); have ho10 := hA10.own; rw [← u8s_append, ← hE2.out] at ho10; obtain ⟨go, co, rfl, _, hgo, hgl⟩ := own_at ho10 (by omega); have hrg : w10.rangeAt go 0 (u8s (tagL K b)) := (fun j v hv => by have := ho10.cells (g := go) rfl j v hv; rw [add_row] at this; exact this); have ha := fun w => run_arrAt (P := Tryd.prog) Tryd.underlying88 (A := some ⟨go, 0, none⟩) (c := co) (Nat.le_refl 16) w; clear hA10 ho10 ho8 r9 ho9))
          | (refine wpList_load_mid rfl 88 (.tmp 82) rfl go 0 rfl (u8s (tagL K b)) _ hrg Tryd.underlying88 rfl (info16 _ htl) ?_)
          | (refine wpList_put h4 rfl 88 (.tmp 4) (.tmp 83) rfl (u8s (tagL K b)) rfl rfl (by simp [htl]) (info16 _ htl) (u8s_oneCell _) ?_; intro w11 hR11 hB11 hO11)
        refine bodyPost_ret (results_cell_row rfl _ _ (w.heap.size + 1) _ _ _ _ rfl hR11 Tryd.underlying88 rfl (by have := info16 _ htl; simpa using this)) rfl ?_
        exact ⟨rfl, hB.trans (hB11.mono (by omega))⟩
end Go.Proofs.YtnmhfomnlnlflaaDoor
/- Noughts up to a multiple of sixteen. No condition. -/
namespace Go.Proofs.YtnmhfomnlnlflaaDoor
/-- Noughts up to a multiple of sixteen. -/
def padA (b : List UInt8) : List UInt8 := b ++ List.replicate ((16 - b.length % 16) % 16) 0
/-- Bytes with so many noughts behind them. -/
def padN (b : List UInt8) (k : Nat) : List UInt8 := b ++ List.replicate k 0
theorem padN_succ (b : List UInt8) (k : Nat) : padN b (k + 1) = padN b k ++ [0] := by
  simp [padN, List.replicate_succ']
theorem padN_length (b : List UInt8) (k : Nat) : (padN b k).length = b.length + k := by simp [padN]
/-- So many noughts as make a multiple of sixteen, for the first time. -/
theorem padN_all {b : List UInt8} {k : Nat} (h : (b.length + k) % 16 = 0) (hk : k < 16) : padN b k = padA b := by
  rw [padN, padA]
  congr 2
  omega
theorem padA_le (b : List UInt8) : (padA b).length ≤ b.length + 15 := by
  simp [padA]
  omega
end Go.Proofs.YtnmhfomnlnlflaaDoor
/- Sealed bytes, over lists: what the code and its reference both compute. No condition. -/
namespace Go.Proofs.YtnmhfomnlnlflaaDoor
def overL (W C : List UInt8) : List UInt8 := padA W ++ padA C ++ leBytes 8 W.length ++ leBytes 8 C.length
def aTag (K N W C : List UInt8) : List UInt8 := tagL ((blockL K 0 N).take 32) (overL W C)
def hideL (K N b : List UInt8) : List UInt8 := streamL K 1 N b
def sealL (K N W b : List UInt8) : List UInt8 := hideL K N b ++ aTag K N W (hideL K N b)
theorem overL_le (W C : List UInt8) : (overL W C).length ≤ W.length + C.length + 46 := by
  have h1 := padA_le W
  have h2 := padA_le C
  simp [overL]
  omega
@[simp] theorem aTag_length (K N W C : List UInt8) : (aTag K N W C).length = 16 := by simp [aTag, tagL]
@[simp] theorem hideL_length (K N b : List UInt8) : (hideL K N b).length = b.length := streamL_length _ _ _ _
@[simp] theorem sealL_length (K N W b : List UInt8) : (sealL K N W b).length = b.length + 16 := by simp [sealL]
theorem hideL_twice (K N b : List UInt8) : hideL K N (hideL K N b) = b := streamL_twice _ _ _ _
theorem blocksL_take (K : List UInt8) (c : UInt32) (N : List UInt8) (j k : Nat) (h : j ≤ k) : (blocksL K c N k).take (64 * j) = blocksL K c N j := by
  induction k with
  | zero =>
    obtain rfl : j = 0 := by omega
    rfl
  | succ k ih =>
    by_cases hj : j = k + 1
    · subst hj
      exact List.take_of_length_le (by rw [blocksL_length]; omega)
    · rw [blocksL, List.take_append_of_le_length (by rw [blocksL_length]; omega), ih (by omega)]
theorem mixL_take (a b : List UInt8) (n : Nat) : (mixL a b).take n = mixL (a.take n) (b.take n) := by simp [mixL, List.take_zipWith]
theorem mixL_short (a b : List UInt8) : mixL a b = mixL (a.take b.length) b := by
  conv => lhs; rw [← List.take_of_length_le (l := mixL a b) (i := b.length) (by simp [mixL]; omega), mixL_take, List.take_length]
/-- The beginning of what is hidden hangs on the bytes at its places alone. -/
theorem hideL_take (K N b : List UInt8) (m : Nat) (h : m ≤ b.length) : (hideL K N b).take m = hideL K N (b.take m) := by
  have e1 : (b.take m).length = m := by rw [List.length_take]; omega
  rw [hideL, hideL, streamL, streamL, streamAt_mix, streamAt_mix, mixL_take, e1, mixL_short (blocksL K 1 N ((m + 63) / 64)), e1]
  congr 1
  have h1 := blocksL_take K 1 N ((m + 63) / 64) ((b.length + 63) / 64) (by omega)
  rw [← h1, List.take_take]
  congr 1
  omega
end Go.Proofs.YtnmhfomnlnlflaaDoor
/- Digests with a key, over lists of bytes: what the code and its reference both compute. No condition. -/
namespace Go.Proofs.YtnmhfomnlnlflaaDoor
/-- A key that is too long is its digest. -/
def keyL (K : List UInt8) : List UInt8 := if 64 < K.length then shaL K else K
/-- The key's block. -/
def padL (K : List UInt8) (x : UInt8) : List UInt8 := (keyL K ++ List.replicate (64 - (keyL K).length) 0).map (· ^^^ x)
def hmacL (K l : List UInt8) : List UInt8 := shaL (padL K 0x5C ++ shaL (padL K 0x36 ++ l))
theorem keyL_le (K : List UInt8) : (keyL K).length ≤ 64 := by
  unfold keyL
  split
  · simp
  · omega
@[simp] theorem padL_length (K : List UInt8) (x : UInt8) : (padL K x).length = 64 := by
  have := keyL_le K
  simp [padL]
  omega
@[simp] theorem hmacL_length (K l : List UInt8) : (hmacL K l).length = 32 := by simp [hmacL]
/-- A key of more than sixty-four bytes has the digests of its own digest. -/
theorem hmacL_long {K : List UInt8} (h : 64 < K.length) (l : List UInt8) : hmacL (shaL K) l = hmacL K l := by
  have e1 : keyL (shaL K) = keyL K := by
    unfold keyL
    rw [if_pos h, if_neg (by simp)]
  simp only [hmacL, padL, e1]
/-- A key with noughts behind it, up to as many as fit, has its own. -/
theorem hmacL_noughts {K : List UInt8} {n : Nat} (h : K.length + n ≤ 64) (l : List UInt8) : hmacL (K ++ List.replicate n 0) l = hmacL K l := by
  have e1 : keyL (K ++ List.replicate n 0) = K ++ List.replicate n 0 := by
    unfold keyL
    rw [if_neg (by simp; omega)]
  have e2 : keyL K = K := by
    unfold keyL
    rw [if_neg (by omega)]
  have e3 : ∀ x, padL (K ++ List.replicate n 0) x = padL K x := by
    intro x
    simp only [padL, e1, e2, List.append_assoc, List.length_append, List.length_replicate, List.replicate_append_replicate]
    congr 3
    omega
  simp only [hmacL, e3]
/-- The two digests of the law's example are unlike. -/
theorem keyed_is : (hmacL [107] [120] == hmacL [] [120]) = false := by decide +kernel
end Go.Proofs.YtnmhfomnlnlflaaDoor
/- Keys out of a key, over lists: what the code and its reference both compute. No condition. -/
namespace Go.Proofs.YtnmhfomnlnlflaaDoor
/-- The so-manieth thirty-two bytes; ahead of all there are none. -/
def lastL (K U : List UInt8) : Nat → List UInt8
  | 0 => []
  | i + 1 => hmacL K (lastL K U i ++ U ++ [UInt8.ofNat (i + 1)])
def outL (K U : List UInt8) : Nat → List UInt8
  | 0 => []
  | i + 1 => outL K U i ++ lastL K U (i + 1)
def expandL (K U : List UInt8) (n : Nat) : List UInt8 := (outL K U ((n + 31) / 32)).take n
theorem lastL_succ (K U : List UInt8) (i : Nat) : (lastL K U (i + 1)).length = 32 := by simp [lastL]
theorem lastL_le (K U : List UInt8) (i : Nat) : (lastL K U i).length ≤ 32 := by
  cases i with
  | zero => simp [lastL]
  | succ i => rw [lastL_succ]; omega
theorem outL_length (K U : List UInt8) (i : Nat) : (outL K U i).length = 32 * i := by
  induction i with
  | zero => rfl
  | succ i ih => rw [outL, List.length_append, ih, lastL_succ]; omega
theorem expandL_length (K U : List UInt8) (n : Nat) : (expandL K U n).length = n := by
  rw [expandL, List.length_take, outL_length]
  omega
theorem outL_take (K U : List UInt8) {j k : Nat} (h : j ≤ k) : (outL K U k).take (32 * j) = outL K U j := by
  induction k with
  | zero =>
    obtain rfl : j = 0 := by omega
    rfl
  | succ k ih =>
    by_cases hj : j = k + 1
    · subst hj
      exact List.take_of_length_le (by rw [outL_length]; omega)
    · rw [outL, List.take_append_of_le_length (by rw [outL_length]; omega), ih (by omega)]
/-- Behind as many rounds as it takes the bytes are there. -/
theorem expandL_is (K U : List UInt8) {n k : Nat} (h : n ≤ 32 * k) : (outL K U k).take n = expandL K U n := by
  rw [expandL, ← outL_take K U (show (n + 31) / 32 ≤ k by omega), List.take_take]
  congr 1
  omega
/-- Fewer bytes are the beginning of more. -/
theorem expandL_take (K U : List UInt8) {a b : Nat} (h : a ≤ b) : (expandL K U b).take a = expandL K U a := by
  rw [← expandL_is K U (show a ≤ 32 * ((b + 31) / 32) by omega), expandL, List.take_take]
  congr 1
  omega
theorem expandL_all (K U : List UInt8) (k : Nat) : expandL K U (32 * k) = outL K U k := by
  rw [← expandL_is K U (Nat.le_refl (32 * k)), List.take_of_length_le (by rw [outL_length]; omega)]
/-- Each thirty-two bytes. -/
theorem outL_part (K U : List UInt8) {i k : Nat} (h : i < k) : ((outL K U k).drop (32 * i)).take 32 = lastL K U (i + 1) := by
  have e1 : (outL K U k).take (32 * (i + 1)) = outL K U (i + 1) := outL_take K U (by omega)
  have e2 : ((outL K U k).drop (32 * i)).take 32 = ((outL K U k).take (32 * (i + 1))).drop (32 * i) := by
    rw [List.drop_take]
    congr 1
    omega
  rw [e2, e1, outL, List.drop_append_of_le_length (by rw [outL_length]; omega), List.drop_of_length_le (by rw [outL_length]; omega), List.nil_append]
end Go.Proofs.YtnmhfomnlnlflaaDoor
/- Keys by their uses, over lists: what the code and its reference both compute. No condition. -/
namespace Go.Proofs.YtnmhfomnlnlflaaDoor
def useBlind : List UInt8 := [98, 108, 105, 110, 100]
def useSeal : List UInt8 := [115, 101, 97, 108]
def blindL (M nm : List UInt8) : List UInt8 := hmacL (expandL M useBlind 32) nm
def beL (k x : Nat) : List UInt8 := (leBytes k x).reverse
def sealKL (M : List UInt8) (e : Nat) : List UInt8 := expandL M (useSeal ++ beL 8 e) 32
def nonceL (c k : Nat) : List UInt8 := beL 4 c ++ beL 8 k
@[simp] theorem beL_length (k x : Nat) : (beL k x).length = k := by simp [beL]
@[simp] theorem nonceL_length (c k : Nat) : (nonceL c k).length = 12 := by simp [nonceL]
@[simp] theorem blindL_length (M nm : List UInt8) : (blindL M nm).length = 32 := by simp [blindL]
@[simp] theorem sealKL_length (M : List UInt8) (e : Nat) : (sealKL M e).length = 32 := by simp [sealKL, expandL_length]
theorem beL_inj {k x y : Nat} (hx : x < 256 ^ k) (hy : y < 256 ^ k) (h : beL k x = beL k y) : x = y := by
  have h1 : leBytes k x = leBytes k y := by
    have := congrArg List.reverse h
    simpa [beL] using this
  have h2 := congrArg leNat h1
  rw [leNat_leBytes, leNat_leBytes, Nat.mod_eq_of_lt hx, Nat.mod_eq_of_lt hy] at h2
  exact h2
theorem nonceL_inj {c k d j : Nat} (hc : c < 256 ^ 4) (hd : d < 256 ^ 4) (hk : k < 256 ^ 8) (hj : j < 256 ^ 8) : nonceL c k = nonceL d j ↔ c = d ∧ k = j := by
  constructor
  · intro h
    have h1 := congrArg (List.take 4) h
    have h2 := congrArg (List.drop 4) h
    rw [nonceL, nonceL, List.take_append_of_le_length (by simp), List.take_append_of_le_length (by simp), List.take_of_length_le (by simp), List.take_of_length_le (by simp)] at h1
    rw [nonceL, nonceL, List.drop_append_of_le_length (by simp), List.drop_append_of_le_length (by simp), List.drop_of_length_le (by simp), List.drop_of_length_le (by simp), List.nil_append, List.nil_append] at h2
    exact ⟨beL_inj hc hd h1, beL_inj hk hj h2⟩
  · rintro ⟨rfl, rfl⟩
    rfl
/-- Byte by byte, the first one first, rows of as many bytes are ordered as their numbers. -/
theorem bytesLess_be : ∀ (A B : List UInt8), A.length = B.length → Op.bytesLess A B = decide (leNat A.reverse < leNat B.reverse)
  | [], [], _ => by simp [Op.bytesLess]
  | [], _ :: _, h => by simp at h
  | _ :: _, [], h => by simp at h
  | a :: x, b :: y, h => by
    have hl : x.length = y.length := by simpa using h
    have ih := bytesLess_be x y hl
    have e1 : leNat (a :: x).reverse = leNat x.reverse + 256 ^ x.length * a.toNat := by rw [List.reverse_cons, leNat_snoc, List.length_reverse]
    have e2 : leNat (b :: y).reverse = leNat y.reverse + 256 ^ x.length * b.toNat := by rw [List.reverse_cons, leNat_snoc, List.length_reverse, hl]
    have l1 : leNat x.reverse < 256 ^ x.length := by have := leNat_lt x.reverse; rwa [List.length_reverse] at this
    have l2 : leNat y.reverse < 256 ^ x.length := by have := leNat_lt y.reverse; rwa [List.length_reverse, ← hl] at this
    rw [Op.bytesLess, ih, e1, e2]
    generalize 256 ^ x.length = P at l1 l2
    rcases Nat.lt_trichotomy a.toNat b.toNat with hab | hab | hab
    · have h1 : a < b := UInt8.lt_iff_toNat_lt.2 hab
      have h2 : P * a.toNat + P ≤ P * b.toNat := by
        have := Nat.mul_le_mul_left P (show a.toNat + 1 ≤ b.toNat by omega)
        rwa [Nat.mul_add, Nat.mul_one] at this
      rw [decide_eq_true h1, Bool.true_or, decide_eq_true (by omega)]
    · have h1 : a = b := UInt8.toNat_inj.1 hab
      subst h1
      have h2 : ¬ a < a := by simp
      rw [decide_eq_false h2, Bool.false_or, beq_self_eq_true, Bool.true_and]
      congr 1
      apply propext
      omega
    · have h1 : ¬ a < b := fun h => by have := UInt8.lt_iff_toNat_lt.1 h; omega
      have h2 : (a == b) = false := by
        simp only [beq_eq_false_iff_ne, ne_eq]
        intro h
        rw [h] at hab
        omega
      have h3 : P * b.toNat + P ≤ P * a.toNat := by
        have := Nat.mul_le_mul_left P (show b.toNat + 1 ≤ a.toNat by omega)
        rwa [Nat.mul_add, Nat.mul_one] at this
      rw [decide_eq_false h1, h2, Bool.false_and, Bool.or_self, decide_eq_false (by omega)]
theorem nonceL_less {c a b : Nat} (ha : a < 256 ^ 8) (hb : b < 256 ^ 8) : Op.bytesLess (nonceL c a) (nonceL c b) = decide (a < b) := by
  have h : ∀ x, x < 256 ^ 8 → leNat (nonceL c x).reverse = x + 256 ^ 8 * leNat (leBytes 4 c) := by
    intro x hx
    rw [nonceL, List.reverse_append, beL, beL, List.reverse_reverse, List.reverse_reverse, leNat_append, leNat_leBytes, leBytes_length, Nat.mod_eq_of_lt hx]
  rw [bytesLess_be _ _ (by simp), h a ha, h b hb]
  congr 1
  apply propext
  omega
/-- The client's byte. -/
theorem nonceL_client {c k : Nat} : (nonceL c k)[3]? = some (UInt8.ofNat c) := by
  have h : (leBytes 4 c)[0]? = some (UInt8.ofNat c) := by
    simp [leBytes]
  rw [nonceL, List.getElem?_append_left (by simp), beL, List.getElem?_reverse (by simp)]
  simpa using h
end Go.Proofs.YtnmhfomnlnlflaaDoor
/- A vault, over lists: what the code and its reference both keep and answer. No condition. -/
namespace Go.Proofs.YtnmhfomnlnlflaaDoor
/-- The draw of an ordinal. -/
def drawL (key : List UInt8) (kind n size : Nat) : List UInt8 := beL 8 n ++ streamL key 0 (beL 4 kind ++ beL 8 n) (List.replicate (size - 8) 0)
/-- A sealing. -/
structure Sealing where
  epoch : Nat
  client : Nat
  counter : Nat
  wi : List UInt8
  b : List UInt8
  out : List UInt8
/-- A vault. -/
structure Vt where
  ideal : Bool
  key : List UInt8
  names : List (List UInt8)
  L : List Sealing
def Vt.place (v : Vt) (nm : List UInt8) : Nat := v.names.idxOf nm + 1
def Vt.named (v : Vt) (nm : List UInt8) : Vt := if v.ideal = true ∧ nm ∉ v.names then { v with names := v.names ++ [nm] } else v
def Vt.blind (v : Vt) (nm : List UInt8) : List UInt8 := if v.ideal then drawL v.key 0 (v.place nm) 32 else blindL v.key nm
def Vt.spent (v : Vt) (client counter : Nat) : Prop := ∃ s ∈ v.L, s.client = client ∧ s.counter = counter
def Vt.out (v : Vt) (epoch client counter : Nat) (wi b : List UInt8) : List UInt8 :=
  if v.ideal then drawL v.key 1 (v.L.length + 1) (b.length + 16) else sealL (sealKL v.key epoch) (nonceL client counter) wi b
def Vt.put (v : Vt) (epoch client counter : Nat) (wi b : List UInt8) : Vt := { v with L := v.L ++ [⟨epoch, client, counter, wi, b, v.out epoch client counter wi b⟩] }
/-- May they be? -/
def Right (e c k : Int) : Prop := 1 ≤ e ∧ e ≤ 1048576 ∧ 1 ≤ c ∧ c ≤ 16 ∧ 1 ≤ k ∧ k ≤ 4611686018427387904
instance (e c k : Int) : Decidable (Right e c k) := by unfold Right; infer_instance
/-- Is it what was sealed? -/
def Sealing.same (s : Sealing) (e c k : Nat) (wi out : List UInt8) : Prop := s.epoch = e ∧ s.client = c ∧ s.counter = k ∧ s.wi = wi ∧ s.out = out
/-- What opening answers: bytes, or an error's number. -/
def Vt.opens (v : Vt) (e c k : Nat) (wi s : List UInt8) (r : List UInt8 × Nat) : Prop :=
  if s.length < 16 then r = ([], 2) else
  if v.ideal then (∃ x ∈ v.L, x.same e c k wi s ∧ r = (x.b, 0)) ∨ ((∀ x ∈ v.L, ¬ x.same e c k wi s) ∧ r = ([], 6))
  else if aTag (sealKL v.key e) (nonceL c k) wi (s.take (s.length - 16)) = s.drop (s.length - 16) then r = (hideL (sealKL v.key e) (nonceL c k) (s.take (s.length - 16)), 0) else r = ([], 6)
theorem streamL_len (K : List UInt8) (c : UInt32) (N b : List UInt8) : (streamL K c N b).length = b.length := streamL_length K c N b
@[simp] theorem drawL_length {key : List UInt8} {kind n size : Nat} (h : 8 ≤ size) : (drawL key kind n size).length = size := by
  rw [drawL, List.length_append, beL_length, streamL_len, List.length_replicate]
  omega
theorem drawL_inj {key : List UInt8} {kind n m size : Nat} (hn : n < 256 ^ 8) (hm : m < 256 ^ 8) (h : drawL key kind n size = drawL key kind m size) : n = m := by
  have h1 := congrArg (List.take 8) h
  rw [drawL, drawL, List.take_append_of_le_length (by simp), List.take_append_of_le_length (by simp), List.take_of_length_le (by simp), List.take_of_length_le (by simp)] at h1
  exact beL_inj hn hm h1
end Go.Proofs.YtnmhfomnlnlflaaDoor
/- What a remainder of a converted number is; a slice that is owned whole. No condition. -/
namespace Go.Proofs.YtnmhfomnlnlflaaDoor
open Go.RowKit
theorem wrap_remN (z : Int) (m : Nat) (hm : 0 < m) (hm2 : m < 1000000) : ∃ i : Nat, i < m ∧ wrap64 ((IntKind.u64.wrap z).tmod m) = i := by
  have h0 : 0 ≤ z % 18446744073709551616 := Int.emod_nonneg _ (by omega)
  have h1 := Int.emod_lt_of_pos (z % 18446744073709551616) (b := m) (by omega)
  have h2 := Int.emod_nonneg (z % 18446744073709551616) (b := m) (by omega)
  refine ⟨((z % 18446744073709551616) % m).toNat, by omega, ?_⟩
  rw [IntKind.wrap_u64, Int.tmod_eq_emod_of_nonneg h0, Int.toNat_of_nonneg h2]
  exact IntWalk.wrap64_in _ (by omega)
theorem Arr.of_ownN {w : World} {base : Nat} {e : TypeId} {g n : Nat} {xs : List Value} (h : w.ownsRow base e 1 (.slice (some ⟨g, 0, none⟩) n n) n xs) : Arr w g e xs := by
  obtain ⟨_, h2⟩ := h
  rcases h2 with ⟨h2, _⟩ | ⟨g', cap, cur, h2, _, h3, _, _, h4, h5⟩
  · cases h2
  · injection h2 with h6 h7 h8
    injection h6 with h6
    injection h6 with h6
    subst h6 h8
    rw [Nat.mul_one] at h4 h5
    rw [List.take_of_length_le (by simp [h4])] at h5
    unfold Arr
    rw [← h5]
    exact h3
/-- A byte that is reckoned. -/
theorem byte_of (z : Int) : ∃ y : UInt8, z % 256 = (y.toNat : Int) := ⟨UInt8.ofNat (z % 256).toNat, by rw [UInt8.toNat_ofNat']; omega⟩
theorem alloc32_run (o : Oper) (ev : Operand → Value) (w : World) (h : o.op = .alloc 22) : (execOp ev o).run Tryd.prog w = .ok (.value (.pointer (some ⟨w.heap.size, 0, none⟩))) (w.alloc (.cells (u8s (List.replicate 32 0)).toArray 22)) := by
  unfold execOp
  simp only [h]
  go_simp
  kernel_rfl
end Go.Proofs.YtnmhfomnlnlflaaDoor
/- Slices of slices just made; arrays of thirty-two bytes compared. No condition. -/
namespace Go.Proofs.YtnmhfomnlnlflaaDoor
open Go.RowKit
theorem rd_made {w : World} {g : Nat} (hg : g = w.heap.size) (C : Array Value) (e : TypeId) (fr : Nat × Nat) (n : Nat) (l : List Value) (hC : C.toList = l) (hn : l.length = n) : Rd (w.alloc (.cells C e fr)) (some ⟨g, 0, none⟩) n l := by
  subst hg
  have hs : C.size = n := by rw [← Array.length_toList, hC, hn]
  have hg : (w.alloc (.cells C e fr)).heap[w.heap.size]? = some (.cells C e fr) := by
    show (w.heap.push (.cells C e fr))[w.heap.size]? = _
    simp
  have := Rd.of_row hg 0 n (by omega)
  rwa [hC, List.drop_zero, List.take_of_length_le (by simp [hn])] at this
/-- A slice of one slice. -/
theorem parts1 {w : World} {g : Nat} (hg : g = w.heap.size) (e : TypeId) (p : Part) (h : Rd w p.A p.n (u8s p.l)) (hc : p.n ≤ p.c) : Parts (w.alloc (.cells #[p.val] e)) (some ⟨g, 0, none⟩) 1 [p] :=
  ⟨rd_made hg _ _ _ 1 _ rfl rfl, fun q hq => by simp only [List.mem_singleton] at hq; subst hq; exact ⟨(Gr.alloc _ _).rd h, hc⟩⟩
/-- A slice of slices that lay there. -/
theorem partsN {w : World} {g : Nat} (hg : g = w.heap.size) (e : TypeId) (C : Array Value) (ps : List Part) (n : Nat) (hC : C.toList = ps.map Part.val) (hn : ps.length = n) (h : ∀ p ∈ ps, Rd w p.A p.n (u8s p.l) ∧ p.n ≤ p.c) : Parts (w.alloc (.cells C e)) (some ⟨g, 0, none⟩) n ps :=
  ⟨rd_made hg _ _ _ n _ hC (by simp [hn]), fun q hq => ⟨(Gr.alloc _ _).rd (h q hq).1, (h q hq).2⟩⟩
theorem Arr.rdAllS {w : World} {g : Nat} {t : TypeId} {l : List UInt8} (h : Arr w g t (u8s l)) {n : Nat} (hn : l.length = n) : Rd w (some ⟨g, 0, none⟩) n (u8s l) := by
  subst hn
  have := h.rd 0 l.length (by simp)
  rwa [List.drop_zero, List.take_of_length_le (by simp)] at this
theorem allP_bound {ps : List Part} {s : Nat} (h : ∀ p ∈ ps, p.l.length ≤ s) : (allP ps).length ≤ ps.length * s := by
  induction ps with
  | nil => simp [allP]
  | cons p ps ih =>
    have h1 := h p (by simp)
    have h2 := ih (fun q hq => h q (by simp [hq]))
    have e : allP (p :: ps) = p.l ++ allP ps := by simp [allP]
    rw [e, List.length_append, List.length_cons, Nat.succ_mul]
    omega
/-- A slice of slices that read together as this text. -/
def PartsV (n c : Nat) (l : List UInt8) (v : Value) (w : World) : Prop := ∃ A ps, v = .slice A n c ∧ Parts w A n ps ∧ allP ps = l
theorem PartsV.gr {n c : Nat} {l : List UInt8} {v : Value} {w w' : World} (h : PartsV n c l v w) (g : Gr w w') : PartsV n c l v w' := by
  obtain ⟨A, ps, h1, h2, h3⟩ := h
  exact ⟨A, ps, h1, h2.gr g, h3⟩
theorem run_eqA32 {ev : Operand → Value} {d : Option Tmp} {t : TypeId} {p : String} {af : Array Edge} {gd : Option (Nat × Bool)} {w : World} {x y : Operand} {T : TypeId} {D : List UInt8} (hD : D.length = 32) (h1 : ev x = .agg (u8s D).toArray) (h2 : ev y = .agg (u8s D).toArray) :
    (execOp ev ⟨d, .binOp .eql 22 x y T, t, p, af, gd⟩).run Tryd.prog w = .ok (.value (.bool true)) w := by
  have h3 : (Op.equalIn 10000 22 (.agg (u8s D).toArray) (.agg (u8s D).toArray)).run Tryd.prog w = .ok (D == D) w := run_equalIn_bytes (P := Tryd.prog) w 9998 22 5 32 Tryd.underlying22 Tryd.underlying5 (fun w => by kernel_rfl) D D hD hD
  rw [beq_self_eq_true] at h3
  simp only [execOp, h1, h2]
  go_simp
theorem run_build3S {ev : Operand → Value} {d : Option Tmp} {t : TypeId} {p : String} {af : Array Edge} {gd : Option (Nat × Bool)} {w : World} {x y z : Operand} {A B C : Option Addr} {n c n2 c2 n3 c3 : Nat} (h1 : ev x = .slice A n c) (h2 : ev y = .slice B n2 c2) (h3 : ev z = .slice C n3 c3) :
    (execOp ev ⟨d, .buildSlice 41 3 #[(0, x), (1, y), (2, z)], t, p, af, gd⟩).run Tryd.prog w = .ok (.value (.slice (some ⟨w.heap.size, 0, none⟩) 3 3)) (w.alloc (.cells #[.slice A n c, .slice B n2 c2, .slice C n3 c3] 27)) := by
  simp only [execOp]
  go_simp
theorem eqA32 (D : List UInt8) (hD : D.length = 32) (w : World) : (Op.equalIn 10000 22 (.agg (u8s D).toArray) (.agg (u8s D).toArray)).run Tryd.prog w = .ok true w := by
  have h3 : (Op.equalIn 10000 22 (.agg (u8s D).toArray) (.agg (u8s D).toArray)).run Tryd.prog w = .ok (D == D) w := run_equalIn_bytes (P := Tryd.prog) w 9998 22 5 32 Tryd.underlying22 Tryd.underlying5 (fun w => by kernel_rfl) D D hD hD
  rwa [beq_self_eq_true] at h3
/-- 'append' of one slice in a block of its own, under a guard that says yes. -/
theorem wpList_appW1 {P : Program} (w : World) {ops : Array Oper} {rest : List Oper} {o : Oper} {a : Act} {Q : Exit → Act → World → Prop} (hw : Region.wanted o (yielded ops a.tmps) = true) (s x : Operand) (t : TypeId)
    (ho : o.op = .call { callee := .builtin .append, args := #[s, x], argTypes := #[t, t] })
    (base : Nat) (e : TypeId) (i : TypeInfo) (z : Value) (bytes : Nat) (ht : P.underlying t = some (.slice e)) (hi : P.info? e = some i) (hz : i.zero = some z)
    (hsize : i.size = 1) (hby : i.bytes = bytes) (hzs : z.cells.size = 1)
    (v : Value) (n : Nat) (xs : List Value) (hs : a.eval s = v) (hown : w.ownsRow base e 1 v n xs)
    (y u : Value) (hx : a.eval x = .slice (some ⟨w.heap.size, 0, none⟩) 1 1) (hy : y = u) (h1 : u.oneCell' = true)
    (hbytes : (n + 1) * bytes ≤ 140737488355328) (h63 : n + 1 ≤ maxLen) (hbase : base ≤ w.heap.size)
    (h : ∀ v' w', Apped base e w w' v v' (n + 1) (xs ++ [u]) → wpList P ops Q rest (a.put o.dst v') w') : wpList P ops Q (o :: rest) a (w.alloc (.cells #[y] e)) := by
  subst hy
  refine wpList_step fun K hK => ?_
  rw [if_pos hw]
  refine wp_app (w.alloc (.cells #[y] e)) s x t ho base e i z bytes ht hi hz hsize hby hzs v n xs hs (hown.alloc _) _ 1 1 [y] hx
    ⟨rfl, fun j u hj => ⟨_, rfl, cell_one_new w y e j u hj⟩⟩ (by simpa using h1) hbytes h63 (by simp; omega) fun v' w' hA => hK _ _ (h v' w' ⟨hA.own, ?_, ?_⟩)
  · have h2 := hA.grown
    exact ⟨h2.os, h2.tape, h2.output, by have := h2.size; simp at this; omega, fun k hk hne => (h2.block k (by simp; omega) hne).trans (Below.heap_alloc w _ k hk)⟩
  · rcases hA.lies with e1 | ⟨g, e1, hg⟩
    · exact .inl e1
    · exact .inr ⟨g, e1, by simp at hg; omega⟩
end Go.Proofs.YtnmhfomnlnlflaaDoor
/- Operations of the laws on keys: strings in their order, numbers turned to bytes, remainders. No condition. -/
namespace Go.Proofs.YtnmhfomnlnlflaaDoor
open Go.RowKit
theorem wrap_remB (z : Int) (m : Nat) (hm : 0 < m) (hm2 : m ≤ 4611686018427387904) : ∃ i : Nat, i < m ∧ wrap64 ((IntKind.u64.wrap z).tmod m) = i := by
  have h0 : 0 ≤ z % 18446744073709551616 := Int.emod_nonneg _ (by omega)
  have h1 := Int.emod_lt_of_pos (z % 18446744073709551616) (b := m) (by omega)
  have h2 := Int.emod_nonneg (z % 18446744073709551616) (b := m) (by omega)
  refine ⟨((z % 18446744073709551616) % m).toNat, by omega, ?_⟩
  rw [IntKind.wrap_u64, Int.tmod_eq_emod_of_nonneg h0, Int.toNat_of_nonneg h2]
  exact IntWalk.wrap64_in _ (by omega)
theorem list_of_bytes (l : List UInt8) : (⟨l.toArray⟩ : ByteArray).toList = l := by
  rw [ByteArray.toList_eq]
section
variable {P : Program} {ev : Operand → Value} {d : Option Tmp} {t T U : TypeId} {p : String} {af : Array Edge} {gd : Option (Nat × Bool)} {w : World} {x y : Operand}
theorem run_lssS {a b : List UInt8} (h1 : ev x = .string ⟨a.toArray⟩) (h2 : ev y = .string ⟨b.toArray⟩) :
    (execOp ev ⟨d, .binOp .lss T x y U, t, p, af, gd⟩).run P w = .ok (.value (.bool (Op.bytesLess a b))) w := by
  have e1 := list_of_bytes a
  have e2 := list_of_bytes b
  generalize (⟨a.toArray⟩ : ByteArray) = s at h1 e1
  generalize (⟨b.toArray⟩ : ByteArray) = r at h2 e2
  subst e1 e2
  simp only [execOp, h1, h2]
  go_simp
theorem run_byteN {S : TypeId} (hs : P.underlying S = some (.int .i64)) (hd : P.underlying T = some (.int .u8)) {n : Nat} (hn : n < 256) (h1 : ev x = .int .i64 n) :
    (execOp ev ⟨d, .convert S T x, t, p, af, gd⟩).run P w = .ok (.value (.int .u8 ((UInt8.ofNat n).toNat : Int))) w := by
  have e : (UInt8.ofNat n).toNat = n := by rw [UInt8.toNat_ofNat']; omega
  rw [e]
  simp only [execOp, h1]
  go_simp
  rw [IntKind.wrap_u8]
  omega
end
end Go.Proofs.YtnmhfomnlnlflaaDoor
/- A function's two results: a whole array out of a cell, and a plain value. No condition. -/
namespace Go.Proofs.YtnmhfomnlnlflaaDoor
open Go.RowKit
theorem results_cell_tmp {P : Program} {fn : Func} {p q : Tmp} {ty : TypeId} (h : fn.results = #[.cell p ty, .tmp q]) (tmps : Array Value) (w : World) (g : Nat) (t : TypeId) (cs : Array Value) (fr : Nat × Nat) (d : TypeDesc)
    (hp : tmps.getD p undef = .pointer (some ⟨g, 0, none⟩)) (hg : w.heap[g]? = some (.cells cs t fr))
    (hu : P.underlying ty = some d) (hd : (match d with | .struct _ | .array _ _ => true | _ => false) = true) (hi : (P.info? ty).map (·.size) = some cs.size) :
    (results fn tmps).run P w = .ok (.tuple #[.agg cs, tmps.getD q undef]) w := by
  have hp' : tmps[p]?.getD undef = .pointer (some ⟨g, 0, none⟩) := by simpa using hp
  simp [results, h, hp', asAddr, run_loadVar_row w g t ty cs fr d hg hu hd hi]
end Go.Proofs.YtnmhfomnlnlflaaDoor
/- The walks of keys.Nonce and of the law's example. No condition. -/
namespace Go.Proofs.YtnmhfomnlnlflaaDoor
open Go.RowKit
theorem own_rangeK {w : World} {base : Nat} {e : TypeId} {n : Nat} {v : Value} {l : List UInt8} (h : w.ownsRow base e 1 v n (u8s l)) (hn : 0 < n) :
    ∃ g c, v = .slice (some ⟨g, 0, none⟩) n c ∧ n ≤ c ∧ base ≤ g ∧ g < w.heap.size ∧ w.rangeAt g 0 (u8s l) := by
  obtain ⟨g, c, rfl, hc, hb, hl, _⟩ := own_at h hn
  exact ⟨g, c, rfl, hc, hb, hl, fun j v hv => by have := h.cells (g := g) rfl j v hv; rw [add_row] at this; exact this⟩
theorem info12 (l : List UInt8) (h : l.length = 12) : (Tryd.prog.info? 68).map (·.size) = some (u8s l).length := by simp only [u8s_length, h]; kernel_rfl
theorem infoBl (l : List UInt8) (h : l.length = 32) : (Tryd.prog.info? 31).map (·.size) = some (u8s l).length := by simp only [u8s_length, h]; kernel_rfl
set_option maxRecDepth 100000 in
set_option maxHeartbeats 4000000 in
theorem nonce_any (c k : Nat) (hc1 : 1 ≤ c) (hc2 : c ≤ 16) (hk1 : 1 ≤ k) (hk2 : k ≤ 4611686018427387904) (w : World) :
    Calls Tryd.prog 35 #[.int .i64 (c : Int), .int .i64 (k : Int)] w fun e w' => e = .returned (.tuple #[.agg (u8s (nonceL c k)).toArray, .int .i64 0]) ∧ Below w.heap.size w w' := by
  obtain ⟨i0, hi0, hz0, hz1, hz2⟩ := info_parts Tryd.info5
  obtain ⟨X, hX⟩ : ∃ X, X = nonceL c k := ⟨_, rfl⟩
  have hXl : X.length = 12 := by rw [hX]; simp
  have HX : Hid (u8s (beL 4 c) ++ u8s (beL 8 k) = u8s X) := by
    show _ = _
    rw [hX, nonceL, u8s_append]
  have HP4 : Hid (∀ w, Calls Tryd.prog 33 #[.int .u64 (c : Int), .int .i64 4] w fun e w' => ∃ v, e = .returned v ∧ w'.ownsRow w.heap.size 5 1 v 4 (u8s (beL 4 c)) ∧ Below w.heap.size w w') := fun w => putHigh_any c (by omega) 4 w
  have HP8 : Hid (∀ w, Calls Tryd.prog 33 #[.int .u64 (k : Int), .int .i64 8] w fun e w' => ∃ v, e = .returned v ∧ w'.ownsRow w.heap.size 5 1 v 8 (u8s (beL 8 k)) ∧ Below w.heap.size w w') := fun w => putHigh_any k (by omega) 8 w
  rw [← hX]
  clear hX
  have g1 : ¬ (c : Int) < 1 := by omega
  have g2 : ¬ (16 : Int) < (c : Int) := by omega
  have g3 : ¬ (k : Int) < 1 := by omega
  have g4' : ¬ (4611686018427387904 : Int) < (k : Int) := by omega
  have c16 : (c : Int) ≤ 16 := by omega
  have k62 : (k : Int) ≤ 4611686018427387904 := by omega
  have h4 : Arr (w.alloc (.cells (u8s (List.replicate 12 0)).toArray 68)) w.heap.size 68 (u8s (List.replicate 12 0)) := Arr.newAt rfl rfl
  have G0 : Gr w (w.alloc (.cells (u8s (List.replicate 12 0)).toArray 68)) := Gr.alloc _ _
  go_enter Tryd.func35, Tryd.ntmps35
  go_upto_region 1 with fail
  change Code.wp _ _ _ _ (w.alloc (.cells (u8s (List.replicate 12 0)).toArray 68))
  generalize w.alloc (.cells (u8s (List.replicate 12 0)).toArray 68) = w0 at h4 G0 ⊢
  obtain ⟨g4, hg4⟩ : ∃ g, g = w.heap.size := ⟨_, rfl⟩
  rw [← hg4] at h4
  simp only [← hg4]
  have HG4 := Lib.hid hg4
  clear hg4
  go_wp2_with fail
  refine (HP4.out w0).mono ?_
  rintro e w1 ⟨v1, rfl, ho1, hB1⟩
  go_wp2_with fail
  refine (HP8.out w1).mono ?_
  rintro e w2 ⟨v2, rfl, ho2, hB2⟩
  have ho12 := Gr.own hB2 ho1
  obtain ⟨A2, c2, rfl, _, _⟩ := own_form ho2
  have hr2 := Rd.of_own ho2
  have hB12 : Below w0.heap.size w0 w2 := hB1.trans (hB2.mono hB1.size)
  clear ho1 ho2 hB1 hB2
  go_wp2_with (at_builtin; go_must (refine wpList_app _ rfl (.tmp 24) (.tmp 27) 27 rfl w0.heap.size 5 i0 (.int .u8 0) 1 Tryd.underlying27 hi0 hz0 hz1 hz2 rfl v1 4 _ rfl ho12 A2 8 c2 _ rfl hr2 (u8s_oneCell _) (by omega) (by unfold maxLen; omega) hB12.size ?_))
  intro v3 w3 hA3
  have ho3 := hA3.own
  rw [HX.out] at ho3
  have hB3 := hB12.trans (hA3.below ho12 hB12.size)
  obtain ⟨g3, c3, rfl, hc3, _, _, hrg⟩ := own_rangeK ho3 (by omega)
  have h43 := h4.gr hB3
  have ha := fun w => run_arrAt (P := Tryd.prog) Tryd.underlying68 (A := some ⟨g3, 0, none⟩) (c := c3) (Nat.le_refl 12) w
  clear hA3 ho12 hB12 hr2 ho3 h4
  go_simp
  go_wp2_with first
    | (refine wpList_load_mid rfl 68 (.tmp 30) rfl g3 0 rfl (u8s X) _ hrg Tryd.underlying68 rfl (info12 X hXl) ?_)
    | (refine wpList_put h43 rfl 68 (.tmp 4) (.tmp 31) rfl (u8s X) rfl rfl (by simp [hXl]) (info12 X hXl) (u8s_oneCell _) ?_; intro w4 h44 hB4 _)
  refine bodyPost_ret (results_cell_tmp rfl _ _ g4 _ _ _ _ rfl h44 Tryd.underlying68 rfl (by have := info12 X hXl; simpa using this)) rfl ?_
  rw [HG4.out] at *
  exact ⟨rfl, Below.trans (Below.trans G0 (Below.mono hB3 G0.size)) hB4⟩
set_option maxRecDepth 100000 in
set_option maxHeartbeats 4000000 in
theorem nonce_no (a b : Int) (h : ¬ (1 ≤ a ∧ a ≤ 16 ∧ 1 ≤ b ∧ b ≤ 4611686018427387904)) (w : World) :
    Calls Tryd.prog 35 #[.int .i64 a, .int .i64 b] w fun e w' => e = .returned (.tuple #[.agg (u8s (List.replicate 12 0)).toArray, .int .i64 1]) ∧ Below w.heap.size w w' := by
  have h4 : Arr (w.alloc (.cells (u8s (List.replicate 12 0)).toArray 68)) w.heap.size 68 (u8s (List.replicate 12 0)) := Arr.newAt rfl rfl
  have G0 : Gr w (w.alloc (.cells (u8s (List.replicate 12 0)).toArray 68)) := Gr.alloc _ _
  by_cases h1 : a < 1
  · go_enter Tryd.func35, Tryd.ntmps35
    go_wp2_with (refine wpList_put h4 rfl 68 (.tmp 4) (.tmp 21) rfl (u8s (List.replicate 12 0)) rfl rfl rfl (info12 _ rfl) (u8s_oneCell _) ?_; intro w4 h44 hB4 _)
    refine bodyPost_ret (results_cell_tmp rfl _ _ w.heap.size _ _ _ _ rfl h44 Tryd.underlying68 rfl (by kernel_rfl)) rfl ?_
    exact ⟨rfl, Below.trans G0 hB4⟩
  · by_cases h2 : 16 < a
    · go_enter Tryd.func35, Tryd.ntmps35
      go_wp2_with (refine wpList_put h4 rfl 68 (.tmp 4) (.tmp 21) rfl (u8s (List.replicate 12 0)) rfl rfl rfl (info12 _ rfl) (u8s_oneCell _) ?_; intro w4 h44 hB4 _)
      refine bodyPost_ret (results_cell_tmp rfl _ _ w.heap.size _ _ _ _ rfl h44 Tryd.underlying68 rfl (by kernel_rfl)) rfl ?_
      exact ⟨rfl, Below.trans G0 hB4⟩
    · by_cases h3 : b < 1
      · go_enter Tryd.func35, Tryd.ntmps35
        go_wp2_with (refine wpList_put h4 rfl 68 (.tmp 4) (.tmp 21) rfl (u8s (List.replicate 12 0)) rfl rfl rfl (info12 _ rfl) (u8s_oneCell _) ?_; intro w4 h44 hB4 _)
        refine bodyPost_ret (results_cell_tmp rfl _ _ w.heap.size _ _ _ _ rfl h44 Tryd.underlying68 rfl (by kernel_rfl)) rfl ?_
        exact ⟨rfl, Below.trans G0 hB4⟩
      · have h5 : 4611686018427387904 < b := by omega
        go_enter Tryd.func35, Tryd.ntmps35
        go_wp2_with (refine wpList_put h4 rfl 68 (.tmp 4) (.tmp 21) rfl (u8s (List.replicate 12 0)) rfl rfl rfl (info12 _ rfl) (u8s_oneCell _) ?_; intro w4 h44 hB4 _)
        refine bodyPost_ret (results_cell_tmp rfl _ _ w.heap.size _ _ _ _ rfl h44 Tryd.underlying68 rfl (by kernel_rfl)) rfl ?_
        exact ⟨rfl, Below.trans G0 hB4⟩
set_option maxRecDepth 100000 in
set_option maxHeartbeats 4000000 in
theorem blind_no (M : List UInt8) (A : Option Addr) (n c : Nat) (h : n < 1 ∨ 64 < n) (w : World) :
    Calls Tryd.prog 21 #[.agg (u8s M).toArray, .slice A n c] w fun e w' => e = .returned (.tuple #[.agg (u8s (List.replicate 32 0)).toArray, .int .i64 1]) ∧ Below w.heap.size w w' := by
  have h4 : Arr ((w.alloc (.cells (u8s M).toArray 22)).alloc (.cells (u8s (List.replicate 32 0)).toArray 31)) (w.heap.size + 1) 31 (u8s (List.replicate 32 0)) := Arr.newAt (asz _ _) rfl
  have G0 : Gr w ((w.alloc (.cells (u8s M).toArray 22)).alloc (.cells (u8s (List.replicate 32 0)).toArray 31)) := (Gr.alloc _ _).trans (Gr.alloc _ _)
  by_cases h1 : n < 1
  · have g1 : (n : Int) < 1 := by omega
    go_enter Tryd.func21, Tryd.ntmps21
    go_wp2_with (refine wpList_put h4 rfl 31 (.tmp 4) (.tmp 16) rfl (u8s (List.replicate 32 0)) rfl rfl rfl (infoBl _ rfl) (u8s_oneCell _) ?_; intro w4 h44 hB4 _)
    refine bodyPost_ret (results_cell_tmp rfl _ _ (w.heap.size + 1) _ _ _ _ rfl h44 Tryd.underlying31 rfl (by kernel_rfl)) rfl ?_
    exact ⟨rfl, Below.trans G0 (hB4.mono (by omega))⟩
  · have g1 : ¬ (n : Int) < 1 := by omega
    have g2 : (64 : Int) < (n : Int) := by omega
    go_enter Tryd.func21, Tryd.ntmps21
    go_wp2_with (refine wpList_put h4 rfl 31 (.tmp 4) (.tmp 16) rfl (u8s (List.replicate 32 0)) rfl rfl rfl (infoBl _ rfl) (u8s_oneCell _) ?_; intro w4 h44 hB4 _)
    refine bodyPost_ret (results_cell_tmp rfl _ _ (w.heap.size + 1) _ _ _ _ rfl h44 Tryd.underlying31 rfl (by kernel_rfl)) rfl ?_
    exact ⟨rfl, Below.trans G0 (hB4.mono (by omega))⟩
end Go.Proofs.YtnmhfomnlnlflaaDoor
/- A drawn region with whole arrays stored in it, each into a block of its own: `return a, b`. No condition. -/
namespace Go.Proofs.YtnmhfomnlnlflaaDoor
open Go.RowKit
section
variable {P : Program} {ops : Array Oper} {Q : Exit → Act → World → Prop}
theorem wp_region_cutG (G : World → World → Prop) (hrefl : ∀ w, G w w) (htrans : ∀ a b c, G a b → G b c → G a c) {id : Nat} {a0 : Act} {w0 : World} (hm : P.follows .mixedOrders = true) (L : List (Value → World → Prop)) (z : Nat) (hz : z < ops.size) (htail : tailB ops z = true) (hdom : domB ops z = true) (hB : ssaB ops a0.tmps.size = true)
    (hL : ∀ φ ∈ L, ∀ v w w', φ v w → G w w' → φ v w')
    (hstep : AllFrom (StepL P ops Q a0 w0.drew G L) 0 (ops.toList.take z))
    (hend : ∀ (vs : Nat → Value) w, G w0.drew w → AllFrom (fun i _ => (L.getD i AnyV) (vs i) w) 0 (ops.toList.take z) → wpList P ops Q (ops.toList.drop z) (putAll vs 0 (ops.toList.take z) a0) w) : (Code.region id ops true).wp P Q a0 w0 := by
  have hΦ : ∀ i v (w w' : World), (L.getD i AnyV) v w → G w w' → (L.getD i AnyV) v w' := by
    intro i v w w' h hg
    rcases Nat.lt_or_ge i L.length with hlt | hge
    · simp only [List.getD_eq_getElem?_getD, List.getElem?_eq_getElem hlt, Option.getD_some] at h ⊢
      exact hL _ (List.getElem_mem hlt) v w w' h hg
    · simp only [List.getD_eq_getElem?_getD, List.getElem?_eq_none hge, Option.getD_none] at h ⊢
      exact trivial
  refine wp_region_any hm (wpAny_cut a0 w0.drew (fun i => L.getD i AnyV) G z hz htail hdom htrans hΦ hB ?_ ?_ ops.size (Array.replicate ops.size false) a0 w0.drew (by simp) ?_ ?_ (hrefl _) ⟨rfl, rfl, ?_, fun _ _ => rfl, ?_⟩)
  · intro i o hi hiz a w hg hF
    have h1 := allFrom_get (ops.toList.take z) 0 hstep i o (by rw [List.getElem?_take]; simp [hiz, hi])
    simp only [Nat.zero_add] at h1
    exact h1 a w hg hF
  · intro a w hg hnew hdef hsize hold
    have hch : ∀ i, ∃ v, i < z → (∀ d, ((ops[i]?).bind (fun o : Oper => o.dst)) = some d → a.tmps[d]? = some v) ∧ (L.getD i AnyV) v w := by
      intro i
      by_cases hi : i < z
      · obtain ⟨v, h1, h2⟩ := hnew i _ (Array.getElem?_eq_getElem (by omega : i < ops.size)) hi
        exact ⟨v, fun _ => ⟨fun d hd => h1 d (by simpa [(by omega : i < ops.size)] using hd), h2⟩⟩
      · exact ⟨undef, fun h => absurd h hi⟩
    have hvs := fun i => Classical.choose_spec (hch i)
    have hall : ∀ (os : List Oper) (k : Nat), k + os.length ≤ z → AllFrom (fun i _ => (L.getD i AnyV) (Classical.choose (hch i)) w) k os := by
      intro os
      induction os with
      | nil => intro k _; exact trivial
      | cons o os ih => intro k hk; simp at hk; exact ⟨(hvs k (by omega)).2, ih (k + 1) (by omega)⟩
    have hend' := hend (fun i => Classical.choose (hch i)) w hg (hall _ 0 (by simp; omega))
    have hlen : ∀ j (o : Oper), (ops.toList.take z)[j]? = some o → j < z ∧ ops[j]? = some o := by
      intro j o h
      rw [List.getElem?_take] at h
      split at h
      · exact ⟨by assumption, by simpa using h⟩
      · cases h
    have ha : putAll (fun i => Classical.choose (hch i)) 0 (ops.toList.take z) a0 = a := by
      have h1 := putAll_defers (fun i => Classical.choose (hch i)) (ops.toList.take z) 0 a0
      have h2 := putAll_size (fun i => Classical.choose (hch i)) (ops.toList.take z) 0 a0
      have h3 : (putAll (fun i => Classical.choose (hch i)) 0 (ops.toList.take z) a0).tmps = a.tmps := by
        apply Array.ext_getElem?
        intro t
        by_cases hex : ∃ (j : Nat) (o : Oper), (ops.toList.take z)[j]? = some o ∧ o.dst = some t
        · obtain ⟨j, o, hj0, hd⟩ := hex
          obtain ⟨hjz, hj⟩ := hlen j o hj0
          have hlt : j < ops.size := by omega
          have hb := List.all_eq_true.1 hB j (by simpa using hlt)
          rw [hj] at hb
          simp only [Bool.and_eq_true, hd, decide_eq_true_eq] at hb
          rw [putAll_new _ t (ops.toList.take z) 0 a0 j o hj0 hd hb.1.2 fun k o' hk hd' => ?_, (hvs j hjz).1 t (by rw [hj]; exact hd)]
          · simp
          · rcases Nat.decEq k j with hkj | hkj
            · exfalso
              obtain ⟨hkz, hk'⟩ := hlen k o' hk
              have hltk : k < ops.size := by omega
              have h5 := List.all_eq_true.1 hb.2 k (by simpa using hltk)
              rw [hk'] at h5
              simp [hkj, hd'] at h5
            · exact hkj
        · rw [putAll_old _ t (ops.toList.take z) 0 a0 (fun (o : Oper) ho e => hex (by obtain ⟨j, hj⟩ := List.getElem?_of_mem ho; exact ⟨j, o, hj, e⟩)), hold t fun i o hi hiz e => hex ⟨i, o, by rw [List.getElem?_take]; simp [hiz, hi], e⟩]
      have h4 := hdef
      cases a
      cases hq : putAll (fun i => Classical.choose (hch i)) 0 (ops.toList.take z) a0
      rw [hq] at h1 h3
      simp only at h1 h3 h4
      rw [h1, h3, h4]
    rw [← ha]
    exact hend'
  · unfold unlisted
    rw [List.filter_eq_self.2]
    · simp
    · intro i hi
      simp only [List.mem_range] at hi
      simp [hi]
  · intro k _
    rw [Array.getD_eq_getD_getElem?, Array.getElem?_replicate]
    split <;> simp
  · intro i o hi hl
    exfalso
    rw [Array.getD_eq_getD_getElem?, Array.getElem?_replicate] at hl
    split at hl <;> simp at hl
  · intro i o e hi hl
    exfalso
    rw [Array.getD_eq_getD_getElem?, Array.getElem?_replicate] at hl
    split at hl <;> simp at hl


end
/-- Below B nothing has turned; of S's blocks each holds what it held, or what it is to hold; all others are as they were. -/
structure GM (B : Nat) (S : List (Nat × TypeId × List Value)) (w w' : World) : Prop where
  below : Below B w w'
  other : ∀ g t cs, (∀ s ∈ S, s.1 ≠ g) → Arr w g t cs → Arr w' g t cs
  done : ∀ s ∈ S, Arr w s.1 s.2.1 s.2.2 → Arr w' s.1 s.2.1 s.2.2
  there : ∀ s ∈ S, (∃ cs, cs.length = s.2.2.length ∧ Arr w s.1 s.2.1 cs) → ∃ cs, cs.length = s.2.2.length ∧ Arr w' s.1 s.2.1 cs
section
variable {B : Nat} {S : List (Nat × TypeId × List Value)}
theorem GM.refl (w : World) : GM B S w w := ⟨Below.refl _ _, fun _ _ _ _ h => h, fun _ _ h => h, fun _ _ h => h⟩
theorem GM.trans {a b c : World} (h : GM B S a b) (k : GM B S b c) : GM B S a c :=
  ⟨h.below.trans k.below, fun g t cs hs ha => k.other g t cs hs (h.other g t cs hs ha), fun s hs ha => k.done s hs (h.done s hs ha), fun s hs ha => k.there s hs (h.there s hs ha)⟩
theorem GM.store {w w' : World} {s : Nat × TypeId × List Value} (hs : s ∈ S) (hd : S.Pairwise fun a b => b.1 < a.1) (hB : B ≤ s.1) (ha : Arr w' s.1 s.2.1 s.2.2) (hb : Below s.1 w w')
    (ho : ∀ g t cs, g ≠ s.1 → Arr w g t cs → Arr w' g t cs) : GM B S w w' := by
  have hone : ∀ x ∈ S, x.1 = s.1 → x = s := by
    intro x hx he
    obtain ⟨i, hi, rfl⟩ := List.mem_iff_getElem.1 hx
    obtain ⟨j, hj, rfl⟩ := List.mem_iff_getElem.1 hs
    have hp := List.pairwise_iff_getElem.1 hd
    rcases Nat.lt_trichotomy i j with h | h | h
    · have := hp i j hi hj h; omega
    · subst h; rfl
    · have := hp j i hj hi h; omega
  refine ⟨hb.mono hB, fun g t cs hg hA => ho g t cs (fun e => hg s hs e.symm) hA, fun x hx hA => ?_, fun x hx hA => ?_⟩
  · by_cases he : x.1 = s.1
    · rw [hone x hx he]; exact ha
    · exact ho _ _ _ he hA
  · by_cases he : x.1 = s.1
    · rw [hone x hx he]; exact ⟨_, rfl, ha⟩
    · obtain ⟨cs, h1, h2⟩ := hA
      exact ⟨cs, h1, ho _ _ _ he h2⟩
variable {P : Program} {ops : Array Oper} {Q : Exit → Act → World → Prop} {L : List (Value → World → Prop)} {i : Nat} {o : Oper} {a : Act} {w : World}
theorem g_val (hi : ops[i]? = some o) (hg : o.guard = none) (x : Value) (hφ : L.getD i AnyV = IsV x) (hrun : (execOp a.eval o).run P w = .ok (.value x) w) :
    wpOp P ops Q i (fun a' w' => ∃ v, a' = a.put o.dst v ∧ (L.getD i AnyV) v w' ∧ GM B S w w') a w := by
  rw [hφ]
  unfold wpOp
  have hw : Region.wanted o (yielded ops a.tmps) = true := by simp [Region.wanted, hg]
  simp only [hi, hw, if_true, Oper.wp, hrun, Oper.upon]
  exact .inl ⟨x, rfl, rfl, GM.refl _⟩
theorem g_load (hi : ops[i]? = some o) (hg : o.guard = none) (ty : TypeId) (x : Operand) (ho : o.op = .load ty x) (g : Nat) (hx : a.eval x = .pointer (some ⟨g, 0, none⟩)) (t : TypeId) (cs : List Value) (d : TypeDesc) (hA : Arr w g t cs)
    (hu : P.underlying ty = some d) (hd : d.isRow = true) (hs : (P.info? ty).map (·.size) = some cs.length) (hφ : L.getD i AnyV = IsV (.agg cs.toArray)) :
    wpOp P ops Q i (fun a' w' => ∃ v, a' = a.put o.dst v ∧ (L.getD i AnyV) v w' ∧ GM B S w w') a w := by
  rw [hφ]
  unfold wpOp
  have hw : Region.wanted o (yielded ops a.tmps) = true := by simp [Region.wanted, hg]
  simp only [hi, hw, if_true]
  exact .inl (wp_load_mid ty x ho g 0 hx cs d hA.range hu hd hs ⟨_, rfl, rfl, GM.refl _⟩)
theorem g_store (hi : ops[i]? = some o) (hg : o.guard = none) (ty : TypeId) (x y : Operand) (ho : o.op = .store ty x y) (g : Nat) (t : TypeId) (vs : List Value) (hx : a.eval x = .pointer (some ⟨g, 0, none⟩)) (hy : a.eval y = .agg vs.toArray)
    (hs : (g, t, vs) ∈ S) (hd : S.Pairwise fun a b => b.1 < a.1) (hB : B ≤ g) (ht : ∃ cs, cs.length = vs.length ∧ Arr w g t cs) (hsz : (P.info? ty).map (·.size) = some vs.length) (h1 : ∀ v ∈ vs, v.oneCell' = true)
    (hφ : L.getD i AnyV = fun _ w => Arr w g t vs) :
    wpOp P ops Q i (fun a' w' => ∃ v, a' = a.put o.dst v ∧ (L.getD i AnyV) v w' ∧ GM B S w w') a w := by
  rw [hφ]
  unfold wpOp
  have hw : Region.wanted o (yielded ops a.tmps) = true := by simp [Region.wanted, hg]
  simp only [hi, hw, if_true]
  obtain ⟨cs, hl, hA⟩ := ht
  refine .inl (wp_store_mid ty x y ho g 0 vs.toArray hx hy (by have := hA.there; rw [hl] at this; simpa using this) (by simpa using hsz) (all_oneCell_toArray h1) ?_)
  have hA2 := hA.setAll vs hl.symm
  exact ⟨undef, rfl, hA2, GM.store (s := (g, t, vs)) hs hd hB hA2 (below_setCells (Nat.le_refl _) _ _ _) fun g' t' cs' hne hA' => hA'.setCells_other hne _ _⟩
end
theorem results_cell2_row {P : Program} {fn : Func} {p q : Tmp} {ty ty2 : TypeId} (h : fn.results = #[.cell p ty, .cell q ty2]) (tmps : Array Value) (w : World) (g g2 : Nat) (t t2 : TypeId) (cs cs2 : Array Value) (fr fr2 : Nat × Nat) (d d2 : TypeDesc)
    (hp : tmps.getD p undef = .pointer (some ⟨g, 0, none⟩)) (hg : w.heap[g]? = some (.cells cs t fr))
    (hu : P.underlying ty = some d) (hd : (match d with | .struct _ | .array _ _ => true | _ => false) = true) (hi : (P.info? ty).map (·.size) = some cs.size)
    (hp2 : tmps.getD q undef = .pointer (some ⟨g2, 0, none⟩)) (hg2 : w.heap[g2]? = some (.cells cs2 t2 fr2))
    (hu2 : P.underlying ty2 = some d2) (hd2 : (match d2 with | .struct _ | .array _ _ => true | _ => false) = true) (hi2 : (P.info? ty2).map (·.size) = some cs2.size) :
    (results fn tmps).run P w = .ok (.tuple #[.agg cs, .agg cs2]) w := by
  have hp' : tmps[p]?.getD undef = .pointer (some ⟨g, 0, none⟩) := by simpa using hp
  have hp2' : tmps[q]?.getD undef = .pointer (some ⟨g2, 0, none⟩) := by simpa using hp2
  simp [results, h, hp', hp2', asAddr, run_loadVar_row w g t ty cs fr d hg hu hd hi, run_loadVar_row w g2 t2 ty2 cs2 fr2 d2 hg2 hu2 hd2 hi2]
end Go.Proofs.YtnmhfomnlnlflaaDoor
/- The walks of the document's constants and right. No condition. -/
namespace Go.Proofs.YtnmhfomnlnlflaaDoor
open Go.RowKit
theorem keysL_lit : (u32s keysL).toArray = #[.int .u32 1116352408, .int .u32 1899447441, .int .u32 3049323471, .int .u32 3921009573, .int .u32 961987163, .int .u32 1508970993, .int .u32 2453635748, .int .u32 2870763221, .int .u32 3624381080, .int .u32 310598401, .int .u32 607225278, .int .u32 1426881987, .int .u32 1925078388, .int .u32 2162078206, .int .u32 2614888103, .int .u32 3248222580, .int .u32 3835390401, .int .u32 4022224774, .int .u32 264347078, .int .u32 604807628, .int .u32 770255983, .int .u32 1249150122, .int .u32 1555081692, .int .u32 1996064986, .int .u32 2554220882, .int .u32 2821834349, .int .u32 2952996808, .int .u32 3210313671, .int .u32 3336571891, .int .u32 3584528711, .int .u32 113926993, .int .u32 338241895, .int .u32 666307205, .int .u32 773529912, .int .u32 1294757372, .int .u32 1396182291, .int .u32 1695183700, .int .u32 1986661051, .int .u32 2177026350, .int .u32 2456956037, .int .u32 2730485921, .int .u32 2820302411, .int .u32 3259730800, .int .u32 3345764771, .int .u32 3516065817, .int .u32 3600352804, .int .u32 4094571909, .int .u32 275423344, .int .u32 430227734, .int .u32 506948616, .int .u32 659060556, .int .u32 883997877, .int .u32 958139571, .int .u32 1322822218, .int .u32 1537002063, .int .u32 1747873779, .int .u32 1955562222, .int .u32 2024104815, .int .u32 2227730452, .int .u32 2361852424, .int .u32 2428436474, .int .u32 2756734187, .int .u32 3204031479, .int .u32 3329325298] := by kernel_rfl
theorem startL_lit : (u32s startL).toArray = #[.int .u32 1779033703, .int .u32 3144134277, .int .u32 1013904242, .int .u32 2773480762, .int .u32 1359893119, .int .u32 2600822924, .int .u32 528734635, .int .u32 1541459225] := by kernel_rfl
set_option maxRecDepth 100000 in
theorem refRight_any (x : UInt32) (n : Nat) (hn : n ≤ 32) (w : World) :
    Calls Tryd.prog 93 #[.int .u32 x.toNat, .int .i64 n] w fun e w' => e = .returned (.int .u32 (rr x n).toNat) ∧ w = w' := by
  have he : leftU x (32 - (n : Int)) = rr x n := by
    unfold rr leftU
    congr 2
    omega
  go_enter Tryd.func93, Tryd.ntmps93
  go_wp2_with (go_at_call 102; refine (refLeft_any _ _ _).mono ?_; rintro e w1 ⟨rfl, rfl⟩)
  go_ret
  exact ⟨rfl, rfl⟩
theorem wpList_val {P : Program} {ops : Array Oper} {Q : Exit → Act → World → Prop} {rest : List Oper} {o : Oper} {a : Act} {w : World} (hgd : o.guard = none) (v : Value) (w' : World) (hrun : (execOp a.eval o).run P w = .ok (.value v) w') (h : wpList P ops Q rest (a.put o.dst v) w') : wpList P ops Q (o :: rest) a w := by
  refine wpList_plain hgd fun K hK => ?_
  unfold Oper.wp
  rw [hrun]
  exact hK _ _ h
set_option maxRecDepth 100000 in
set_option maxHeartbeats 4000000 in
theorem constants_any (w : World) :
    Calls Tryd.prog 91 #[] w fun e w' => e = .returned (.tuple #[.agg (u32s keysL).toArray, .agg (u32s startL).toArray]) ∧ Below w.heap.size w w' := by
  go_enter Tryd.func91, Tryd.ntmps91
  go_upto_region 1 with fail
  generalize hW : (w.alloc _).alloc _ = W
  obtain ⟨g0, hg0⟩ : ∃ g, g = w.heap.size := ⟨_, rfl⟩
  obtain ⟨g1, hg1⟩ : ∃ g, g = w.heap.size + 1 := ⟨_, rfl⟩
  have hM0 : Mem g0 w W [(g1, 112, u32s (List.replicate 8 0)), (g0, 130, u32s (List.replicate 64 0))] := by
    have h := ((Mem.nil w).new (t := 130) (C := (u32s (List.replicate 64 0)).toArray) (cs := u32s (List.replicate 64 0)) (Nat.le_refl _) (by simp)).new (t := 112) (C := (u32s (List.replicate 8 0)).toArray) (cs := u32s (List.replicate 8 0)) (Nat.le_refl _) (by simp)
    rw [asz] at h
    rw [← hW, hg0, hg1]
    exact h
  have hB0 : g0 ≤ w.heap.size := by omega
  simp only [← hg1]
  simp only [← hg0]
  have HG := Lib.hid hg0
  clear hW hg0 hg1
  refine wp_region_list ?_
  refine wpList_val rfl (.agg (u32s keysL).toArray) W (by kernel_rfl) ?_
  refine wpList_val rfl (.pointer (some ⟨W.heap.size, 0, none⟩)) (W.alloc (.cells (u32s (List.replicate 64 0)).toArray 130)) (by kernel_rfl) ?_
  refine wpList_newM hM0 hB0 rfl 130 (.tmp 2) (.tmp 4) rfl _ (u32s keysL) (by kernel_rfl) (by kernel_rfl) rfl (by kernel_rfl) (info64 keysL rfl) (u32s_oneCell _) ?_
  intro w3 hM3 _
  generalize W.heap.size = g2 at hM3 ⊢
  unfold wpList
  generalize hKL : (u32s keysL).toArray = KL
  have HKL := Lib.hid hKL
  clear hKL
  go_simp
  go_upto_region 2 with fail
  refine wp_region_list ?_
  refine wpList_val rfl (.agg (u32s startL).toArray) w3 (by kernel_rfl) ?_
  refine wpList_val rfl (.pointer (some ⟨w3.heap.size, 0, none⟩)) (w3.alloc (.cells (u32s (List.replicate 8 0)).toArray 112)) (by kernel_rfl) ?_
  refine wpList_newM hM3 hB0 rfl 112 (.tmp 3) (.tmp 5) rfl _ (u32s startL) (by kernel_rfl) (by kernel_rfl) rfl (by kernel_rfl) (info8 startL rfl) (u32s_oneCell _) ?_
  intro w4 hM4 _
  generalize w3.heap.size = g3 at hM4 ⊢
  unfold wpList
  generalize hSL : (u32s startL).toArray = SL
  have HSL := Lib.hid hSL
  clear hSL
  go_simp
  go_upto_region 3 with fail
  have ha0 := hM4.at_ 3 rfl
  have ha1 := hM4.at_ 2 rfl
  have ha2 := hM4.at_ 1 rfl
  have ha3 := hM4.at_ 0 rfl
  have hdis := hM4.dis
  simp only [List.pairwise_cons, List.mem_cons, List.not_mem_nil, or_false, forall_eq_or_imp, forall_eq] at hdis
  obtain ⟨⟨d32, d31, d30⟩, ⟨d21, d20⟩, d10, _⟩ := hdis
  refine wp_region_cutG (GM g0 [(g0, 130, u32s keysL)]) (fun _ => GM.refl _) (fun _ _ _ => GM.trans) (by kernel_rfl)
    [IsV (.agg KL), IsV (.agg SL), fun _ w => Arr w g0 130 (u32s keysL)] 3 (by decide) (by kernel_rfl) (by kernel_rfl) (by kernel_rfl) ?_ ?_ ?_
  · intro φ hφ v w1 w2 h hg
    simp only [List.mem_cons, List.not_mem_nil, or_false] at hφ
    rcases hφ with rfl | rfl | rfl
    · exact h
    · exact h
    · exact hg.done _ (List.mem_singleton.2 rfl) h
  · refine ⟨?_, ?_, ?_, trivial⟩
    · intro a1 w1 hG hF
      have e2 : a1.eval (.tmp 2) = .pointer (some ⟨g2, 0, none⟩) := hF.ol 2 (by kernel_rfl)
      exact g_load rfl rfl 130 (.tmp 2) rfl g2 e2 130 (u32s keysL) _ (hG.other _ _ _ (by simp; omega) ha2) Tryd.underlying130 rfl (info64 keysL rfl) (by rw [HKL.out]; rfl)
    · intro a1 w1 hG hF
      have e3 : a1.eval (.tmp 3) = .pointer (some ⟨g3, 0, none⟩) := hF.ol 3 (by kernel_rfl)
      exact g_load rfl rfl 112 (.tmp 3) rfl g3 e3 112 (u32s startL) _ (hG.other _ _ _ (by simp; omega) ha3) Tryd.underlying112 rfl (info8 startL rfl) (by rw [HSL.out]; rfl)
    · intro a1 w1 hG hF
      have e0 : a1.eval (.tmp 0) = .pointer (some ⟨g0, 0, none⟩) := hF.ol 0 (by kernel_rfl)
      obtain ⟨_, e6, rfl⟩ := hF.dp 0 6 (by kernel_rfl)
      exact g_store rfl rfl 130 (.tmp 0) (.tmp 6) rfl g0 130 (u32s keysL) e0 (by rw [HKL.out]; exact e6) (List.mem_singleton.2 rfl) (by simp) (Nat.le_refl _) (hG.there _ (List.mem_singleton.2 rfl) ⟨u32s (List.replicate 64 0), by simp [keysL], ha0⟩) (info64 keysL rfl) (u32s_oneCell _) rfl
  · intro vs w1 hG hf
    have z6 : vs 0 = .agg KL := hf.1
    have z7 : vs 1 = .agg SL := hf.2.1
    have hA0 : Arr w1 g0 130 (u32s keysL) := hf.2.2.1
    have hA1 := hG.other _ _ _ (by simp; omega) ha1
    have hb := hG.below
    clear hf
    simp only [List.take_succ_cons, List.take_zero, List.drop_succ_cons, List.drop_zero, putAll, Nat.zero_add, Nat.reduceAdd, z6, z7]
    refine wpList_put hA1 rfl 112 (.tmp 1) (.tmp 7) rfl (u32s startL) (by kernel_rfl) (by rw [HSL.out]; kernel_rfl) (by simp [startL]) (info8 startL rfl) (u32s_oneCell _) ?_
    intro w5 hA5 hb5 ho5
    have hA6 := ho5 _ _ _ (by omega) hA0
    unfold wpList
    go_simp
    go_wp2_with fail
    refine bodyPost_ret (results_cell2_row rfl _ _ g0 g1 _ _ _ _ _ _ _ _ rfl hA6 Tryd.underlying130 rfl (by have := info64 keysL rfl; simpa using this) rfl hA5 Tryd.underlying112 rfl (by have := info8 startL rfl; simpa using this)) rfl ?_
    refine ⟨rfl, ?_⟩
    have h1 := hM4.below
    have h2 := (h1.drew.trans hb).trans (hb5.mono (by omega))
    rw [HG.out] at h2
    exact h2
end Go.Proofs.YtnmhfomnlnlflaaDoor
