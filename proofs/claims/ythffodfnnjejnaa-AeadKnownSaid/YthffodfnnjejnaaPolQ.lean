/- Tags of the poly layer, in plain Lean: words, loads, parts, the tag. No program, no condition. -/
import Derived.Test.YthffodfnnjejnaaPolP
namespace Go.Proofs.Ythffodfnnjejnaa
open Go.RowKit

theorem or_addL (x c k n : Nat) (hn : n = 2 ^ k) (hx : x < n) : x ||| (c * n) = x + c * n := by
  subst hn
  rw [Nat.mul_comm c]; exact or_add_ x c k hx
theorem pw52 : 4503599627370496 = 2 ^ 52 := by decide +kernel
theorem pw40 : 1099511627776 = 2 ^ 40 := by decide +kernel
/-- The lowest 128 bits of small limbs. -/
def lowU (x : List Nat) : Nat := (x.getD 0 0 ||| x.getD 1 0 * 67108864 % W64) ||| x.getD 2 0 * 4503599627370496 % W64
def highU (x : List Nat) : Nat := (x.getD 2 0 / 4096 ||| x.getD 3 0 * 16384 % W64) ||| x.getD 4 0 * 1099511627776 % W64
theorem lowU_val {a b c d e : Nat} (ha : a < 67108864) (hb : b < 67108864) : lowU [a, b, c, d, e] = a + 67108864 * b + 4503599627370496 * (c % 4096) := by
  show (a ||| b * 67108864 % 18446744073709551616) ||| c * 4503599627370496 % 18446744073709551616 = _
  have e1 : b * 67108864 % 18446744073709551616 = b * 67108864 := by omega
  have e2 : c * 4503599627370496 % 18446744073709551616 = c % 4096 * 4503599627370496 := Nat.mul_mod_mul_right 4503599627370496 c 4096
  rw [e1, e2, or_addL a b 26 67108864 rfl ha, or_addL _ (c % 4096) 52 4503599627370496 pw52 (by omega)]
  omega
theorem highU_val {a b c d e : Nat} (hc : c < 67108864) (hd : d < 67108864) : highU [a, b, c, d, e] = c / 4096 + 16384 * d + 1099511627776 * (e % 16777216) := by
  show (c / 4096 ||| d * 16384 % 18446744073709551616) ||| e * 1099511627776 % 18446744073709551616 = _
  have e1 : d * 16384 % 18446744073709551616 = d * 16384 := by omega
  have e2 : e * 1099511627776 % 18446744073709551616 = e % 16777216 * 1099511627776 := Nat.mul_mod_mul_right 1099511627776 e 16777216
  rw [e1, e2, or_addL _ _ 14 16384 rfl (by omega), or_addL _ (e % 16777216) 40 1099511627776 pw40 (by omega)]
  omega
theorem words_val {a b c d e : Nat} (ha : a < 67108864) (hb : b < 67108864) (hc : c < 67108864) (hd : d < 67108864) (_he : e < 67108864) :
    lowU [a, b, c, d, e] + 18446744073709551616 * highU [a, b, c, d, e] = val5 [a, b, c, d, e] % 340282366920938463463374607431768211456 ∧ lowU [a, b, c, d, e] < 18446744073709551616 ∧ highU [a, b, c, d, e] < 18446744073709551616 := by
  rw [lowU_val ha hb, highU_val hc hd]
  simp only [val5]
  omega
/-- A number of two words and what is above. -/
def loadU (low high above : Nat) : List Nat :=
  [low % 67108864, low / 67108864 % 67108864, (low / 4503599627370496 ||| high * 4096 % W64) % 67108864, high / 16384 % 67108864, high / 1099511627776 ||| above * 16777216 % W64]
theorem loadU_val {low high above : Nat} (hl : low < W64) (hh : high < W64) (ha : above ≤ 1) :
    ∃ a b c d e, loadU low high above = [a, b, c, d, e] ∧ a < 67108864 ∧ b < 67108864 ∧ c < 67108864 ∧ d < 67108864 ∧ e < 67108864 ∧ val5 [a, b, c, d, e] = low + 18446744073709551616 * high + 340282366920938463463374607431768211456 * above := by
  have hl' : low < 18446744073709551616 := hl
  have hh' : high < 18446744073709551616 := hh
  have e1 : (low / 4503599627370496 ||| high * 4096 % 18446744073709551616) = low / 4503599627370496 + 4096 * (high % 4503599627370496) := by
    rw [show high * 4096 % 18446744073709551616 = high % 4503599627370496 * 4096 by omega, or_addL _ _ 12 4096 rfl (by omega)]; omega
  have e2 : (high / 1099511627776 ||| above * 16777216 % 18446744073709551616) = high / 1099511627776 + 16777216 * above := by
    rw [show above * 16777216 % 18446744073709551616 = above * 16777216 by omega, or_addL _ _ 24 16777216 rfl (by omega)]; omega
  refine ⟨_, _, _, _, _, rfl, ?_⟩
  show _ ∧ _ ∧ (low / 4503599627370496 ||| high * 4096 % 18446744073709551616) % 67108864 < _ ∧ _ ∧ (high / 1099511627776 ||| above * 16777216 % 18446744073709551616) < _ ∧ low % 67108864 + 67108864 * (low / 67108864 % 67108864 + 67108864 * ((low / 4503599627370496 ||| high * 4096 % 18446744073709551616) % 67108864 + 67108864 * (high / 16384 % 67108864 + 67108864 * ((high / 1099511627776 ||| above * 16777216 % 18446744073709551616) + 67108864 * 0)))) = _
  rw [e1, e2]
  omega

/-- A part of a text with a 1 behind it. -/
def wideL (b : List UInt8) : List UInt8 := b ++ 1 :: List.replicate (16 - b.length) 0
def partU (b : List UInt8) : List Nat := loadU (leNat ((wideL b).take 8)) (leNat (((wideL b).drop 8).take 8)) ((wideL b).getD 16 0).toNat
theorem leNat_zeros (n : Nat) : leNat (List.replicate n 0) = 0 := by
  induction n with
  | zero => rfl
  | succ n ih => rw [List.replicate_succ, leNat, ih]; rfl
theorem wideL_length {b : List UInt8} (h : b.length ≤ 16) : (wideL b).length = 17 := by simp [wideL]; omega
theorem wideL_val (b : List UInt8) : leNat (wideL b) = leNat b + 256 ^ b.length := by
  rw [wideL, leNat_append, leNat, leNat_zeros]
  simp
theorem wideL_split {b : List UInt8} (h : b.length ≤ 16) : leNat (wideL b) = leNat ((wideL b).take 8) + 18446744073709551616 * leNat (((wideL b).drop 8).take 8) + 340282366920938463463374607431768211456 * ((wideL b).getD 16 0).toNat := by
  have hl := wideL_length h
  generalize wideL b = w at hl ⊢
  have h1 : leNat w = leNat (w.take 8) + 18446744073709551616 * leNat (w.drop 8) := by
    conv => lhs; rw [← List.take_append_drop 8 w]
    rw [leNat_append, List.length_take, hl]
    rfl
  have h2 : leNat (w.drop 8) = leNat ((w.drop 8).take 8) + 18446744073709551616 * leNat ((w.drop 8).drop 8) := by
    conv => lhs; rw [← List.take_append_drop 8 (w.drop 8)]
    rw [leNat_append, List.length_take, List.length_drop, hl]
    rfl
  have h3 : (w.drop 8).drop 8 = [w.getD 16 0] := by
    rw [List.drop_drop, List.drop_eq_getElem_cons (by omega), List.drop_of_length_le (by omega)]
    simp [List.getD_eq_getElem?_getD, hl]
  rw [h3, leNat_one] at h2
  rw [h1, h2]
  generalize leNat (w.take 8) = A
  generalize leNat ((w.drop 8).take 8) = B
  omega
theorem wide_above {b : List UInt8} (h : b.length ≤ 16) : ((wideL b).getD 16 0).toNat ≤ 1 := by
  rw [wideL, List.getD_eq_getElem?_getD, List.getElem?_append_right h]
  rcases Nat.lt_or_ge b.length 16 with h1 | h1
  · obtain ⟨k, hk⟩ : ∃ k, 16 - b.length = k + 1 := ⟨16 - b.length - 1, by omega⟩
    rw [hk, List.getElem?_cons_succ, List.getElem?_replicate]
    split <;> simp
  · rw [show 16 - b.length = 0 by omega]
    simp
theorem partU_val {b : List UInt8} (h : b.length ≤ 16) :
    ∃ a0 a1 a2 a3 a4, partU b = [a0, a1, a2, a3, a4] ∧ a0 < 67108864 ∧ a1 < 67108864 ∧ a2 < 67108864 ∧ a3 < 67108864 ∧ a4 < 67108864 ∧ val5 [a0, a1, a2, a3, a4] = leNat b + 256 ^ b.length := by
  have hl := wideL_length h
  have h1 := leNat_lt ((wideL b).take 8)
  have h2 := leNat_lt (((wideL b).drop 8).take 8)
  rw [List.length_take, hl] at h1
  rw [List.length_take, List.length_drop, hl] at h2
  obtain ⟨a0, a1, a2, a3, a4, e, l0, l1, l2, l3, l4, hv⟩ := loadU_val (low := leNat ((wideL b).take 8)) (high := leNat (((wideL b).drop 8).take 8)) (above := ((wideL b).getD 16 0).toNat) h1 h2 (wide_above h)
  exact ⟨a0, a1, a2, a3, a4, e, l0, l1, l2, l3, l4, by rw [hv, ← wideL_split h, wideL_val]⟩

/-- The k-th part of a text. -/
def blk (b : List UInt8) (k : Nat) : List UInt8 := (b.drop (16 * k)).take 16
theorem blk_length (b : List UInt8) (k : Nat) : (blk b k).length ≤ 16 := by rw [blk, List.length_take]; omega
/-- What the parts come to, by r, modulo the prime. -/
def pH (r : Nat) (b : List UInt8) : Nat → Nat
  | 0 => 0
  | k + 1 => (pH r b k + (leNat (blk b k) + 256 ^ (blk b k).length)) * r % P130
/-- The same by limbs. -/
def hU (r : List Nat) (b : List UInt8) : Nat → List Nat
  | 0 => [0, 0, 0, 0, 0]
  | k + 1 => timesU (plusU (hU r b k) (partU (blk b k))) r
theorem hU_val {r0 r1 r2 r3 r4 : Nat} (b : List UInt8) (l0 : r0 < 67108864) (l1 : r1 < 67108864) (l2 : r2 < 67108864) (l3 : r3 < 67108864) (l4 : r4 < 67108864) (k : Nat) :
    ∃ h0 h1 h2 h3 h4, hU [r0, r1, r2, r3, r4] b k = [h0, h1, h2, h3, h4] ∧ h0 < 67108869 ∧ h1 < 67108864 ∧ h2 < 67108864 ∧ h3 < 67108864 ∧ h4 < 67108864 ∧ val5 [h0, h1, h2, h3, h4] % P130 = pH (val5 [r0, r1, r2, r3, r4]) b k := by
  induction k with
  | zero => exact ⟨0, 0, 0, 0, 0, rfl, by omega, by omega, by omega, by omega, by omega, rfl⟩
  | succ k ih =>
    obtain ⟨h0, h1, h2, h3, h4, e, b0, b1, b2, b3, b4, hv⟩ := ih
    obtain ⟨p0, p1, p2, p3, p4, ep, c0, c1, c2, c3, c4, hp⟩ := partU_val (blk_length b k)
    have hs : plusU [h0, h1, h2, h3, h4] [p0, p1, p2, p3, p4] = [h0 + p0, h1 + p1, h2 + p2, h3 + p3, h4 + p4] := by
      rw [plusU_five] <;> (show _ < 18446744073709551616; omega)
    obtain ⟨a0, a1, a2, a3, a4, ea, d0, d1, d2, d3, d4, hm⟩ := timesU_val (x0 := h0 + p0) (x1 := h1 + p1) (x2 := h2 + p2) (x3 := h3 + p3) (x4 := h4 + p4) (y0 := r0) (y1 := r1) (y2 := r2) (y3 := r3) (y4 := r4)
      (by omega) (by omega) (by omega) (by omega) (by omega) (by omega) (by omega) (by omega) (by omega) (by omega)
    refine ⟨a0, a1, a2, a3, a4, by rw [hU, e, ep, hs, ea], d0, d1, d2, d3, d4, ?_⟩
    rw [hm, pH, ← hv, ← hp]
    have e1 : val5 [h0 + p0, h1 + p1, h2 + p2, h3 + p3, h4 + p4] = val5 [h0, h1, h2, h3, h4] + val5 [p0, p1, p2, p3, p4] := by simp only [val5]; omega
    rw [e1, Nat.mul_mod, Nat.add_mod]
    conv => rhs; rw [Nat.mul_mod, Nat.add_mod, Nat.mod_mod]
/-- The key's r: the kept bits of its first sixteen bytes. -/
def maskR : List UInt8 := [255, 255, 255, 15, 252, 255, 255, 15, 252, 255, 255, 15, 252, 255, 255, 15]
def rL (K : List UInt8) : List UInt8 := List.zipWith (· &&& ·) (K.take 16) maskR
/-- The tag: sixteen bytes. -/
def tagL (K b : List UInt8) : List UInt8 := leBytes 16 (pH (leNat (rL K)) b ((b.length + 15) / 16) + leNat (K.drop 16))
theorem leNat_and : ∀ (a m : List UInt8), a.length = m.length → leNat (List.zipWith (· &&& ·) a m) = leNat a &&& leNat m
  | [], [], _ => rfl
  | x :: a, y :: m, h => by
    rw [List.zipWith_cons_cons, leNat, leNat, leNat, leNat_and a m (by simpa using h), UInt8.toNat_and]
    have hx := x.toNat_lt
    have hy := y.toNat_lt
    apply Nat.eq_of_testBit_eq
    intro i
    have e1 : x.toNat + 256 * leNat a = 2 ^ 8 * leNat a + x.toNat := by omega
    have e2 : y.toNat + 256 * leNat m = 2 ^ 8 * leNat m + y.toNat := by omega
    have hxy : x.toNat &&& y.toNat < 2 ^ 8 := Nat.lt_of_le_of_lt Nat.and_le_left hx
    have e3 : (x.toNat &&& y.toNat) + 256 * (leNat a &&& leNat m) = 2 ^ 8 * (leNat a &&& leNat m) + (x.toNat &&& y.toNat) := by omega
    rw [e1, e2, e3, Nat.testBit_and, Nat.testBit_two_pow_mul_add _ hxy, Nat.testBit_two_pow_mul_add _ hx, Nat.testBit_two_pow_mul_add _ hy]
    split <;> simp [Nat.testBit_and]
theorem leNat_append16 (a b : List UInt8) (h : a.length = 8) : leNat (a ++ b) = leNat a + 18446744073709551616 * leNat b := by
  rw [leNat_append, h]
end Go.Proofs.Ythffodfnnjejnaa
