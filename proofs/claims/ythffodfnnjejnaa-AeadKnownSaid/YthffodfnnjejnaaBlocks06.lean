/- The walk of the law PolyBlocks. No condition. -/
import Derived.Test.YthffodfnnjejnaaKitA
import Derived.Test.YthffodfnnjejnaaNought06
namespace Go.Proofs.Ythffodfnnjejnaa
open Go.RowKit
def keyO (e : List UInt8) : List UInt8 := 1 :: List.replicate 15 0 ++ e
theorem tag_one {b e : List UInt8} (hb : b.length = 16) : tagL (keyO e) b = leBytes 16 (leNat b + leNat e) := by
  have e1 : (keyO e).take 16 = 1 :: List.replicate 15 0 := by rw [keyO, List.take_append_of_le_length (by simp), List.take_of_length_le (by simp)]
  have e2 : (keyO e).drop 16 = e := by rw [keyO, List.drop_append_of_le_length (by simp), List.drop_of_length_le (by simp), List.nil_append]
  have e3 : leNat (rL (keyO e)) = 1 := by rw [rL, e1]; decide +kernel
  have e4 : blk b 0 = b := by rw [blk, Nat.mul_zero, List.drop_zero, List.take_of_length_le (by omega)]
  have hlt := leNat_lt b
  rw [hb] at hlt
  have e256 : (256 : Nat) ^ 16 = 340282366920938463463374607431768211456 := by decide +kernel
  rw [e256] at hlt
  have e0 : pH 1 b 0 = 0 := by rw [pH]
  have e5 : pH 1 b 1 = leNat b + 340282366920938463463374607431768211456 := by
    rw [pH, e4, hb, e256, e0, Nat.zero_add, Nat.mul_one]
    exact Nat.mod_eq_of_lt (by show _ < 1361129467683753853853498429727072845819; omega)
  rw [tagL, e3, e2, hb, show (16 + 15) / 16 = 1 from rfl, e5]
  have h1 := leBytes_mod 16 (leNat b + 340282366920938463463374607431768211456 + leNat e) 16 (Nat.le_refl _)
  have h2 := leBytes_mod 16 (leNat b + leNat e) 16 (Nat.le_refl _)
  rw [e256] at h1 h2
  rw [← h1, ← h2, show leNat b + 340282366920938463463374607431768211456 + leNat e = leNat b + leNat e + 340282366920938463463374607431768211456 from Nat.add_right_comm _ _ _, Nat.add_mod_right]
/-- What is over behind r digits. -/
def ovAt (b e : List UInt8) (r : Nat) : Nat := (leNat (b.take r) + leNat (e.take r)) / 256 ^ r
theorem ovAt_le {b e : List UInt8} (r : Nat) (hb : r ≤ b.length) (he : r ≤ e.length) : ovAt b e r ≤ 1 := by
  have h1 := leNat_lt (b.take r)
  have h2 := leNat_lt (e.take r)
  rw [List.length_take, Nat.min_eq_left hb] at h1
  rw [List.length_take, Nat.min_eq_left he] at h2
  have hp := Nat.pow_pos (n := r) (show 0 < 256 by omega)
  have : ovAt b e r < 2 := by rw [ovAt, Nat.div_lt_iff_lt_mul hp]; omega
  omega
theorem ovAt_succ {b e : List UInt8} {r : Nat} {x y : UInt8} (hx : b[r]? = some x) (hy : e[r]? = some y) : ovAt b e (r + 1) = (x.toNat + y.toNat + ovAt b e r) / 256 := by
  have hb : r < b.length := by rcases Nat.lt_or_ge r b.length with h | h; exact h; rw [List.getElem?_eq_none h] at hx; cases hx
  have he : r < e.length := by rcases Nat.lt_or_ge r e.length with h | h; exact h; rw [List.getElem?_eq_none h] at hy; cases hy
  have hp := Nat.pow_pos (n := r) (show 0 < 256 by omega)
  rw [ovAt, take_snoc_ b r x hx, take_snoc_ e r y hy, leNat_snoc, leNat_snoc, List.length_take, List.length_take, Nat.min_eq_left (by omega), Nat.min_eq_left (by omega), Nat.pow_succ, ← Nat.div_div_eq_div_mul]
  congr 1
  rw [show leNat (b.take r) + 256 ^ r * x.toNat + (leNat (e.take r) + 256 ^ r * y.toNat) = leNat (b.take r) + leNat (e.take r) + 256 ^ r * (x.toNat + y.toNat) by rw [Nat.mul_add]; omega, Nat.add_mul_div_left _ _ hp, ovAt]
  omega
theorem leBytes_get (k x i : Nat) (h : i < k) : (leBytes k x)[i]? = some (UInt8.ofNat (x / 256 ^ i)) := by
  induction k generalizing x i with
  | zero => omega
  | succ k ih =>
    rw [leBytes]
    cases i with
    | zero => simp
    | succ i => rw [List.getElem?_cons_succ, ih _ _ (by omega), Nat.div_div_eq_div_mul, Nat.pow_succ, Nat.mul_comm 256]
theorem digit_sum {b e : List UInt8} {r : Nat} {x y : UInt8} (hx : b[r]? = some x) (hy : e[r]? = some y) : (leNat b + leNat e) / 256 ^ r % 256 = (x.toNat + y.toNat + ovAt b e r) % 256 := by
  have hb : r < b.length := by rcases Nat.lt_or_ge r b.length with h | h; exact h; rw [List.getElem?_eq_none h] at hx; cases hx
  have he : r < e.length := by rcases Nat.lt_or_ge r e.length with h | h; exact h; rw [List.getElem?_eq_none h] at hy; cases hy
  have hp := Nat.pow_pos (n := r) (show 0 < 256 by omega)
  have s1 : ∀ (l : List UInt8) (z : UInt8), r < l.length → l[r]? = some z → leNat l = leNat (l.take r) + 256 ^ r * (z.toNat + 256 * leNat (l.drop (r + 1))) := by
    intro l z hl hz
    conv => lhs; rw [← List.take_append_drop r l]
    rw [leNat_append, List.length_take, Nat.min_eq_left (by omega), List.drop_eq_getElem_cons hl, leNat]
    have : l[r] = z := by simpa [hl] using hz
    rw [this]
  rw [s1 b x hb hx, s1 e y he hy, show leNat (b.take r) + 256 ^ r * (x.toNat + 256 * leNat (b.drop (r + 1))) + (leNat (e.take r) + 256 ^ r * (y.toNat + 256 * leNat (e.drop (r + 1)))) = leNat (b.take r) + leNat (e.take r) + 256 ^ r * (x.toNat + y.toNat + 256 * (leNat (b.drop (r + 1)) + leNat (e.drop (r + 1)))) by simp only [Nat.mul_add]; omega,
    Nat.add_mul_div_left _ _ hp, ← ovAt]
  omega
theorem run_conv_u8_i64 {P : Program} {ev : Operand → Value} {d : Option Tmp} {t T S : TypeId} {s : String} {af : Array Edge} {gd : Option (Nat × Bool)} {w : World} {x : Operand} {a : UInt8} (hs : P.underlying S = some (.int .u8)) (hd : P.underlying T = some (.int .i64)) (h1 : ev x = .int .u8 a.toNat) :
    (execOp ev ⟨d, .convert S T x, t, s, af, gd⟩).run P w = .ok (.value (.int .i64 ((a.toNat : Nat) : Int))) w := by
  have h := a.toNat_lt
  simp only [execOp, h1]
  go_simp
  exact IntWalk.i64_in _ (by omega)
theorem run_addI {P : Program} {ev : Operand → Value} {d : Option Tmp} {t T U : TypeId} {s : String} {af : Array Edge} {gd : Option (Nat × Bool)} {w : World} {x y : Operand} {a b : Nat} (h : a + b < 1000000000) (h1 : ev x = .int .i64 a) (h2 : ev y = .int .i64 b) :
    (execOp ev ⟨d, .binOp .add T x y U, t, s, af, gd⟩).run P w = .ok (.value (.int .i64 ((a + b : Nat) : Int))) w := by
  simp only [execOp, h1, h2]
  go_simp
  exact IntWalk.i64_in _ (by omega)
end Go.Proofs.Ythffodfnnjejnaa

