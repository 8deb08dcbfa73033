/- Numbers as digits of a byte, the lowest first, in plain Lean. No program, no condition. -/
import Derived.Test.YthffodfnnjejnaaPolQ
namespace Go.Proofs.Ythffodfnnjejnaa
open Go.RowKit
def val256 : List Nat → Nat
  | [] => 0
  | a :: l => a + 256 * val256 l
/-- The k lowest digits of a number. -/
def dig : Nat → Nat → List Nat
  | 0, _ => []
  | k + 1, v => v % 256 :: dig k (v / 256)
@[simp] theorem dig_length (k v : Nat) : (dig k v).length = k := by
  induction k generalizing v with
  | zero => rfl
  | succ k ih => rw [dig, List.length_cons, ih]
theorem dig_snoc (k v : Nat) : dig (k + 1) v = dig k v ++ [v / 256 ^ k % 256] := by
  induction k generalizing v with
  | zero => simp [dig]
  | succ k ih =>
    rw [dig, ih (v / 256), dig, List.cons_append, Nat.div_div_eq_div_mul, Nat.pow_succ, Nat.mul_comm 256]
theorem dig_add (k v c : Nat) : dig k (v + 256 ^ k * c) = dig k v := by
  induction k generalizing v with
  | zero => rfl
  | succ k ih =>
    have e1 : (v + 256 ^ (k + 1) * c) % 256 = v % 256 := by
      rw [Nat.pow_succ, Nat.mul_comm (256 ^ k) 256, Nat.mul_assoc, Nat.add_mul_mod_self_left]
    have e2 : (v + 256 ^ (k + 1) * c) / 256 = v / 256 + 256 ^ k * c := by
      rw [Nat.pow_succ, Nat.mul_comm (256 ^ k) 256, Nat.mul_assoc, Nat.add_mul_div_left _ _ (by omega)]
    rw [dig, dig, e1, e2, ih]
theorem val256_dig (k v : Nat) : val256 (dig k v) = v % 256 ^ k := by
  induction k generalizing v with
  | zero => rw [dig, val256, Nat.pow_zero, Nat.mod_one]
  | succ k ih => rw [dig, val256, ih, Nat.pow_succ, Nat.mul_comm (256 ^ k) 256, Nat.mod_mul]
theorem dig_get (k v i : Nat) (h : i < k) : (dig k v).getD i 0 = v / 256 ^ i % 256 := by
  induction k generalizing v i with
  | zero => omega
  | succ k ih =>
    rw [dig]
    cases i with
    | zero => simp
    | succ i => rw [List.getD_cons_succ, ih _ _ (by omega), Nat.div_div_eq_div_mul, Nat.pow_succ, Nat.mul_comm 256]
theorem dig_val {l : List Nat} (h : ∀ x ∈ l, x < 256) : dig l.length (val256 l) = l := by
  induction l with
  | nil => rfl
  | cons a l ih =>
    have ha := h a (by simp)
    rw [List.length_cons, dig, val256, show (a + 256 * val256 l) % 256 = a by omega, show (a + 256 * val256 l) / 256 = val256 l by omega, ih fun x hx => h x (by simp [hx])]
theorem val256_snoc (l : List Nat) (a : Nat) : val256 (l ++ [a]) = val256 l + 256 ^ l.length * a := by
  induction l with
  | nil => simp [val256]
  | cons b l ih =>
    rw [List.cons_append, val256, ih, val256, List.length_cons, Nat.pow_succ, Nat.mul_add, Nat.mul_comm (256 ^ l.length) 256, Nat.mul_assoc]
    omega
/-- Carried, k digits of it; what is over. -/
def crAt (a : List Nat) : Nat → List Nat × Nat
  | 0 => (a, 0)
  | k + 1 => ((crAt a k).1.set k (((crAt a k).1.getD k 0 + (crAt a k).2) % 256), ((crAt a k).1.getD k 0 + (crAt a k).2) / 256)
@[simp] theorem crAt_length (a : List Nat) (k : Nat) : (crAt a k).1.length = a.length := by
  induction k with
  | zero => rfl
  | succ k ih => rw [crAt, List.length_set, ih]
theorem crAt_is (a : List Nat) (k : Nat) (h : k ≤ a.length) : crAt a k = (dig k (val256 (a.take k)) ++ a.drop k, val256 (a.take k) / 256 ^ k) := by
  induction k with
  | zero => simp [crAt, dig, val256]
  | succ k ih =>
    have hk : k < a.length := by omega
    have hp := Nat.pow_pos (n := k) (show 0 < 256 by omega)
    obtain ⟨x, hx⟩ : ∃ x, a[k]? = some x := ⟨_, List.getElem?_eq_getElem hk⟩
    have hxe : a[k] = x := by simpa [hk] using hx
    have e1 : a.take (k + 1) = a.take k ++ [x] := take_snoc_ a k x hx
    have e2 : val256 (a.take (k + 1)) = val256 (a.take k) + 256 ^ k * x := by rw [e1, val256_snoc, List.length_take, Nat.min_eq_left (by omega)]
    have e3 : a.drop k = x :: a.drop (k + 1) := by rw [List.drop_eq_getElem_cons hk, hxe]
    have e4 : (dig k (val256 (a.take k)) ++ a.drop k).getD k 0 = x := by
      rw [e3, List.getD_eq_getElem?_getD, List.getElem?_append_right (by simp)]
      simp
    rw [crAt, ih (by omega)]
    simp only [e4]
    have e5 : (val256 (a.take k) + 256 ^ k * x) / 256 ^ k = x + val256 (a.take k) / 256 ^ k := by
      rw [Nat.add_mul_div_left _ _ hp, Nat.add_comm]
    rw [e2, e3, List.set_append_right _ _ (by simp), dig_length, Nat.sub_self, List.set_cons_zero, dig_snoc, dig_add, e5, List.append_assoc, List.singleton_append, Nat.pow_succ, ← Nat.div_div_eq_div_mul, e5]
/-- Carried: the digits of the value. -/
theorem crAt_all {a : List Nat} {n : Nat} (h : a.length = n) : (crAt a n).1 = dig n (val256 a) := by
  rw [crAt_is a n (by omega)]
  simp only
  rw [List.take_of_length_le (by omega), List.drop_of_length_le (by omega), List.append_nil]
/-- All digits are small numbers. -/
def Lt40 (l : List Nat) : Prop := ∀ i, l.getD i 0 < 1099511627776
theorem Lt40.set {l : List Nat} (h : Lt40 l) (k : Nat) {v : Nat} (hv : v < 1099511627776) : Lt40 (l.set k v) := by
  intro i
  rw [List.getD_eq_getElem?_getD, List.getElem?_set]
  split
  · split
    · exact hv
    · simp
  · have := h i
    rwa [List.getD_eq_getElem?_getD] at this
theorem crAt_lt {a : List Nat} (h : Lt40 a) (k : Nat) : Lt40 (crAt a k).1 ∧ (crAt a k).2 < 1099511627776 := by
  induction k with
  | zero => exact ⟨h, by show 0 < _; omega⟩
  | succ k ih =>
    have h1 := ih.1 k
    have h2 := ih.2
    refine ⟨ih.1.set k (by omega), ?_⟩
    show ((crAt a k).1.getD k 0 + (crAt a k).2) / 256 < _
    omega
theorem dig_lt (k v : Nat) : Lt40 (dig k v) := by
  intro i
  rcases Nat.lt_or_ge i k with h | h
  · rw [dig_get k v i h]
    have := Nat.mod_lt (v / 256 ^ i) (show 256 > 0 by omega)
    omega
  · rw [List.getD_eq_getElem?_getD, List.getElem?_eq_none (by simp; omega)]
    show 0 < _
    omega
end Go.Proofs.Ythffodfnnjejnaa
