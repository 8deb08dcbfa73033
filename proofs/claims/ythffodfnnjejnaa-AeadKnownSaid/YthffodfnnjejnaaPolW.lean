/- Digits that are put one by one, sums and products of digits, the document's fold: plain Lean. No program, no condition. -/
import Derived.Test.YthffodfnnjejnaaPolV
namespace Go.Proofs.Ythffodfnnjejnaa
open Go.RowKit
abbrev Q130 : Nat := 1361129467683753853853498429727072845824
theorem set_dig (r n v x : Nat) (hx : x = v / 256 ^ r % 256) : (dig r v ++ List.replicate (n + 1) 0).set r x = dig (r + 1) v ++ List.replicate n 0 := by
  subst hx
  rw [List.set_append_right _ _ (by simp), dig_length, Nat.sub_self, List.replicate_succ, List.set_cons_zero, dig_snoc, List.append_assoc]
  rfl
theorem dig_pad (k j v : Nat) (h : v < 256 ^ k) : dig (k + j) v = dig k v ++ List.replicate j 0 := by
  induction j with
  | zero => simp
  | succ j ih =>
    have h1 : v / 256 ^ (k + j) = 0 := by
      refine Nat.div_eq_of_lt (Nat.lt_of_lt_of_le h (Nat.pow_le_pow_right (by omega) (by omega)))
    rw [← Nat.add_assoc, dig_snoc, ih, h1, List.append_assoc, List.replicate_succ']
theorem dig_mod (k v : Nat) : dig k (v % 256 ^ k) = dig k v := by
  have := dig_add k (v % 256 ^ k) (v / 256 ^ k)
  rw [Nat.mod_add_div] at this
  exact this.symm
theorem val256_set {l : List Nat} {i : Nat} (x : Nat) (h : i < l.length) : val256 (l.set i x) + 256 ^ i * l.getD i 0 = val256 l + 256 ^ i * x := by
  induction l generalizing i with
  | nil => simp at h
  | cons a l ih =>
    cases i with
    | zero => simp [val256]; omega
    | succ i =>
      have h1 := ih (i := i) (by simpa using h)
      rw [List.set_cons_succ, val256, val256, List.getD_cons_succ, Nat.pow_succ, Nat.mul_comm (256 ^ i) 256, Nat.mul_assoc, Nat.mul_assoc]
      omega
theorem val256_take (l : List Nat) (k : Nat) : val256 (l.take (k + 1)) = val256 (l.take k) + 256 ^ k * l.getD k 0 := by
  rcases Nat.lt_or_ge k l.length with h | h
  · obtain ⟨x, hx⟩ : ∃ x, l[k]? = some x := ⟨_, List.getElem?_eq_getElem h⟩
    rw [take_snoc_ l k x hx, val256_snoc, List.length_take, Nat.min_eq_left (by omega), List.getD_eq_getElem?_getD, hx]
    rfl
  · rw [List.take_of_length_le (by omega), List.take_of_length_le (by omega), List.getD_eq_getElem?_getD, List.getElem?_eq_none h]
    simp
/-- c times the k first digits of h, added from place i on. -/
def adAt (l h : List Nat) (c i : Nat) : Nat → List Nat
  | 0 => l
  | k + 1 => (adAt l h c i k).set (i + k) ((adAt l h c i k).getD (i + k) 0 + c * h.getD k 0)
@[simp] theorem adAt_length (l h : List Nat) (c i k : Nat) : (adAt l h c i k).length = l.length := by
  induction k with
  | zero => rfl
  | succ k ih => rw [adAt, List.length_set, ih]
theorem adAt_after (l h : List Nat) (c i k j : Nat) (hj : i + k ≤ j) : (adAt l h c i k).getD j 0 = l.getD j 0 := by
  induction k with
  | zero => rfl
  | succ k ih =>
    rw [adAt, List.getD_eq_getElem?_getD, List.getElem?_set_ne (by omega), ← List.getD_eq_getElem?_getD, ih (by omega)]
theorem adAt_le (l h : List Nat) (c i B : Nat) (hB : ∀ k, c * h.getD k 0 ≤ B) (k j : Nat) : (adAt l h c i k).getD j 0 ≤ l.getD j 0 + B := by
  induction k with
  | zero => exact Nat.le_add_right _ _
  | succ k ih =>
    rw [adAt, List.getD_eq_getElem?_getD, List.getElem?_set]
    by_cases h1 : i + k = j
    · rw [if_pos h1]
      split
      · rw [adAt_after _ _ _ _ _ _ (Nat.le_refl _), Option.getD_some, h1]
        have := hB k
        omega
      · simp
    · rw [if_neg h1, ← List.getD_eq_getElem?_getD]; exact ih
theorem adAt_val (l h : List Nat) (c i k : Nat) (hl : i + k ≤ l.length) : val256 (adAt l h c i k) = val256 l + 256 ^ i * (c * val256 (h.take k)) := by
  induction k with
  | zero => simp [adAt, val256]
  | succ k ih =>
    have h1 := val256_set (l := adAt l h c i k) (i := i + k) ((adAt l h c i k).getD (i + k) 0 + c * h.getD k 0) (by simp; omega)
    rw [Nat.mul_add, ih (by omega)] at h1
    rw [adAt, val256_take, Nat.mul_add, Nat.mul_add]
    have h2 : 256 ^ (i + k) * (c * h.getD k 0) = 256 ^ i * (c * (256 ^ k * h.getD k 0)) := by
      rw [Nat.pow_add, Nat.mul_assoc, Nat.mul_left_comm c]
    omega
/-- The product, i rows of it. -/
def prAt (x h r : List Nat) : Nat → List Nat
  | 0 => x
  | i + 1 => adAt (prAt x h r i) r (h.getD i 0) i 17
@[simp] theorem prAt_length (x h r : List Nat) (i : Nat) : (prAt x h r i).length = x.length := by
  induction i with
  | zero => rfl
  | succ i ih => rw [prAt, adAt_length, ih]
theorem prAt_le (x h r : List Nat) (B : Nat) (hB : ∀ i k, h.getD i 0 * r.getD k 0 ≤ B) (i j : Nat) : (prAt x h r i).getD j 0 ≤ x.getD j 0 + i * B := by
  induction i with
  | zero => show x.getD j 0 ≤ _; omega
  | succ i ih =>
    have := adAt_le (prAt x h r i) r (h.getD i 0) i B (hB i) 17 j
    rw [prAt, Nat.succ_mul]
    omega
theorem prAt_val (x h r : List Nat) (i : Nat) (hl : i + 16 ≤ x.length) : val256 (prAt x h r i) = val256 x + val256 (h.take i) * val256 (r.take 17) := by
  induction i with
  | zero => simp [prAt, val256]
  | succ i ih =>
    rw [prAt, adAt_val _ _ _ _ _ (by simp; omega), ih (by omega), val256_take h, Nat.add_mul, Nat.mul_assoc (256 ^ i), Nat.add_assoc]
/-- One round of the fold. -/
def fo (v : Nat) : Nat := v % Q130 + 5 * (v / Q130)
def foN (v : Nat) : Nat → Nat
  | 0 => v
  | k + 1 => fo (foN v k)
theorem fo_mod (v : Nat) : fo v % P130 = v % P130 := by
  have h1 : v = fo v + P130 * (v / Q130) := by
    have := Nat.mod_add_div v Q130
    unfold fo
    have e : Q130 * (v / Q130) = 5 * (v / Q130) + P130 * (v / Q130) := by rw [← Nat.add_mul, show 5 + P130 = Q130 from rfl]
    omega
  conv => rhs; rw [h1, Nat.add_mul_mod_self_left]
theorem foN_mod (v k : Nat) : foN v k % P130 = v % P130 := by
  induction k with
  | zero => rfl
  | succ k ih => rw [foN, fo_mod, ih]
theorem pow17 : (256 : Nat) ^ 17 = 87112285931760246646623899502532662132736 := by decide +kernel
theorem pow16 : (256 : Nat) ^ 16 = 340282366920938463463374607431768211456 := by decide +kernel
theorem pow34 : (256 : Nat) ^ 34 = 7588550360256754183279148073529370729071901715047420004889892225542594864082845696 := by decide +kernel
theorem foN_lt (v : Nat) (hv : v < 256 ^ 34) : foN v 4 < 2 * P130 := by
  have h1 : foN v 1 < 27876000000000000000000000000000000000000000 * 10 := by
    show v % 1361129467683753853853498429727072845824 + 5 * (v / 1361129467683753853853498429727072845824) < _
    rw [pow34] at hv
    omega
  have h2 : foN v 2 < 1361129467683753853853498429727072845824 + 1100000 := by
    show fo (foN v 1) < _
    generalize foN v 1 = a at h1
    show a % 1361129467683753853853498429727072845824 + 5 * (a / 1361129467683753853853498429727072845824) < _
    omega
  have h3 : foN v 3 < 1361129467683753853853498429727072845824 := by
    show fo (foN v 2) < _
    generalize foN v 2 = a at h2
    show a % 1361129467683753853853498429727072845824 + 5 * (a / 1361129467683753853853498429727072845824) < _
    omega
  show fo (foN v 3) < _
  generalize foN v 3 = a at h3
  show a % 1361129467683753853853498429727072845824 + 5 * (a / 1361129467683753853853498429727072845824) < 2 * 1361129467683753853853498429727072845819
  omega
theorem low16 (v : Nat) : dig 16 v = dig 16 (v % Q130) := by
  have e : v = v % Q130 + 256 ^ 16 * (4 * (v / Q130)) := by
    have := Nat.mod_add_div v Q130
    rw [← Nat.mul_assoc, pow16]
    exact this.symm
  conv => lhs; rw [e, dig_add]
theorem low17 (v : Nat) : v / 256 ^ 16 % 256 % 4 = v % Q130 / 256 ^ 16 % 256 := by
  rw [show Q130 = 256 ^ 16 * 4 by decide +kernel, Nat.mod_mul_right_div_self]
  omega
theorem low34 (v : Nat) : dig 34 (v % Q130) = dig 17 (v % Q130) ++ List.replicate 17 0 := by
  refine dig_pad 17 17 _ ?_
  rw [pow17]
  have := Nat.mod_lt v (show Q130 > 0 by decide)
  have : Q130 = 1361129467683753853853498429727072845824 := rfl
  omega
theorem high_div (v i : Nat) : v / Q130 / 256 ^ i = v / 256 ^ (16 + i) / 4 := by
  rw [show Q130 = 256 ^ 16 * 4 by decide +kernel, ← Nat.div_div_eq_div_mul, Nat.div_div_eq_div_mul _ 4, Nat.mul_comm 4, ← Nat.div_div_eq_div_mul, Nat.div_div_eq_div_mul v, ← Nat.pow_add]
theorem high_dig (v i : Nat) : v / Q130 / 256 ^ i % 256 = v / 256 ^ (16 + i) % 256 / 4 + v / 256 ^ (17 + i) % 256 % 4 * 64 := by
  rw [high_div, show 17 + i = 16 + i + 1 by omega, Nat.pow_succ 256 (16 + i), ← Nat.div_div_eq_div_mul]
  omega
theorem high_last (v : Nat) (h : v < 256 ^ 34) : v / Q130 / 256 ^ 17 % 256 = v / 256 ^ 33 % 256 / 4 := by
  rw [high_div]
  have : v / 256 ^ 33 < 256 := by
    rw [Nat.div_lt_iff_lt_mul (Nat.pow_pos (by omega))]
    rw [show 256 * 256 ^ 33 = 256 ^ 34 by decide +kernel]; exact h
  omega
theorem high34 (v : Nat) (h : v < 256 ^ 34) : dig 34 (v / Q130) = dig 18 (v / Q130) ++ List.replicate 16 0 := by
  refine dig_pad 18 16 _ ?_
  rw [pow34] at h
  have : (256 : Nat) ^ 18 = 22300745198530623141535718272648361505980416 := by decide +kernel
  rw [this]
  show v / 1361129467683753853853498429727072845824 < _
  omega
/-- One round of the document's fold, as digits. -/
theorem fold_val (v : Nat) (h : v < 256 ^ 34) : val256 (adAt (dig 34 (v % Q130)) (dig 34 (v / Q130)) 5 0 34) = fo v := by
  rw [adAt_val _ _ _ _ _ (by simp), List.take_of_length_le (by simp), val256_dig, val256_dig, Nat.pow_zero, Nat.one_mul]
  rw [pow34] at h ⊢
  unfold fo
  rw [Nat.mod_eq_of_lt (show v % Q130 < _ by show v % 1361129467683753853853498429727072845824 < _; omega), Nat.mod_eq_of_lt (show v / Q130 < _ by show v / 1361129467683753853853498429727072845824 < _; omega)]
end Go.Proofs.Ythffodfnnjejnaa
