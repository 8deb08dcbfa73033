/- The walk of the law PolyNought. No condition. -/
import Derived.Test.YthffodfnnjejnaaTags06
namespace Go.Proofs.Ythffodfnnjejnaa
open Go.RowKit
theorem leBytes_leNat (l : List UInt8) : leBytes l.length (leNat l) = l := by
  induction l with
  | nil => rfl
  | cons c r ih =>
    have hc := c.toNat_lt
    rw [List.length_cons, leBytes, leNat]
    have e1 : (c.toNat + 256 * leNat r) / 256 = leNat r := by omega
    have e2 : UInt8.ofNat (c.toNat + 256 * leNat r) = c := by
      apply UInt8.toNat_inj.1
      rw [UInt8.toNat_ofNat']
      omega
    rw [e1, e2, ih]
theorem pH_zero (b : List UInt8) (k : Nat) : pH 0 b k = 0 := by
  cases k with
  | zero => rfl
  | succ k => rw [pH, Nat.mul_zero]; rfl
theorem tagL_drop {K b : List UInt8} (hK : K.length = 32) (h : pH (leNat (rL K)) b ((b.length + 15) / 16) = 0) : tagL K b = K.drop 16 := by
  have hl : (K.drop 16).length = 16 := by simp [hK]
  have := leBytes_leNat (K.drop 16)
  rw [hl] at this
  rw [tagL, h, Nat.zero_add, this]
theorem tagL_nil {K : List UInt8} (hK : K.length = 32) : tagL K [] = K.drop 16 := tagL_drop hK rfl
def lowAt (K : List UInt8) : Nat → List UInt8
  | 0 => K
  | k + 1 => (lowAt K k).set k 0
@[simp] theorem lowAt_length (K : List UInt8) (k : Nat) : (lowAt K k).length = K.length := by
  induction k with
  | zero => rfl
  | succ k ih => rw [lowAt, List.length_set, ih]
theorem lowAt_is {K : List UInt8} (k : Nat) (h : k ≤ K.length) : lowAt K k = List.replicate k 0 ++ K.drop k := by
  induction k with
  | zero => rfl
  | succ k ih =>
    rw [lowAt, ih (by omega), List.set_append_right _ _ (by simp), List.length_replicate, Nat.sub_self, List.drop_eq_getElem_cons (by omega), List.set_cons_zero, List.replicate_succ', List.append_assoc]
    rfl
theorem tagL_low {K : List UInt8} (hK : K.length = 32) (b : List UInt8) : tagL (lowAt K 16) b = K.drop 16 := by
  have e := lowAt_is (K := K) 16 (by omega)
  have e1 : (lowAt K 16).drop 16 = K.drop 16 := by rw [e, List.drop_append_of_le_length (by simp), List.drop_of_length_le (by simp), List.nil_append]
  have e2 : (lowAt K 16).take 16 = List.replicate 16 0 := by rw [e, List.take_append_of_le_length (by simp), List.take_of_length_le (by simp)]
  have e3 : leNat (rL (lowAt K 16)) = 0 := by rw [rL, e2]; decide
  rw [tagL_drop (by simp [hK]) (by rw [e3]; exact pH_zero _ _), e1]
end Go.Proofs.Ythffodfnnjejnaa

