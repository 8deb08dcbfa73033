/- Keys out of a key, over lists: what the code and its reference both compute. No condition. -/
import Derived.Test.YtficbedibjgoeaaDoorHmacP
namespace Go.Proofs.YtficbedibjgoeaaDoor
/-- The so-manieth thirty-two bytes; ahead of all there are none. -/
def lastL (K U : List UInt8) : Nat → List UInt8
  | 0 => []
  | i + 1 => hmacL K (lastL K U i ++ U ++ [UInt8.ofNat (i + 1)])
def outL (K U : List UInt8) : Nat → List UInt8
  | 0 => []
  | i + 1 => outL K U i ++ lastL K U (i + 1)
def expandL (K U : List UInt8) (n : Nat) : List UInt8 := (outL K U ((n + 31) / 32)).take n
theorem lastL_succ (K U : List UInt8) (i : Nat) : (lastL K U (i + 1)).length = 32 := by simp [lastL]
theorem lastL_le (K U : List UInt8) (i : Nat) : (lastL K U i).length ≤ 32 := by
  cases i with
  | zero => simp [lastL]
  | succ i => rw [lastL_succ]; omega
theorem outL_length (K U : List UInt8) (i : Nat) : (outL K U i).length = 32 * i := by
  induction i with
  | zero => rfl
  | succ i ih => rw [outL, List.length_append, ih, lastL_succ]; omega
theorem expandL_length (K U : List UInt8) (n : Nat) : (expandL K U n).length = n := by
  rw [expandL, List.length_take, outL_length]
  omega
theorem outL_take (K U : List UInt8) {j k : Nat} (h : j ≤ k) : (outL K U k).take (32 * j) = outL K U j := by
  induction k with
  | zero =>
    obtain rfl : j = 0 := by omega
    rfl
  | succ k ih =>
    by_cases hj : j = k + 1
    · subst hj
      exact List.take_of_length_le (by rw [outL_length]; omega)
    · rw [outL, List.take_append_of_le_length (by rw [outL_length]; omega), ih (by omega)]
/-- Behind as many rounds as it takes the bytes are there. -/
theorem expandL_is (K U : List UInt8) {n k : Nat} (h : n ≤ 32 * k) : (outL K U k).take n = expandL K U n := by
  rw [expandL, ← outL_take K U (show (n + 31) / 32 ≤ k by omega), List.take_take]
  congr 1
  omega
/-- Fewer bytes are the beginning of more. -/
theorem expandL_take (K U : List UInt8) {a b : Nat} (h : a ≤ b) : (expandL K U b).take a = expandL K U a := by
  rw [← expandL_is K U (show a ≤ 32 * ((b + 31) / 32) by omega), expandL, List.take_take]
  congr 1
  omega
theorem expandL_all (K U : List UInt8) (k : Nat) : expandL K U (32 * k) = outL K U k := by
  rw [← expandL_is K U (Nat.le_refl (32 * k)), List.take_of_length_le (by rw [outL_length]; omega)]
/-- Each thirty-two bytes. -/
theorem outL_part (K U : List UInt8) {i k : Nat} (h : i < k) : ((outL K U k).drop (32 * i)).take 32 = lastL K U (i + 1) := by
  have e1 : (outL K U k).take (32 * (i + 1)) = outL K U (i + 1) := outL_take K U (by omega)
  have e2 : ((outL K U k).drop (32 * i)).take 32 = ((outL K U k).take (32 * (i + 1))).drop (32 * i) := by
    rw [List.drop_take]
    congr 1
    omega
  rw [e2, e1, outL, List.drop_append_of_le_length (by rw [outL_length]; omega), List.drop_of_length_le (by rw [outL_length]; omega), List.nil_append]
end Go.Proofs.YtficbedibjgoeaaDoor
