/- Sealed bytes, over lists: what the code and its reference both compute. No condition. -/
import Derived.Test.YthffodfnnjejnaaStreams2
import Derived.Test.YthffodfnnjejnaaPolTag
import Derived.Test.YthffodfnnjejnaaPadA
namespace Go.Proofs.Ythffodfnnjejnaa
def overL (W C : List UInt8) : List UInt8 := padA W ++ padA C ++ leBytes 8 W.length ++ leBytes 8 C.length
def aTag (K N W C : List UInt8) : List UInt8 := tagL ((blockL K 0 N).take 32) (overL W C)
def hideL (K N b : List UInt8) : List UInt8 := streamL K 1 N b
def sealL (K N W b : List UInt8) : List UInt8 := hideL K N b ++ aTag K N W (hideL K N b)
theorem overL_le (W C : List UInt8) : (overL W C).length ≤ W.length + C.length + 46 := by
  have h1 := padA_le W
  have h2 := padA_le C
  simp [overL]
  omega
@[simp] theorem aTag_length (K N W C : List UInt8) : (aTag K N W C).length = 16 := by simp [aTag, tagL]
@[simp] theorem hideL_length (K N b : List UInt8) : (hideL K N b).length = b.length := streamL_length _ _ _ _
@[simp] theorem sealL_length (K N W b : List UInt8) : (sealL K N W b).length = b.length + 16 := by simp [sealL]
theorem hideL_twice (K N b : List UInt8) : hideL K N (hideL K N b) = b := streamL_twice _ _ _ _
theorem blocksL_take (K : List UInt8) (c : UInt32) (N : List UInt8) (j k : Nat) (h : j ≤ k) : (blocksL K c N k).take (64 * j) = blocksL K c N j := by
  induction k with
  | zero =>
    obtain rfl : j = 0 := by omega
    rfl
  | succ k ih =>
    by_cases hj : j = k + 1
    · subst hj
      exact List.take_of_length_le (by rw [blocksL_length]; omega)
    · rw [blocksL, List.take_append_of_le_length (by rw [blocksL_length]; omega), ih (by omega)]
theorem mixL_take (a b : List UInt8) (n : Nat) : (mixL a b).take n = mixL (a.take n) (b.take n) := by simp [mixL, List.take_zipWith]
theorem mixL_short (a b : List UInt8) : mixL a b = mixL (a.take b.length) b := by
  conv => lhs; rw [← List.take_of_length_le (l := mixL a b) (i := b.length) (by simp [mixL]; omega), mixL_take, List.take_length]
/-- The beginning of what is hidden hangs on the bytes at its places alone. -/
theorem hideL_take (K N b : List UInt8) (m : Nat) (h : m ≤ b.length) : (hideL K N b).take m = hideL K N (b.take m) := by
  have e1 : (b.take m).length = m := by rw [List.length_take]; omega
  rw [hideL, hideL, streamL, streamL, streamAt_mix, streamAt_mix, mixL_take, e1, mixL_short (blocksL K 1 N ((m + 63) / 64)), e1]
  congr 1
  have h1 := blocksL_take K 1 N ((m + 63) / 64) ((b.length + 63) / 64) (by omega)
  rw [← h1, List.take_take]
  congr 1
  omega
end Go.Proofs.Ythffodfnnjejnaa
