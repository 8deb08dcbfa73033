/- Digests with a key, over lists of bytes: what the code and its reference both compute. No condition. -/
import Derived.Test.YtficbedibjgoeaaDoorShaP
namespace Go.Proofs.YtficbedibjgoeaaDoor
/-- A key that is too long is its digest. -/
def keyL (K : List UInt8) : List UInt8 := if 64 < K.length then shaL K else K
/-- The key's block. -/
def padL (K : List UInt8) (x : UInt8) : List UInt8 := (keyL K ++ List.replicate (64 - (keyL K).length) 0).map (· ^^^ x)
def hmacL (K l : List UInt8) : List UInt8 := shaL (padL K 0x5C ++ shaL (padL K 0x36 ++ l))
theorem keyL_le (K : List UInt8) : (keyL K).length ≤ 64 := by
  unfold keyL
  split
  · simp
  · omega
@[simp] theorem padL_length (K : List UInt8) (x : UInt8) : (padL K x).length = 64 := by
  have := keyL_le K
  simp [padL]
  omega
@[simp] theorem hmacL_length (K l : List UInt8) : (hmacL K l).length = 32 := by simp [hmacL]
/-- A key of more than sixty-four bytes has the digests of its own digest. -/
theorem hmacL_long {K : List UInt8} (h : 64 < K.length) (l : List UInt8) : hmacL (shaL K) l = hmacL K l := by
  have e1 : keyL (shaL K) = keyL K := by
    unfold keyL
    rw [if_pos h, if_neg (by simp)]
  simp only [hmacL, padL, e1]
/-- A key with noughts behind it, up to as many as fit, has its own. -/
theorem hmacL_noughts {K : List UInt8} {n : Nat} (h : K.length + n ≤ 64) (l : List UInt8) : hmacL (K ++ List.replicate n 0) l = hmacL K l := by
  have e1 : keyL (K ++ List.replicate n 0) = K ++ List.replicate n 0 := by
    unfold keyL
    rw [if_neg (by simp; omega)]
  have e2 : keyL K = K := by
    unfold keyL
    rw [if_neg (by omega)]
  have e3 : ∀ x, padL (K ++ List.replicate n 0) x = padL K x := by
    intro x
    simp only [padL, e1, e2, List.append_assoc, List.length_append, List.length_replicate, List.replicate_append_replicate]
    congr 3
    omega
  simp only [hmacL, e3]
/-- The two digests of the law's example are unlike. -/
theorem keyed_is : (hmacL [107] [120] == hmacL [] [120]) = false := by decide +kernel
end Go.Proofs.YtficbedibjgoeaaDoor
