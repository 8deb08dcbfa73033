/- Noughts up to a multiple of sixteen. No condition. -/
import Derived.Test.YthffodfnnjejnaaKitA
namespace Go.Proofs.Ythffodfnnjejnaa
/-- Noughts up to a multiple of sixteen. -/
def padA (b : List UInt8) : List UInt8 := b ++ List.replicate ((16 - b.length % 16) % 16) 0
/-- Bytes with so many noughts behind them. -/
def padN (b : List UInt8) (k : Nat) : List UInt8 := b ++ List.replicate k 0
theorem padN_succ (b : List UInt8) (k : Nat) : padN b (k + 1) = padN b k ++ [0] := by
  simp [padN, List.replicate_succ']
theorem padN_length (b : List UInt8) (k : Nat) : (padN b k).length = b.length + k := by simp [padN]
/-- So many noughts as make a multiple of sixteen, for the first time. -/
theorem padN_all {b : List UInt8} {k : Nat} (h : (b.length + k) % 16 = 0) (hk : k < 16) : padN b k = padA b := by
  rw [padN, padA]
  congr 2
  omega
theorem padA_le (b : List UInt8) : (padA b).length ≤ b.length + 15 := by
  simp [padA]
  omega
end Go.Proofs.Ythffodfnnjejnaa
