/- Digests of 32 bytes, plain: words, rounds, blocks. No program in sight. -/
import Derived.Test.YtmcnnjcbgbdeeaaDoorKitA
namespace Go.Proofs.YtmcnnjcbgbdeeaaDoor
open Go.RowKit
def rr (x : UInt32) (k : Nat) : UInt32 := leftU x (-(k : Int))
def trn (x : UInt32) (a b c : Nat) : UInt32 := rr x a ^^^ rr x b ^^^ rr x c
def mvd (x : UInt32) (a b c : Nat) : UInt32 := rr x a ^^^ rr x b ^^^ (x >>> UInt32.ofNat c)
def keysL : List UInt32 := [0x428a2f98, 0x71374491, 0xb5c0fbcf, 0xe9b5dba5, 0x3956c25b, 0x59f111f1, 0x923f82a4, 0xab1c5ed5,
  0xd807aa98, 0x12835b01, 0x243185be, 0x550c7dc3, 0x72be5d74, 0x80deb1fe, 0x9bdc06a7, 0xc19bf174,
  0xe49b69c1, 0xefbe4786, 0x0fc19dc6, 0x240ca1cc, 0x2de92c6f, 0x4a7484aa, 0x5cb0a9dc, 0x76f988da,
  0x983e5152, 0xa831c66d, 0xb00327c8, 0xbf597fc7, 0xc6e00bf3, 0xd5a79147, 0x06ca6351, 0x14292967,
  0x27b70a85, 0x2e1b2138, 0x4d2c6dfc, 0x53380d13, 0x650a7354, 0x766a0abb, 0x81c2c92e, 0x92722c85,
  0xa2bfe8a1, 0xa81a664b, 0xc24b8b70, 0xc76c51a3, 0xd192e819, 0xd6990624, 0xf40e3585, 0x106aa070,
  0x19a4c116, 0x1e376c08, 0x2748774c, 0x34b0bcb5, 0x391c0cb3, 0x4ed8aa4a, 0x5b9cca4f, 0x682e6ff3,
  0x748f82ee, 0x78a5636f, 0x84c87814, 0x8cc70208, 0x90befffa, 0xa4506ceb, 0xbef9a3f7, 0xc67178f2]
def startL : List UInt32 := [0x6a09e667, 0xbb67ae85, 0x3c6ef372, 0xa54ff53a, 0x510e527f, 0x9b05688c, 0x1f83d9ab, 0x5be0cd19]
def wordB (b : List UInt8) (k : Nat) : UInt32 := UInt32.ofNat (beNat ((b.drop (4 * k)).take 4))
/-- The first words. -/
def wA (b : List UInt8) : Nat → List UInt32
  | 0 => List.replicate 64 0
  | k + 1 => (wA b k).set k (wordB b k)
def wS (l : List UInt32) (k : Nat) : UInt32 := mvd (l.getD (14 + k) 0) 17 19 10 + l.getD (9 + k) 0 + mvd (l.getD (1 + k) 0) 7 18 3 + l.getD k 0
/-- The others. -/
def wB (l : List UInt32) : Nat → List UInt32
  | 0 => l
  | k + 1 => (wB l k).set (16 + k) (wS (wB l k) k)
def schedU (b : List UInt8) : List UInt32 := wB (wA b 16) 48
def rX (v : List UInt32) (k w : UInt32) : UInt32 := v.getD 7 0 + trn (v.getD 4 0) 6 11 25 + (v.getD 4 0 &&& v.getD 5 0 ^^^ ~~~(v.getD 4 0) &&& v.getD 6 0) + k + w
def rY (v : List UInt32) : UInt32 := trn (v.getD 0 0) 2 13 22 + (v.getD 0 0 &&& v.getD 1 0 ^^^ v.getD 0 0 &&& v.getD 2 0 ^^^ v.getD 1 0 &&& v.getD 2 0)
def roundU (v : List UInt32) (k w : UInt32) : List UInt32 :=
  [rX v k w + rY v, v.getD 0 0, v.getD 1 0, v.getD 2 0, v.getD 3 0 + rX v k w, v.getD 4 0, v.getD 5 0, v.getD 6 0]
def rndU (v W : List UInt32) : Nat → List UInt32
  | 0 => v
  | k + 1 => roundU (rndU v W k) (keysL.getD k 0) (W.getD k 0)
def addU (h v : List UInt32) : List UInt32 := List.zipWith (· + ·) h v
def mixU (h : List UInt32) (b : List UInt8) : List UInt32 := addU h (rndU h (schedU b) 64)
/-- The text, its mark, noughts, its count of bits. -/
def padS (l : List UInt8) : List UInt8 := l ++ [0x80] ++ List.replicate ((119 - l.length % 64) % 64) 0 ++ (leBytes 8 (l.length * 8)).reverse
def blkS (p : List UInt8) (k : Nat) : List UInt8 := (p.drop (64 * k)).take 64
def hashN (p : List UInt8) : Nat → List UInt32
  | 0 => startL
  | k + 1 => mixU (hashN p k) (blkS p k)
def outS (h : List UInt32) : List UInt8 := h.flatMap fun x => (leBytes 4 x.toNat).reverse
def shaL (l : List UInt8) : List UInt8 := outS (hashN (padS l) ((padS l).length / 64))
@[simp] theorem wA_length (b : List UInt8) (k : Nat) : (wA b k).length = 64 := by
  induction k with
  | zero => simp [wA]
  | succ k ih => rw [wA, List.length_set, ih]
@[simp] theorem wB_length (l : List UInt32) (k : Nat) : (wB l k).length = l.length := by
  induction k with
  | zero => rfl
  | succ k ih => rw [wB, List.length_set, ih]
@[simp] theorem schedU_length (b : List UInt8) : (schedU b).length = 64 := by rw [schedU, wB_length, wA_length]
@[simp] theorem roundU_length (v : List UInt32) (k w : UInt32) : (roundU v k w).length = 8 := rfl
theorem rndU_length {v : List UInt32} (W : List UInt32) (hv : v.length = 8) (k : Nat) : (rndU v W k).length = 8 := by
  cases k with
  | zero => exact hv
  | succ k => rfl
theorem mixU_length {h : List UInt32} (b : List UInt8) (hh : h.length = 8) : (mixU h b).length = 8 := by rw [mixU, addU, List.length_zipWith, rndU_length _ hh, hh]; rfl
theorem hashN_length (p : List UInt8) (k : Nat) : (hashN p k).length = 8 := by
  induction k with
  | zero => rfl
  | succ k ih => exact mixU_length _ ih
theorem outS_length (h : List UInt32) : (outS h).length = 4 * h.length := by
  unfold outS
  induction h with
  | nil => rfl
  | cons x r ih => rw [List.flatMap_cons, List.length_append, ih]; simp; omega
@[simp] theorem shaL_length (l : List UInt8) : (shaL l).length = 32 := by rw [shaL, outS_length, hashN_length]
theorem padS_length (l : List UInt8) : ∃ k, (padS l).length = 64 * k ∧ 64 * k ≤ l.length + 72 := by
  refine ⟨(l.length + 1 + (119 - l.length % 64) % 64 + 8) / 64, ?_, by omega⟩
  simp only [padS, List.length_append, List.length_cons, List.length_nil, List.length_replicate, List.length_reverse, leBytes_length]
  omega
theorem eightU {l : List UInt32} (h : l.length = 8) : ∃ a b c d e f g i, l = [a, b, c, d, e, f, g, i] := by
  match l, h with
  | [a, b, c, d, e, f, g, i], _ => exact ⟨a, b, c, d, e, f, g, i, rfl⟩
def abcL : List UInt8 := [97, 98, 99]
set_option maxRecDepth 100000 in
theorem abc_is : (shaL abcL).take 8 = [186, 120, 22, 191, 143, 1, 207, 234] ∧ (shaL abcL).drop 28 = [242, 0, 21, 173] := by decide +kernel
end Go.Proofs.YtmcnnjcbgbdeeaaDoor
