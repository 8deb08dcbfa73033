/- The stream's blocks, in plain Lean. No program, no condition. -/
import Derived.Test.YthffodfnnjejnaaKitA
namespace Go.Proofs.Ythffodfnnjejnaa
open Go.RowKit

def addS (s : List UInt32) (a b : Nat) : List UInt32 := s.set a (s.getD a 0 + s.getD b 0)
def xorS (s : List UInt32) (d a : Nat) (k : Int) : List UInt32 := s.set d (leftU (s.getD d 0 ^^^ s.getD a 0) k)
def halfQ (s : List UInt32) (a b c d : Nat) (m n : Int) : List UInt32 := xorS (addS (xorS (addS s a b) d a m) c d) b c n
def quarterL (s : List UInt32) (a b c d : Nat) : List UInt32 := halfQ (halfQ s a b c d 16 12) a b c d 8 7
@[simp] theorem addS_length (s : List UInt32) (a b : Nat) : (addS s a b).length = s.length := by simp [addS]
@[simp] theorem xorS_length (s : List UInt32) (a b : Nat) (k : Int) : (xorS s a b k).length = s.length := by simp [xorS]
@[simp] theorem halfQ_length (s : List UInt32) (a b c d : Nat) (m n : Int) : (halfQ s a b c d m n).length = s.length := by simp [halfQ]
@[simp] theorem quarterL_length (s : List UInt32) (a b c d : Nat) : (quarterL s a b c d).length = s.length := by simp [quarterL]

theorem Arr.add {w : World} {g : Nat} {t : TypeId} {s : List UInt32} (h : Arr w g t (u32s s)) (a b : Nat) : Arr (w.setCell ⟨g, a, none⟩ (.int .u32 ((s.getD a 0 + s.getD b 0).toNat : Int))) g t (u32s (addS s a b)) := by
  have := h.set a (.int .u32 ((s.getD a 0 + s.getD b 0).toNat : Int))
  rwa [u32s_set] at this
theorem Arr.xor {w : World} {g : Nat} {t : TypeId} {s : List UInt32} (h : Arr w g t (u32s s)) (d a : Nat) (k : Int) : Arr (w.setCell ⟨g, d, none⟩ (.int .u32 ((leftU (s.getD d 0 ^^^ s.getD a 0) k).toNat : Int))) g t (u32s (xorS s d a k)) := by
  have := h.set d (.int .u32 ((leftU (s.getD d 0 ^^^ s.getD a 0) k).toNat : Int))
  rwa [u32s_set] at this
end Go.Proofs.Ythffodfnnjejnaa
