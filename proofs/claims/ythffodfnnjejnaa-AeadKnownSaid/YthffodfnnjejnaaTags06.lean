/- The helper tags() is true. No condition. -/
import Derived.Test.YthffodfnnjejnaaKitA
import Derived.Lib.SlBytesConst
import Derived.Test.YthffodfnnjejnaaPolTag
namespace Go.Proofs.Ythffodfnnjejnaa
open Go.RowKit
theorem rd_marked (w : World) (C : Array Value) (e : TypeId) (fr : Nat × Nat) (n : Nat) (l : List UInt8) (hC : C.toList = u8s l) (hn : l.length = n) : Rd (w.alloc (.cells C e fr)) (some ⟨w.heap.size, 0, none⟩) n (u8s l) := by
  have hs : C.size = n := by rw [← Array.length_toList, hC, u8s_length, hn]
  have hg : (w.alloc (.cells C e fr)).heap[w.heap.size]? = some (.cells C e fr) := by
    show (w.heap.push (.cells C e fr))[w.heap.size]? = _
    simp
  have := Rd.of_row hg 0 n (by omega)
  rwa [hC, List.drop_zero, List.take_of_length_le (by simp [hn])] at this
def keyT : Nat → List UInt8
  | 0 => List.replicate 32 0
  | k + 1 => (keyT k).set (16 + k) (UInt8.ofNat (16 + k))
@[simp] theorem keyT_length (k : Nat) : (keyT k).length = 32 := by
  induction k with
  | zero => rfl
  | succ k ih => rw [keyT, List.length_set, ih]
def abc : List UInt8 := [97, 98, 99]
set_option maxRecDepth 10000 in
theorem tagT_is : tagL (keyT 16) abc = (keyT 16).drop 16 := by decide +kernel
end Go.Proofs.Ythffodfnnjejnaa

