/- The walk of the law ChachaBlocks. No condition. -/
import Derived.Test.YthffodfnnjejnaaKitA
import Derived.Test.YthffodfnnjejnaaStreams05
namespace Go.Proofs.Ythffodfnnjejnaa
open Go.RowKit
theorem info24 (l : List UInt8) (h : l.length = 12) : (Try.prog.info? 23).map (·.size) = some (u8s l).length := by simp only [u8s_length, h]; kernel_rfl
theorem info25 (l : List UInt8) (h : l.length = 64) : (Try.prog.info? 47).map (·.size) = some (u8s l).length := by simp only [u8s_length, h]; kernel_rfl
end Go.Proofs.Ythffodfnnjejnaa
