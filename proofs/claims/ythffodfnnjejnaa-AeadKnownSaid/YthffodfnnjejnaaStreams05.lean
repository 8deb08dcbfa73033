/- The helper streams() is true. No condition. -/
import Derived.Test.YthffodfnnjejnaaRefBlock
import Derived.Test.YthffodfnnjejnaaKitA
namespace Go.Proofs.Ythffodfnnjejnaa
open Go.RowKit
def key1 : List UInt8 := [1, 0, 0, 0, 0, 0, 0, 0, 0, 0, 0, 0, 0, 0, 0, 0, 0, 0, 0, 0, 0, 0, 0, 0, 0, 0, 0, 0, 0, 0, 0, 0]
def noughts12 : List UInt8 := [0, 0, 0, 0, 0, 0, 0, 0, 0, 0, 0, 0]
def b1 : List UInt8 := [197, 211, 10, 124, 225, 236, 17, 147, 120, 200, 79, 72, 125, 119, 90, 133, 66, 241, 62, 206, 35, 138, 148, 85, 232, 34, 158, 136, 141, 232, 91, 189, 41, 235, 99, 208, 161, 122, 91, 153, 155, 82, 218, 34, 190, 64, 35, 235, 7, 98, 10, 84, 246, 250, 106, 216, 115, 123, 113, 235, 4, 100, 218, 192]
def b2 : List UInt8 := [16, 246, 86, 230, 209, 253, 85, 5, 62, 80, 196, 135, 92, 153, 48, 163, 63, 109, 2, 99, 189, 20, 223, 214, 171, 140, 112, 82, 28, 25, 51, 139, 35, 8, 185, 92, 248, 208, 187, 125, 32, 45, 33, 2, 120, 14, 163, 82, 143, 28, 180, 133, 96, 247, 107, 32, 243, 130, 185, 66, 80, 15, 206, 172]
set_option maxRecDepth 10000 in
theorem b1_is : blockL key1 0 noughts12 = b1 := by decide +kernel
set_option maxRecDepth 10000 in
theorem b2_is : blockL key1 1 noughts12 = b2 := by decide +kernel
theorem key1_lit : (u8s key1).toArray = #[.int .u8 1, .int .u8 0, .int .u8 0, .int .u8 0, .int .u8 0, .int .u8 0, .int .u8 0, .int .u8 0, .int .u8 0, .int .u8 0, .int .u8 0, .int .u8 0, .int .u8 0, .int .u8 0, .int .u8 0, .int .u8 0, .int .u8 0, .int .u8 0, .int .u8 0, .int .u8 0, .int .u8 0, .int .u8 0, .int .u8 0, .int .u8 0, .int .u8 0, .int .u8 0, .int .u8 0, .int .u8 0, .int .u8 0, .int .u8 0, .int .u8 0, .int .u8 0] := by kernel_rfl
theorem noughts12_lit : (u8s noughts12).toArray = #[.int .u8 0, .int .u8 0, .int .u8 0, .int .u8 0, .int .u8 0, .int .u8 0, .int .u8 0, .int .u8 0, .int .u8 0, .int .u8 0, .int .u8 0, .int .u8 0] := by kernel_rfl
theorem toNat_u32_0 : ((0 : UInt32).toNat : Int) = 0 := rfl
theorem toNat_u32_1 : ((1 : UInt32).toNat : Int) = 1 := rfl
end Go.Proofs.Ythffodfnnjejnaa
