/- Single operations, told: a byte of a string, a byte as a number, sums of numbers. No condition. -/
import Derived.Test.YtacodfeflmbheaaU32
namespace Go.Proofs.Ytacodfeflmbheaa
open Go.RowKit
section
variable {P : Program} {ev : Operand → Value} {d : Option Tmp} {t T U S : TypeId} {p : String} {af : Array Edge} {gd : Option (Nat × Bool)} {w : World} {x y : Operand}
theorem run_idxS (hT : P.underlying T = some .string) {s : ByteArray} {k : Nat} {c : UInt8} (h1 : ev x = .string s) (h2 : ev y = .int .i64 k) (hk : k < s.size) (hc : s[k]'hk = c) :
    (execOp ev ⟨d, .index T x y, t, p, af, gd⟩).run P w = .ok (.value (.int .u8 c.toNat)) w := by
  simp only [execOp, h1, h2]
  go_simp
theorem run_u8int (hs : P.underlying S = some (.int .u8)) (hd : P.underlying T = some (.int .i64)) {c : UInt8} (h1 : ev x = .int .u8 c.toNat) :
    (execOp ev ⟨d, .convert S T x, t, p, af, gd⟩).run P w = .ok (.value (.int .i64 (c.toNat : Nat))) w := by
  have h : c.toNat < 256 := c.toNat_lt
  simp only [execOp, h1]
  go_simp
  exact IntWalk.i64_in _ (by omega)
theorem run_addN {a b : Nat} (h1 : ev x = .int .i64 a) (h2 : ev y = .int .i64 b) (hl : a + b ≤ 9223372036854775807) :
    (execOp ev ⟨d, .binOp .add T x y U, t, p, af, gd⟩).run P w = .ok (.value (.int .i64 ((a + b : Nat) : Int))) w := by
  simp only [execOp, h1, h2]
  go_simp
  exact IntWalk.i64_in _ (by omega)
end
end Go.Proofs.Ytacodfeflmbheaa
