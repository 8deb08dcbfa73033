/- Single operations, told: a byte of a string, a byte as a number, sums of numbers. No condition. -/
import Derived.Test.YtmcnnjcbgbdeeaaDoorKitA
namespace Go.Proofs.YtmcnnjcbgbdeeaaDoor
open Go.RowKit
section
variable {P : Program} {ev : Operand → Value} {d : Option Tmp} {t T U S e : TypeId} {p : String} {af : Array Edge} {gd : Option (Nat × Bool)} {w : World} {x y : Operand}
theorem run_idxS (hT : P.underlying T = some .string) {s : ByteArray} {k : Nat} {c : UInt8} (h1 : ev x = .string s) (h2 : ev y = .int .i64 k) (hk : k < s.size) (hc : s[k]'hk = c) :
    (execOp ev ⟨d, .index T x y, t, p, af, gd⟩).run P w = .ok (.value (.int .u8 c.toNat)) w := by
  simp only [execOp, h1, h2]
  go_simp
theorem run_u8int (hs : P.underlying S = some (.int .u8)) (hd : P.underlying T = some (.int .i64)) {c : UInt8} (h1 : ev x = .int .u8 c.toNat) :
    (execOp ev ⟨d, .convert S T x, t, p, af, gd⟩).run P w = .ok (.value (.int .i64 (c.toNat : Nat))) w := by
  have h : c.toNat < 256 := c.toNat_lt
  simp only [execOp, h1]
  go_simp
  exact IntWalk.i64_in _ (by omega)
theorem run_addN {a b : Nat} (h1 : ev x = .int .i64 a) (h2 : ev y = .int .i64 b) (hl : a + b ≤ 9223372036854775807) :
    (execOp ev ⟨d, .binOp .add T x y U, t, p, af, gd⟩).run P w = .ok (.value (.int .i64 ((a + b : Nat) : Int))) w := by
  simp only [execOp, h1, h2]
  go_simp
  exact IntWalk.i64_in _ (by omega)
theorem run_mulN {a b : Nat} (h1 : ev x = .int .i64 a) (h2 : ev y = .int .i64 b) (hl : a * b ≤ 9223372036854775807) :
    (execOp ev ⟨d, .binOp .mul T x y U, t, p, af, gd⟩).run P w = .ok (.value (.int .i64 ((a * b : Nat) : Int))) w := by
  simp only [execOp, h1, h2]
  go_simp
  rw [← Int.natCast_mul]
  exact IntWalk.i64_in _ (by omega)
theorem run_subN {a b : Nat} (h1 : ev x = .int .i64 a) (h2 : ev y = .int .i64 b) (hl : b ≤ a) (ha : a ≤ 9223372036854775807) :
    (execOp ev ⟨d, .binOp .sub T x y U, t, p, af, gd⟩).run P w = .ok (.value (.int .i64 ((a - b : Nat) : Int))) w := by
  simp only [execOp, h1, h2]
  go_simp
  rw [← Int.ofNat_sub hl]
  exact IntWalk.i64_in _ (by omega)
theorem run_negN {a : Nat} (h1 : ev x = .int .i64 a) (ha : a ≤ 9223372036854775807) :
    (execOp ev ⟨d, .unOp .neg T x, t, p, af, gd⟩).run P w = .ok (.value (.int .i64 (-(a : Int)))) w := by
  simp only [execOp, h1]
  go_simp
  exact IntWalk.i64_in _ (by omega)
theorem run_lssN {a b : Nat} (h1 : ev x = .int .i64 a) (h2 : ev y = .int .i64 b) :
    (execOp ev ⟨d, .binOp .lss T x y U, t, p, af, gd⟩).run P w = .ok (.value (.bool (decide (a < b)))) w := by
  simp only [execOp, h1, h2]
  go_simp
theorem run_not32 {a : UInt32} (h1 : ev x = .int .u32 a.toNat) :
    (execOp ev ⟨d, .unOp .xor T x, t, p, af, gd⟩).run P w = .ok (.value (.int .u32 ((~~~a).toNat : Int))) w := by
  simp only [execOp, h1]
  go_simp
  have e1 : (if IntKind.u32.signed = true then -1 else IntKind.u32.max) = ((0xFFFFFFFF : UInt32).toNat : Int) := rfl
  rw [e1, xor32]
  congr 1
  have h := a.toNat_lt
  have e2 : (0xFFFFFFFF : UInt32) ^^^ a = ~~~a := UInt32.toBitVec_inj.1 (BitVec.allOnes_xor (x := a.toBitVec))
  rw [e2, UInt32.toNat_not]
  rfl
theorem run_shr32 {a : UInt32} {k : Nat} (h1 : ev x = .int .u32 a.toNat) (h2 : ev y = .int .i64 k) (hk : k < 32) :
    (execOp ev ⟨d, .binOp .shr T x y U, t, p, af, gd⟩).run P w = .ok (.value (.int .u32 ((a >>> UInt32.ofNat k).toNat : Int))) w := by
  simp only [execOp, h1, h2]
  go_simp
  rw [Nat.mod_eq_of_lt hk, Int.shiftRight_eq_div_pow]
  simp
theorem run_idxSl (hT : P.underlying T = some (.slice e)) (hsz : (P.info? e).map (·.size) = some 1) {ad : Addr} {n c k : Nat} (h1 : ev x = .slice (some ad) n c) (h2 : ev y = .int .i64 k) (hk : k < n) :
    (execOp ev ⟨d, .indexAddr T x y, t, p, af, gd⟩).run P w = .ok (.value (.pointer (some (ad.add k)))) w := by
  simp only [execOp, h1, h2]
  go_simp
  simp [run_size1 hsz]
theorem run_loadSl (hT : P.underlying T = some (.slice e)) {ad : Addr} {v : Value} (h1 : ev x = .pointer (some ad)) (hc : w.cell? ad = some v) : (execOp ev ⟨d, .load T x, t, p, af, gd⟩).run P w = .ok (.value v) w := by
  have ha : (isAgg T).run P w = .ok false w := by simp [isAgg, run_underlying hT]
  simp only [execOp, h1]
  go_simp
theorem run_shr32w {a : UInt32} {k : Nat} (h1 : ev x = .int .u32 a.toNat) (h2 : ev y = .int .u64 k) (hk : k < 32) :
    (execOp ev ⟨d, .binOp .shr T x y U, t, p, af, gd⟩).run P w = .ok (.value (.int .u32 ((a >>> UInt32.ofNat k).toNat : Int))) w := by
  simp only [execOp, h1, h2]
  go_simp
  rw [Nat.mod_eq_of_lt hk, Int.shiftRight_eq_div_pow]
  simp
end
theorem Gr.cell {w w' : World} (h : Gr w w') {p : Addr} {v : Value} (hc : w.cell? p = some v) : w'.cell? p = some v := (Below.cell h (lt_of_cell hc)).trans hc
end Go.Proofs.YtmcnnjcbgbdeeaaDoor
