/- Single operations on words, addresses in an array's block, loads and stores. No condition. -/
import Derived.Laws.BitsAllLaws
import Derived.Test.YtbpgodkdbbiadaaDoorArr
namespace Go.Proofs.YtbpgodkdbbiadaaDoor
open Go.RowKit

section
variable {P : Program} {ev : Operand → Value} {d : Option Tmp} {t T U : TypeId} {s : String} {af : Array Edge} {gd : Option (Nat × Bool)} {w : World} {x y : Operand}
theorem wrap_add32 (a b : UInt32) : IntKind.u32.wrap ((a.toNat : Int) + b.toNat) = ((a + b).toNat : Int) := by
  rw [IntKind.wrap_u32', UInt32.toNat_add]; omega
theorem xor32 (a b : UInt32) : bits .xor .u32 (a.toNat : Int) b.toNat = ((a ^^^ b).toNat : Int) := by
  rw [u32_xor_nat _ _ a.toNat_lt b.toNat_lt, UInt32.toNat_xor]
theorem and32 (a b : UInt32) : bits .and .u32 (a.toNat : Int) b.toNat = ((a &&& b).toNat : Int) := by
  rw [u32_and_nat _ _ a.toNat_lt b.toNat_lt, UInt32.toNat_and]
theorem run_add32 {a b : UInt32} (h1 : ev x = .int .u32 a.toNat) (h2 : ev y = .int .u32 b.toNat) : (execOp ev ⟨d, .binOp .add T x y U, t, s, af, gd⟩).run P w = .ok (.value (.int .u32 (a + b).toNat)) w := by
  simp only [execOp, h1, h2]
  go_simp
  exact wrap_add32 a b
theorem run_xor32 {a b : UInt32} (h1 : ev x = .int .u32 a.toNat) (h2 : ev y = .int .u32 b.toNat) : (execOp ev ⟨d, .binOp .xor T x y U, t, s, af, gd⟩).run P w = .ok (.value (.int .u32 (a ^^^ b).toNat)) w := by
  simp only [execOp, h1, h2]
  go_simp
  exact xor32 a b
theorem run_and32 {a b : UInt32} (h1 : ev x = .int .u32 a.toNat) (h2 : ev y = .int .u32 b.toNat) : (execOp ev ⟨d, .binOp .and T x y U, t, s, af, gd⟩).run P w = .ok (.value (.int .u32 (a &&& b).toNat)) w := by
  simp only [execOp, h1, h2]
  go_simp
  exact and32 a b
theorem run_nil {p : Addr} (h : ev x = .pointer (some p)) : (execOp ev ⟨d, .nilCheck x, t, s, af, gd⟩).run P w = .ok (.value (.pointer (some p))) w := by
  simp only [execOp, h]
  rfl
theorem run_size1 {e : TypeId} (hi : (P.info? e).map (·.size) = some 1) (w : World) : (sizeOf e).run P w = .ok 1 w := by
  cases hq : P.info? e with
  | none => simp [hq] at hi
  | some i =>
    have hs : i.size = 1 := by simpa [hq] using hi
    simp [sizeOf, typeInfo, hq, hs]
theorem run_idx {g n : Nat} {i : Nat} {e : TypeId} (hT : P.underlying T = some (.array n e)) (hsz : (P.info? e).map (·.size) = some 1) (h1 : ev x = .pointer (some ⟨g, 0, none⟩)) (h2 : ev y = .int .i64 i) (hi : i < n) :
    (execOp ev ⟨d, .indexAddr T x y, t, s, af, gd⟩).run P w = .ok (.value (.pointer (some ⟨g, i, none⟩))) w := by
  simp only [execOp, h1, h2]
  go_simp
  simp [run_size1 hsz]
theorem run_load1 {k : IntKind} {p : Addr} {v : Value} (hT : P.underlying T = some (.int k)) (h1 : ev x = .pointer (some p)) (hc : w.cell? p = some v) : (execOp ev ⟨d, .load T x, t, s, af, gd⟩).run P w = .ok (.value v) w := by
  have ha : (isAgg T).run P w = .ok false w := by simp [isAgg, run_underlying hT]
  simp only [execOp, h1]
  go_simp
theorem run_store1 {p : Addr} {k : IntKind} {z : Int} (hT : (P.info? T).map (·.size) = some 1) (h1 : ev x = .pointer (some p)) (h2 : ev y = .int k z) (hc : (w.cell? p).isSome = true) (hf : w.frozen? p = false) : (execOp ev ⟨d, .store T x y, t, s, af, gd⟩).run P w = .ok .skip (w.setCell p (.int k z)) := by
  obtain ⟨v, hv⟩ := Option.isSome_iff_exists.1 hc
  simp only [execOp, h1, h2]
  go_simp
  simp [run_size1 hT, hv, hf]
end
end Go.Proofs.YtbpgodkdbbiadaaDoor
