/- Operations of the laws on keys: strings in their order, numbers turned to bytes, remainders. No condition. -/
import Derived.Test.YtficbedibjgoeaaDoorKeysP
import Derived.Test.YtficbedibjgoeaaDoorIdx
import Derived.Test.YtficbedibjgoeaaDoorMade
import Derived.Test.YtficbedibjgoeaaDoorKitA
namespace Go.Proofs.YtficbedibjgoeaaDoor
open Go.RowKit
theorem wrap_remB (z : Int) (m : Nat) (hm : 0 < m) (hm2 : m ≤ 4611686018427387904) : ∃ i : Nat, i < m ∧ wrap64 ((IntKind.u64.wrap z).tmod m) = i := by
  have h0 : 0 ≤ z % 18446744073709551616 := Int.emod_nonneg _ (by omega)
  have h1 := Int.emod_lt_of_pos (z % 18446744073709551616) (b := m) (by omega)
  have h2 := Int.emod_nonneg (z % 18446744073709551616) (b := m) (by omega)
  refine ⟨((z % 18446744073709551616) % m).toNat, by omega, ?_⟩
  rw [IntKind.wrap_u64, Int.tmod_eq_emod_of_nonneg h0, Int.toNat_of_nonneg h2]
  exact IntWalk.wrap64_in _ (by omega)
theorem list_of_bytes (l : List UInt8) : (⟨l.toArray⟩ : ByteArray).toList = l := by
  rw [ByteArray.toList_eq]
section
variable {P : Program} {ev : Operand → Value} {d : Option Tmp} {t T U : TypeId} {p : String} {af : Array Edge} {gd : Option (Nat × Bool)} {w : World} {x y : Operand}
theorem run_lssS {a b : List UInt8} (h1 : ev x = .string ⟨a.toArray⟩) (h2 : ev y = .string ⟨b.toArray⟩) :
    (execOp ev ⟨d, .binOp .lss T x y U, t, p, af, gd⟩).run P w = .ok (.value (.bool (Op.bytesLess a b))) w := by
  have e1 := list_of_bytes a
  have e2 := list_of_bytes b
  generalize (⟨a.toArray⟩ : ByteArray) = s at h1 e1
  generalize (⟨b.toArray⟩ : ByteArray) = r at h2 e2
  subst e1 e2
  simp only [execOp, h1, h2]
  go_simp
theorem run_byteN {S : TypeId} (hs : P.underlying S = some (.int .i64)) (hd : P.underlying T = some (.int .u8)) {n : Nat} (hn : n < 256) (h1 : ev x = .int .i64 n) :
    (execOp ev ⟨d, .convert S T x, t, p, af, gd⟩).run P w = .ok (.value (.int .u8 ((UInt8.ofNat n).toNat : Int))) w := by
  have e : (UInt8.ofNat n).toNat = n := by rw [UInt8.toNat_ofNat']; omega
  rw [e]
  simp only [execOp, h1]
  go_simp
  rw [IntKind.wrap_u8]
  omega
end
end Go.Proofs.YtficbedibjgoeaaDoor
