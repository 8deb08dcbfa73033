/- What a remainder of a converted number is; a slice that is owned whole. No condition. -/
import Derived.Test.YtmcnnjcbgbdeeaaDoorKitA
import Derived.Test.YtmcnnjcbgbdeeaaDoorMem
namespace Go.Proofs.YtmcnnjcbgbdeeaaDoor
open Go.RowKit
theorem wrap_remN (z : Int) (m : Nat) (hm : 0 < m) (hm2 : m < 1000000) : ∃ i : Nat, i < m ∧ wrap64 ((IntKind.u64.wrap z).tmod m) = i := by
  have h0 : 0 ≤ z % 18446744073709551616 := Int.emod_nonneg _ (by omega)
  have h1 := Int.emod_lt_of_pos (z % 18446744073709551616) (b := m) (by omega)
  have h2 := Int.emod_nonneg (z % 18446744073709551616) (b := m) (by omega)
  refine ⟨((z % 18446744073709551616) % m).toNat, by omega, ?_⟩
  rw [IntKind.wrap_u64, Int.tmod_eq_emod_of_nonneg h0, Int.toNat_of_nonneg h2]
  exact IntWalk.wrap64_in _ (by omega)
theorem Arr.of_ownN {w : World} {base : Nat} {e : TypeId} {g n : Nat} {xs : List Value} (h : w.ownsRow base e 1 (.slice (some ⟨g, 0, none⟩) n n) n xs) : Arr w g e xs := by
  obtain ⟨_, h2⟩ := h
  rcases h2 with ⟨h2, _⟩ | ⟨g', cap, cur, h2, _, h3, _, _, h4, h5⟩
  · cases h2
  · injection h2 with h6 h7 h8
    injection h6 with h6
    injection h6 with h6
    subst h6 h8
    rw [Nat.mul_one] at h4 h5
    rw [List.take_of_length_le (by simp [h4])] at h5
    unfold Arr
    rw [← h5]
    exact h3
/-- A byte that is reckoned. -/
theorem byte_of (z : Int) : ∃ y : UInt8, z % 256 = (y.toNat : Int) := ⟨UInt8.ofNat (z % 256).toNat, by rw [UInt8.toNat_ofNat']; omega⟩
theorem alloc32_run (o : Oper) (ev : Operand → Value) (w : World) (h : o.op = .alloc 22) : (execOp ev o).run Tryd.prog w = .ok (.value (.pointer (some ⟨w.heap.size, 0, none⟩))) (w.alloc (.cells (u8s (List.replicate 32 0)).toArray 22)) := by
  unfold execOp
  simp only [h]
  go_simp
  kernel_rfl
end Go.Proofs.YtmcnnjcbgbdeeaaDoor
