/- What a remainder of a converted number is; a slice that is owned whole. No condition. -/
import Derived.Test.YtbpgodkdbbiadaaDoorMem
import Derived.Test.YtbpgodkdbbiadaaDoorBits
import Derived.Test.YtbpgodkdbbiadaaDoorSsaD
namespace Go.Proofs.YtbpgodkdbbiadaaDoor
open Go.RowKit
theorem wrap_remN (z : Int) (m : Nat) (hm : 0 < m) (hm2 : m < 1000000) : ∃ i : Nat, i < m ∧ wrap64 ((IntKind.u64.wrap z).tmod m) = i := by
  have h0 : 0 ≤ z % 18446744073709551616 := Int.emod_nonneg _ (by omega)
  have h1 := Int.emod_lt_of_pos (z % 18446744073709551616) (b := m) (by omega)
  have h2 := Int.emod_nonneg (z % 18446744073709551616) (b := m) (by omega)
  refine ⟨((z % 18446744073709551616) % m).toNat, by omega, ?_⟩
  rw [IntKind.wrap_u64, Int.tmod_eq_emod_of_nonneg h0, Int.toNat_of_nonneg h2]
  exact IntWalk.wrap64_in _ (by omega)
theorem Arr.of_ownN {w : World} {base : Nat} {e : TypeId} {g n : Nat} {xs : List Value} (h : w.ownsRow base e 1 (.slice (some ⟨g, 0, none⟩) n n) n xs) : Arr w g e xs := by
  obtain ⟨_, h2⟩ := h
  rcases h2 with ⟨h2, _⟩ | ⟨g', cap, cur, h2, _, h3, _, _, h4, h5⟩
  · cases h2
  · injection h2 with h6 h7 h8
    injection h6 with h6
    injection h6 with h6
    subst h6 h8
    rw [Nat.mul_one] at h4 h5
    rw [List.take_of_length_le (by simp [h4])] at h5
    unfold Arr
    rw [← h5]
    exact h3
/-- A byte that is reckoned. -/
theorem byte_of (z : Int) : ∃ y : UInt8, z % 256 = (y.toNat : Int) := ⟨UInt8.ofNat (z % 256).toNat, by rw [UInt8.toNat_ofNat']; omega⟩
/-- A new array. -/
def NewA (B : Nat) (t : TypeId) (cs : List Value) : Value → World → Prop := fun v w => ∃ g, v = .pointer (some ⟨g, 0, none⟩) ∧ B ≤ g ∧ Arr w g t cs
theorem NewA.gr {B : Nat} {t : TypeId} {cs : List Value} {v : Value} {w w' : World} (h : NewA B t cs v w) (hg : Gr w w') : NewA B t cs v w' := by
  obtain ⟨g, h1, hb, h2⟩ := h
  exact ⟨g, h1, hb, h2.gr hg⟩
theorem u8s_set (l : List UInt8) (i : Nat) (x : UInt8) : (u8s l).set i (.int .u8 (x.toNat : Int)) = u8s (l.set i x) := by simp [u8s, List.map_set]
theorem u8s_at {l : List UInt8} {i : Nat} {x : UInt8} (h : l[i]? = some x) : (u8s l)[i]? = some (.int .u8 (x.toNat : Int)) := by simp [u8s, h]
theorem alloc32_run (o : Oper) (ev : Operand → Value) (w : World) (h : o.op = .alloc 26) : (execOp ev o).run Tryd.prog w = .ok (.value (.pointer (some ⟨w.heap.size, 0, none⟩))) (w.alloc (.cells (u8s (List.replicate 32 0)).toArray 26)) := by
  unfold execOp
  simp only [h]
  go_simp
  kernel_rfl
theorem wp_allocD {P : Program} {ops : Array Oper} {Q : Exit → Act → World → Prop} {L : List (Value → World → Prop)} {D : List Nat} {i B : Nat} {o : Oper} {a : Act} {w : World} {t T : TypeId} {cs : List Value} (hi : ops[i]? = some o) (hop : (ops[i]?).map (fun o => (o.op, o.guard)) = some (.alloc T, none)) (C : Array Value) (hC : C.toList = cs)
    (hrun : ∀ (o : Oper) ev w, o.op = .alloc T → (execOp ev o).run P w = .ok (.value (.pointer (some ⟨w.heap.size, 0, none⟩))) (w.alloc (.cells C t))) (hB : B ≤ w.heap.size) (hφ : L.getD i AnyV = NewA B t cs) (hD : ∀ j ∈ D, L.getD j AnyV = NewA B t cs) :
    wpOp P ops Q i (fun a' w' => ∃ v, a' = a.put o.dst v ∧ (L.getD i AnyV) v w' ∧ Gr w w' ∧ ∀ j ∈ D, ∀ u, (L.getD j AnyV) u w → v ≠ u) a w := by
  rw [hi] at hop
  simp only [Option.map_some, Option.some.injEq, Prod.mk.injEq] at hop
  have hw : Region.wanted o (yielded ops a.tmps) = true := by simp [Region.wanted, hop.2]
  have hr := hrun o a.eval w hop.1
  unfold wpOp
  simp only [hi, hw, if_true, Oper.wp, hr, Oper.upon]
  refine .inl ⟨_, rfl, ?_, Gr.alloc _ _, fun j hj u hu h => ?_⟩
  · rw [hφ]; exact ⟨_, rfl, hB, Arr.newAt rfl hC⟩
  · rw [hD j hj] at hu
    obtain ⟨g, rfl, _, hA⟩ := hu
    have hlt := hA.lt
    injection h with h
    injection h with h
    injection h with h
    omega
end Go.Proofs.YtbpgodkdbbiadaaDoor
