/- The walk of merkle.Leaf and of maps.Keys, inside the fence. No condition. -/
import Derived.Test.YthpgldfjcancjaaDoorMkIter
namespace Go.Proofs.YthpgldfjcancjaaDoor
open Go.RowKit
attribute [local go_sem] Oper.semAt_some
set_option maxRecDepth 100000 in
set_option maxHeartbeats 4000000 in
/-- maps.Keys(m): a box that holds the map; the iterator that captures it. -/
theorem keys_new (F : Fence) (n : Nat) (hf : F.fn 27) (hro : F.round = none) (b : Option Nat) (w : World) :
    CallsIn F n Tryd.prog 27 #[.map b] w fun e w' =>
      e = .returned (.func (.func 38) #[] #[.pointer (some ⟨w.heap.size, 0, none⟩)]) ∧ w' = w.alloc (.cells #[.map b] 72) := by
  refine callsIn_of_wp Tryd.func27 rfl hf ?_ hro
  simp only [Tryd.ntmps27, List.size_toArray, List.length_cons, List.length_nil, Nat.reduceAdd, Nat.reduceSub, Array.replicate_succ, Array.replicate_zero, List.push_toArray, List.append_toArray, List.nil_append, List.cons_append]
  gi_wp2
  go_ret
  exact ⟨rfl, rfl⟩
set_option maxRecDepth 100000 in
set_option maxHeartbeats 4000000 in
/-- merkle.Leaf: the first byte of the name. -/
theorem leaf_in (F : Fence) (n : Nat) (hf : F.fn 28) (hro : F.round = none) (x : Nm) (w : World) :
    CallsIn F n Tryd.prog 28 #[.agg (u8s x.1).toArray] w fun e w' =>
      e = .returned (.int .i64 ((x.1.getD 0 0).toNat : Int)) ∧ w' = w.alloc (.cells (u8s x.1).toArray 51) := by
  refine callsIn_of_wp Tryd.func28 rfl hf ?_ hro
  simp only [Tryd.ntmps28, List.size_toArray, List.length_cons, List.length_nil, Nat.reduceAdd, Nat.reduceSub, Array.replicate_succ, Array.replicate_zero, List.push_toArray, List.append_toArray, List.nil_append, List.cons_append]
  have hlen : 0 < x.1.length := by rw [x.2]; decide
  have hx0 : (u8s x.1)[0]? = some (.int .u8 ((x.1.getD 0 0).toNat : Int)) := u8s_at (by rw [List.getD_eq_getElem?_getD, List.getElem?_eq_getElem hlen]; rfl)
  have hx1 := (x.1.getD 0 0).toNat_lt
  have hx00 : ∀ h, (u8s x.1)[0]'h = .int .u8 ((x.1.getD 0 0).toNat : Int) := fun h => by rw [List.getElem?_eq_getElem h] at hx0; exact Option.some.inj hx0
  gi_wp2
  go_ret
  have hg : x.1.getD 0 0 = x.1[0] := by rw [List.getD_eq_getElem?_getD, List.getElem?_eq_getElem hlen]; rfl
  rw [hg] at hx1 ⊢
  refine ⟨?_, rfl⟩
  have e : ∀ m : Nat, m < 2 ^ 8 → wrap64 (m : Int) = (m : Int) := fun m hm => by unfold wrap64; omega
  rw [e _ hx1]
  rfl
end Go.Proofs.YthpgldfjcancjaaDoor
