/- A nil tree's Get and Set. No condition. -/
import Derived.Test.YthpgldfjcancjaaDoorMkNil
namespace Go.Proofs.YthpgldfjcancjaaDoor
open Go.RowKit
set_option maxRecDepth 100000 in
set_option maxHeartbeats 4000000 in
theorem get_nil (k : Nm) (w : World) : Calls Tryd.prog 19 #[.pointer none, .agg (u8s k.1).toArray] w fun e w' => e = .returned (by32 Z32) ∧ Gr w w' := by
  go_enter Tryd.func19, Tryd.ntmps19
  go_wp2_with (refine wpList_new (t := 43) rfl _ _ _ rfl (w.heap.size + 1) (u8s Z32) rfl rfl (by simp) (by kernel_rfl) (infoD _ rfl) (u8s_oneCell _) ?_; intro w2 hA2 hG2)
  refine bodyPost_ret (results_cell_row rfl _ _ (w.heap.size + 1) _ _ _ _ rfl hA2 Tryd.underlying43 rfl (by have := infoD Z32 rfl; simpa using this)) rfl ?_
  exact ⟨rfl, (Gr.alloc w _).trans hG2⟩
set_option maxRecDepth 100000 in
set_option maxHeartbeats 4000000 in
theorem set_nil (k : Nm) (d : List UInt8) (w : World) : Calls Tryd.prog 18 #[.pointer none, .agg (u8s k.1).toArray, .agg (u8s d).toArray] w fun e w' => e = .returned (.tuple #[]) ∧ Gr w w' := by
  go_enter Tryd.func18, Tryd.ntmps18
  go_wp2
  refine bodyPost_ret (results_none rfl _ _ _) rfl ?_
  exact ⟨rfl, (Gr.alloc w _).trans (Gr.alloc _ _)⟩
end Go.Proofs.YthpgldfjcancjaaDoor
