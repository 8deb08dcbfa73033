/- A nil tree's answers; Node beyond its bounds. No condition. -/
import Derived.Test.YthpgldfjcancjaaDoorKitN
import Derived.Test.YthpgldfjcancjaaDoorMkKeys
namespace Go.Proofs.YthpgldfjcancjaaDoor
open Go.RowKit
set_option maxRecDepth 100000 in
set_option maxHeartbeats 4000000 in
theorem root_nil (w : World) : Calls Tryd.prog 20 #[.pointer none] w fun e w' => e = .returned (by32 Z32) ∧ Gr w w' := by
  go_enter Tryd.func20, Tryd.ntmps20
  go_wp2_with (refine wpList_new (w := w) (t := 43) rfl _ _ _ rfl w.heap.size (u8s Z32) rfl rfl rfl (by kernel_rfl) (infoD _ rfl) (u8s_oneCell _) ?_; intro w2 hA2 hG2)
  refine bodyPost_ret (results_cell_row rfl _ _ w.heap.size _ _ _ _ rfl hA2 Tryd.underlying43 rfl (by have := infoD Z32 rfl; simpa using this)) rfl ?_
  exact ⟨rfl, hG2⟩
set_option maxRecDepth 100000 in
set_option maxHeartbeats 4000000 in
theorem node_nil (l a : Int) (w : World) : Calls Tryd.prog 23 #[.pointer none, .int .i64 l, .int .i64 a] w fun e w' => e = .returned (.tuple #[by32 Z32, .int .i64 1]) ∧ Gr w w' := by
  go_enter Tryd.func23, Tryd.ntmps23
  go_wp2_with (refine wpList_new (w := w) (t := 43) rfl _ _ _ rfl w.heap.size (u8s Z32) rfl rfl rfl (by kernel_rfl) (infoD _ rfl) (u8s_oneCell _) ?_; intro w2 hA2 hG2)
  refine bodyPost_ret (results_cell_tmp_row rfl _ _ w.heap.size _ _ _ _ rfl hA2 Tryd.underlying43 rfl (by have := infoD Z32 rfl; simpa using this)) rfl ?_
  exact ⟨rfl, hG2⟩
set_option maxRecDepth 100000 in
set_option maxHeartbeats 4000000 in
theorem keys_nil (a : Int) (w : World) : Calls Tryd.prog 17 #[.pointer none, .int .i64 a] w fun e w' => e = .returned (.slice none 0 0) ∧ Gr w w' := by
  go_enter Tryd.func17, Tryd.ntmps17
  go_wp2
  go_ret
  exact ⟨rfl, Gr.alloc w _⟩
set_option maxRecDepth 100000 in
set_option maxHeartbeats 4000000 in
theorem node_out (p : Option Addr) (l a : Int) (ho : ¬ (0 ≤ l ∧ l ≤ 4 ∧ 0 ≤ a ∧ a < 4 ^ l.toNat)) (w : World) : Calls Tryd.prog 23 #[.pointer p, .int .i64 l, .int .i64 a] w fun e w' => e = .returned (.tuple #[by32 Z32, .int .i64 1]) ∧ Gr w w' := by
  cases p with
  | none => exact node_nil l a w
  | some p =>
    by_cases hl : l < 0
    · clear ho
      go_enter Tryd.func23, Tryd.ntmps23
      go_wp2_with (refine wpList_new (w := w) (t := 43) rfl _ _ _ rfl w.heap.size (u8s Z32) rfl rfl rfl (by kernel_rfl) (infoD _ rfl) (u8s_oneCell _) ?_; intro w2 hA2 hG2)
      refine bodyPost_ret (results_cell_tmp_row rfl _ _ w.heap.size _ _ _ _ rfl hA2 Tryd.underlying43 rfl (by have := infoD Z32 rfl; simpa using this)) rfl ?_
      exact ⟨rfl, hG2⟩
    by_cases hl4 : 4 < l
    · clear ho
      go_enter Tryd.func23, Tryd.ntmps23
      go_wp2_with (refine wpList_new (w := w) (t := 43) rfl _ _ _ rfl w.heap.size (u8s Z32) rfl rfl rfl (by kernel_rfl) (infoD _ rfl) (u8s_oneCell _) ?_; intro w2 hA2 hG2)
      refine bodyPost_ret (results_cell_tmp_row rfl _ _ w.heap.size _ _ _ _ rfl hA2 Tryd.underlying43 rfl (by have := infoD Z32 rfl; simpa using this)) rfl ?_
      exact ⟨rfl, hG2⟩
    by_cases ha : a < 0
    · clear ho
      go_enter Tryd.func23, Tryd.ntmps23
      go_wp2_with (refine wpList_new (w := w) (t := 43) rfl _ _ _ rfl w.heap.size (u8s Z32) rfl rfl rfl (by kernel_rfl) (infoD _ rfl) (u8s_oneCell _) ?_; intro w2 hA2 hG2)
      refine bodyPost_ret (results_cell_tmp_row rfl _ _ w.heap.size _ _ _ _ rfl hA2 Tryd.underlying43 rfl (by have := infoD Z32 rfl; simpa using this)) rfl ?_
      exact ⟨rfl, hG2⟩
    obtain rfl | rfl | rfl | rfl | rfl : l = 0 ∨ l = 1 ∨ l = 2 ∨ l = 3 ∨ l = 4 := by omega
    · have hb : 1 ≤ a := by
        have hp : (4 : Int) ^ (0 : Int).toNat = 1 := rfl
        rw [hp] at ho
        omega
      clear ho hl hl4
      go_enter Tryd.func23, Tryd.ntmps23
      go_wp2_with (refine wpList_new (w := w) (t := 43) rfl _ _ _ rfl w.heap.size (u8s Z32) rfl rfl rfl (by kernel_rfl) (infoD _ rfl) (u8s_oneCell _) ?_; intro w2 hA2 hG2)
      refine bodyPost_ret (results_cell_tmp_row rfl _ _ w.heap.size _ _ _ _ rfl hA2 Tryd.underlying43 rfl (by have := infoD Z32 rfl; simpa using this)) rfl ?_
      exact ⟨rfl, hG2⟩
    · have hb : 4 ≤ a := by
        have hp : (4 : Int) ^ (1 : Int).toNat = 4 := rfl
        rw [hp] at ho
        omega
      clear ho hl hl4
      go_enter Tryd.func23, Tryd.ntmps23
      go_wp2_with (refine wpList_new (w := w) (t := 43) rfl _ _ _ rfl w.heap.size (u8s Z32) rfl rfl rfl (by kernel_rfl) (infoD _ rfl) (u8s_oneCell _) ?_; intro w2 hA2 hG2)
      refine bodyPost_ret (results_cell_tmp_row rfl _ _ w.heap.size _ _ _ _ rfl hA2 Tryd.underlying43 rfl (by have := infoD Z32 rfl; simpa using this)) rfl ?_
      exact ⟨rfl, hG2⟩
    · have hb : 16 ≤ a := by
        have hp : (4 : Int) ^ (2 : Int).toNat = 16 := rfl
        rw [hp] at ho
        omega
      clear ho hl hl4
      go_enter Tryd.func23, Tryd.ntmps23
      go_wp2_with (refine wpList_new (w := w) (t := 43) rfl _ _ _ rfl w.heap.size (u8s Z32) rfl rfl rfl (by kernel_rfl) (infoD _ rfl) (u8s_oneCell _) ?_; intro w2 hA2 hG2)
      refine bodyPost_ret (results_cell_tmp_row rfl _ _ w.heap.size _ _ _ _ rfl hA2 Tryd.underlying43 rfl (by have := infoD Z32 rfl; simpa using this)) rfl ?_
      exact ⟨rfl, hG2⟩
    · have hb : 64 ≤ a := by
        have hp : (4 : Int) ^ (3 : Int).toNat = 64 := rfl
        rw [hp] at ho
        omega
      clear ho hl hl4
      go_enter Tryd.func23, Tryd.ntmps23
      go_wp2_with (refine wpList_new (w := w) (t := 43) rfl _ _ _ rfl w.heap.size (u8s Z32) rfl rfl rfl (by kernel_rfl) (infoD _ rfl) (u8s_oneCell _) ?_; intro w2 hA2 hG2)
      refine bodyPost_ret (results_cell_tmp_row rfl _ _ w.heap.size _ _ _ _ rfl hA2 Tryd.underlying43 rfl (by have := infoD Z32 rfl; simpa using this)) rfl ?_
      exact ⟨rfl, hG2⟩
    · have hb : 256 ≤ a := by
        have hp : (4 : Int) ^ (4 : Int).toNat = 256 := rfl
        rw [hp] at ho
        omega
      clear ho hl hl4
      go_enter Tryd.func23, Tryd.ntmps23
      go_wp2_with (refine wpList_new (w := w) (t := 43) rfl _ _ _ rfl w.heap.size (u8s Z32) rfl rfl rfl (by kernel_rfl) (infoD _ rfl) (u8s_oneCell _) ?_; intro w2 hA2 hG2)
      refine bodyPost_ret (results_cell_tmp_row rfl _ _ w.heap.size _ _ _ _ rfl hA2 Tryd.underlying43 rfl (by have := infoD Z32 rfl; simpa using this)) rfl ?_
      exact ⟨rfl, hG2⟩
end Go.Proofs.YthpgldfjcancjaaDoor
