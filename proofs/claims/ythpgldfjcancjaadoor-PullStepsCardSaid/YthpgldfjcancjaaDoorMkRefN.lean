/- The reference's small functions: None, Wide. No condition. -/
import Derived.Test.YthpgldfjcancjaaDoorMkSetR
import Derived.Test.YthpgldfjcancjaaDoorKitM
namespace Go.Proofs.YthpgldfjcancjaaDoor
open Go.RowKit
theorem bytesLess_cb : ∀ a b : List UInt8, Op.bytesLess a b = decide (Lib.compareBytes a b < 0)
  | [], [] => rfl
  | [], _ :: _ => rfl
  | _ :: _, [] => rfl
  | x :: a, y :: b => by
    unfold Op.bytesLess Lib.compareBytes
    by_cases h1 : x < y
    · rw [if_pos h1]
      simp [h1]
    · rw [if_neg h1]
      by_cases h2 : y < x
      · rw [if_pos h2]
        have hne : ¬ x = y := fun e => by subst e; exact h1 h2
        simp [h1, hne]
      · rw [if_neg h2, u8_eq h1 h2, bytesLess_cb a b]
        simp
set_option maxRecDepth 100000 in
set_option maxHeartbeats 2000000 in
theorem none_ref (w : World) : Calls Tryd.prog 25 #[] w fun e w' => e = .returned (.string ⟨Z32.toArray⟩) ∧ Gr w w' := by
  obtain ⟨i0, hi0, hz0, hz1, hz2⟩ := info_parts Tryd.info5
  obtain ⟨w', h1, h2, h3⟩ := run_makeU8 (P := Tryd.prog) w (t := 44) Tryd.underlying44 hi0 hz0 hz1 hz2 .i64 .i64 32 (by omega)
  have hrd := Rd.of_own h2
  replace h1 : (Instr.makeSlice 44 (.int .i64 32) (.int .i64 32)).run Tryd.prog w = .ok (.slice (some ⟨w.heap.size, 0, none⟩) 32 32) w' := h1
  go_enter Tryd.func25, Tryd.ntmps25
  go_wp2_with first
    | (refine wpList_valW rfl (.slice (some ⟨w.heap.size, 0, none⟩) 32 32) w' (by simp only [execOp]; go_simp; rw [h1]; rfl) ?_)
    | (refine wpList_str _ rfl 44 9 (.tmp 1) rfl 5 (some ⟨w.heap.size, 0, none⟩) 32 32 (List.replicate 32 0) Tryd.underlying44 Tryd.underlying5 Tryd.underlying9 rfl hrd ?_)
  go_ret
  exact ⟨rfl, h3⟩
set_option maxRecDepth 100000 in
set_option maxHeartbeats 2000000 in
theorem wide_ref (l : Nat) (hl : l ≤ 4) (w : World) : Calls Tryd.prog 12 #[.int .i64 (l : Int)] w fun e w' => e = .returned (.int .i64 ((4 ^ l : Nat) : Int)) ∧ w = w' := by
  obtain rfl | rfl | rfl | rfl | rfl : l = 0 ∨ l = 1 ∨ l = 2 ∨ l = 3 ∨ l = 4 := by omega
  all_goals
    go_enter Tryd.func12, Tryd.ntmps12
    go_wp2_with fail
    go_ret
    exact ⟨rfl, rfl⟩
end Go.Proofs.YthpgldfjcancjaaDoor
