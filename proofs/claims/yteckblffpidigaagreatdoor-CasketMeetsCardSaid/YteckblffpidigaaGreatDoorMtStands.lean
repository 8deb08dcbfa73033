/- "abc" has its digest: the walk of stands. No condition. -/
import Derived.Test.YteckblffpidigaaGreatDoorKitS
import Derived.Test.YteckblffpidigaaGreatDoorMtGood
import Derived.Test.YteckblffpidigaaGreatDoorKitM
import Derived.Test.YteckblffpidigaaGreatDoorKitA
import Derived.Lib.SlBytesConst
namespace Go.Proofs.YteckblffpidigaaGreatDoor
open Go.RowKit
set_option maxRecDepth 100000 in
set_option maxHeartbeats 4000000 in
theorem stands_any {w : World} (gw : Glob w) : Calls Tryz.prog 4 #[] w fun e w' => e = .returned (.bool true) ∧ Gr w w' := by
  have hcv := fun w => Lib.run_convert_bytes_const (P := Tryz.prog) w 31 5 #[.int .u8 97, .int .u8 98, .int .u8 99] 3 3 Tryz.underlying31 Tryz.underlying5
  go_enter Tryz.func4, Tryz.ntmps4
  go_wp2_with fail
  have hG0 : Gr w ((w.alloc (.cells #[.int .u8 97, .int .u8 98, .int .u8 99] 5 (3, 4))).alloc (.cells #[.slice (some ⟨w.heap.size, 0, none⟩) 3 3] 31)) := (Gr.alloc _ _).trans (Gr.alloc _ _)
  have hP : Parts ((w.alloc (.cells #[.int .u8 97, .int .u8 98, .int .u8 99] 5 (3, 4))).alloc (.cells #[.slice (some ⟨w.heap.size, 0, none⟩) 3 3] 31)) (some ⟨w.heap.size + 1, 0, none⟩) 1 [⟨some ⟨w.heap.size, 0, none⟩, 3, 3, [97, 98, 99]⟩] :=
    parts1 (by simp only [asz]) _ ⟨some ⟨w.heap.size, 0, none⟩, 3, 3, [97, 98, 99]⟩ (rd_made rfl _ _ _ 3 _ rfl rfl) (Nat.le_refl _)
  have HS := Lib.hid (shaSum_any _ 1 1 _ (by omega) [97, 98, 99] rfl (by simp) _ hP (gw.gr hG0))
  obtain ⟨D, hD⟩ : ∃ D, D = shaL [97, 98, 99] := ⟨_, rfl⟩
  have hDl : D.length = 32 := by rw [hD]; exact shaL_length _
  have d0 : D[0]? = some 186 := by rw [hD]; decide +kernel
  have h0 : (u8s D)[0]? = some (.int .u8 186) := by simp only [u8s, List.getElem?_map, d0]; rfl
  have d1 : D[1]? = some 120 := by rw [hD]; decide +kernel
  have h1 : (u8s D)[1]? = some (.int .u8 120) := by simp only [u8s, List.getElem?_map, d1]; rfl
  have d31 : D[31]? = some 173 := by rw [hD]; decide +kernel
  have h31 : (u8s D)[31]? = some (.int .u8 173) := by simp only [u8s, List.getElem?_map, d31]; rfl
  rw [← hD] at HS
  clear hD hP hcv d0 d1 d31
  refine HS.out.mono ?_
  rintro e w2 ⟨rfl, hB2⟩
  have hG2 : Gr w w2 := hG0.trans hB2
  have hul : (u8s D).length = 32 := by rw [u8s_length]; exact hDl
  have HID := Lib.hid (show (Tryz.prog.info? 51).map (·.size) = some (u8s D).length by rw [hul]; kernel_rfl)
  have ho := u8s_oneCell D
  clear hB2 hG0 HS gw
  go_upto_region 2 with (refine wpList_new (w := w2) (t := 51) rfl _ _ _ rfl w2.heap.size (u8s D) rfl rfl rfl (by rw [hul]; rfl) HID.out ho ?_; intro w3 hA3 hG3)
  have c0 := hA3.cell h0
  have c1 := hA3.cell h1
  have c31 := hA3.cell h31
  generalize w2.heap.size = g3 at c0 c1 c31 ⊢
  clear hA3 h0 h1 h31
  go_wp2_with fail
  go_ret
  exact ⟨rfl, hG2.trans hG3⟩
end Go.Proofs.YteckblffpidigaaGreatDoor
