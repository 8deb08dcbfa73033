/- The walks of the law's rings and none; no ring walked. No condition. -/
import Derived.Test.YtmcnnjcbgbdeeaaDoorRRefS
import Derived.Test.YtmcnnjcbgbdeeaaDoorRem
namespace Go.Proofs.YtmcnnjcbgbdeeaaDoor
open Go.RowKit
theorem infoK (K : List UInt8) (hK : K.length = 32) : (Tryd.prog.info? 23).map (·.size) = some (u8s K).length := by simp only [u8s_length, hK]; kernel_rfl
set_option maxRecDepth 100000 in
set_option maxHeartbeats 4000000 in
theorem walk_nil (K : List UInt8) (w : World) : Calls Tryd.prog 9 #[.pointer none, .agg (u8s K).toArray] w fun e w' => e = .returned (.slice none 0 0) ∧ Gr w w' := by
  go_enter Tryd.func9, Tryd.ntmps9
  go_wp2_with fail
  go_ret
  exact ⟨rfl, Gr.alloc _ _⟩
theorem none_any (w : World) : Calls Tryd.prog 12 #[] w fun e w' => e = .returned (.pointer none) ∧ w = w' := by
  go_enter Tryd.func12, Tryd.ntmps12
  go_wp2_with fail
  go_ret
  exact ⟨rfl, rfl⟩
def K5 : List UInt8 := 5 :: List.replicate 31 0
set_option maxRecDepth 100000 in
set_option maxHeartbeats 8000000 in
theorem rings_any (w : World) (gw : Glob w) : Calls Tryd.prog 8 #[] w fun e w' => e = .returned (.bool true) ∧ Gr w w' := by
  have HN := Lib.hid (new_any 1 3 (by omega) (by omega) (by omega) (by omega) w gw)
  have HO : Hid (∀ w, Calls Tryd.prog 7 #[.int .i64 9, .int .i64 1] w fun e w' => e = .returned (.tuple #[.pointer none, .int .i64 1]) ∧ w = w') := fun w => new_no 9 1 (by omega) w
  have HP : Hid (∀ w gR, RingAt w gR 1 3 → Calls Tryd.prog 11 #[.pointer (some ⟨gR, 0, none⟩), .agg (u8s K5).toArray, .int .i64 1] w fun e w' => ∃ A, e = .returned (.tuple #[.slice A 1 1, .int .i64 0]) ∧ Rd w' A 1 (numV [0]) ∧ Gr w w') := fun w gR h =>
    (prefer_any h (by omega) (by omega) (by omega) (by omega) K5 rfl 1 (by omega) (by omega)).mono fun e w' ⟨A, h1, h2, h3⟩ => ⟨A, h1, h2, h3⟩
  go_enter Tryd.func8, Tryd.ntmps8
  go_wp2_with fail
  refine HN.out.mono ?_
  rintro e w1 ⟨gR, rfl, hR, hG1⟩
  clear HN
  go_wp2_with fail
  refine (HP.out w1 gR hR).mono ?_
  rintro e w2 ⟨A, rfl, hr2, hG2⟩
  have G2 := Gr.trans hG1 hG2
  clear HP hR hG1 hG2
  go_wp2_with fail
  refine (HO.out w2).mono ?_
  rintro e _ ⟨rfl, rfl⟩
  have hrb : Rd (w2.alloc (.cells #[.int .i64 0] 3)) (some ⟨w2.heap.size, 0, none⟩) 1 (numV [0]) := rd_made rfl _ _ _ 1 _ rfl rfl
  have HS := Lib.hid (same_any A (some ⟨w2.heap.size, 0, none⟩) 1 1 1 1 [0] [0] _ ((Gr.alloc _ _).rd hr2) hrb (by omega))
  have G3 : Gr w (w2.alloc (.cells #[.int .i64 0] 3)) := Below.trans G2 ((Gr.alloc _ _).mono G2.size)
  rw [decide_eq_true rfl] at HS
  clear hr2 G2 HO hrb

  go_wp2_with fail
  refine HS.out.mono ?_
  rintro e w4 ⟨rfl, hG4⟩
  have G4 := Gr.trans G3 hG4
  clear HS hG4 G3
  go_wp2_with fail
  go_ret
  exact ⟨rfl, G4⟩
end Go.Proofs.YtmcnnjcbgbdeeaaDoor
