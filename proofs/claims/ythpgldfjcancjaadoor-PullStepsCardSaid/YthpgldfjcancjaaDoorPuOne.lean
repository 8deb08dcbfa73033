/- A tree of one name: its path. No condition. -/
import Derived.Test.YthpgldfjcancjaaDoorMkPl
import Derived.Test.YthpgldfjcancjaaDoorMkSetR
import Derived.Test.YthpgldfjcancjaaDoorPuP
namespace Go.Proofs.YthpgldfjcancjaaDoor
open Go.RowKit
def nmK (l : UInt8) : Nm := ⟨l :: List.replicate 31 0, rfl⟩
def y0 : List UInt8 := [151, 79, 94, 8, 137, 204, 41, 68, 85, 40, 198, 207, 43, 1, 87, 193, 254, 84, 203, 151, 177, 223, 230, 164, 235, 61, 173, 205, 93, 238, 184, 232]
def y1 : List UInt8 := [4, 254, 216, 235, 112, 32, 225, 253, 217, 54, 35, 174, 108, 153, 33, 61, 245, 94, 231, 159, 136, 248, 2, 214, 9, 42, 120, 139, 222, 26, 80, 235]
def y2 : List UInt8 := [223, 127, 8, 4, 12, 171, 119, 132, 49, 69, 86, 210, 190, 140, 32, 204, 146, 23, 95, 45, 207, 80, 165, 151, 229, 146, 83, 90, 9, 55, 246, 167]
def y3 : List UInt8 := [174, 225, 98, 222, 207, 186, 83, 73, 151, 3, 83, 218, 99, 136, 9, 20, 238, 219, 195, 124, 244, 2, 217, 91, 16, 230, 37, 0, 101, 215, 128, 230]
def y4 : List UInt8 := [188, 18, 3, 94, 193, 244, 70, 247, 180, 91, 182, 132, 222, 129, 208, 20, 103, 43, 246, 93, 189, 35, 25, 143, 251, 104, 62, 45, 210, 63, 216, 8]
theorem sha_y0 : shaL ((nmK 77).1 ++ (nmK 1).1) = y0 := by decide +kernel
theorem above_y1 : aboveL (fun i => if i = 1 then y0 else Z32) = y1 := by decide +kernel
theorem above_y2 : aboveL (fun i => if i = 3 then y1 else Z32) = y2 := by decide +kernel
theorem above_y3 : aboveL (fun i => if i = 0 then y2 else Z32) = y3 := by decide +kernel
theorem above_y4 : aboveL (fun i => if i = 1 then y3 else Z32) = y4 := by decide +kernel
theorem y0_ne : y0 ≠ Z32 := by decide
theorem y1_ne : y1 ≠ Z32 := by decide
theorem y2_ne : y2 ≠ Z32 := by decide
theorem y3_ne : y3 ≠ Z32 := by decide
theorem y4_ne : y4 ≠ Z32 := by decide
def one77 : Rw := setR [] (nmK 77) (nmK 1)
theorem one77_is : one77 = [(nmK 77, nmK 1)] := by decide +kernel
theorem leaf77 : leafOf (nmK 77) = 77 := rfl
theorem o77_off {h a : Nat} (ha : 77 / 4 ^ h ≠ a) : nodeR one77 h a = Z32 := by
  have h1 := nodeR_off [] (nmK 77) (nmK 1) (h := h) (a := a) ha
  rw [nodeR_nil] at h1
  exact h1
theorem o77_0 : nodeR one77 0 77 = y0 := by
  show leafR one77 77 = y0
  have h1 : inLeaf [(nmK 77, nmK 1)] 77 = [(nmK 77, nmK 1)] := by decide +kernel
  have h2 : joinR [(nmK 77, nmK 1)] = (nmK 77).1 ++ (nmK 1).1 := by simp [joinR]
  rw [one77_is]
  unfold leafR
  rw [h1, h2, sha_y0]
  rfl
theorem o77_1 : nodeR one77 1 19 = y1 := by
  refine Eq.trans (aboveL_congr fun i hi => ?_) above_y1
  by_cases e : i = 1
  · subst e
    rw [if_pos rfl]
    exact o77_0
  · rw [if_neg e]
    exact o77_off (by simp; omega)
theorem o77_2 : nodeR one77 2 4 = y2 := by
  refine Eq.trans (aboveL_congr fun i hi => ?_) above_y2
  by_cases e : i = 3
  · subst e
    rw [if_pos rfl]
    exact o77_1
  · rw [if_neg e]
    exact o77_off (by simp; omega)
theorem o77_3 : nodeR one77 3 1 = y3 := by
  refine Eq.trans (aboveL_congr fun i hi => ?_) above_y3
  by_cases e : i = 0
  · subst e
    rw [if_pos rfl]
    exact o77_2
  · rw [if_neg e]
    exact o77_off (by simp; omega)
theorem o77_4 : nodeR one77 4 0 = y4 := by
  refine Eq.trans (aboveL_congr fun i hi => ?_) above_y4
  by_cases e : i = 1
  · subst e
    rw [if_pos rfl]
    exact o77_3
  · rw [if_neg e]
    exact o77_off (by simp; omega)
theorem o77_on {h a : Nat} {y : List UInt8} (h1 : nodeR one77 h a = y) (h2 : y ≠ Z32) : nodeR one77 h a ≠ nodeR [] h a := by
  rw [h1, nodeR_nil]
  exact h2
theorem o77_same {h a : Nat} (ha : 77 / 4 ^ h ≠ a) : nodeR one77 h a = nodeR [] h a := by rw [o77_off ha, nodeR_nil]
theorem lv77_0 : levelL one77 [] 0 = [0] := rfl
theorem lv77_1 : levelL one77 [] 1 = [0, 1, 2, 3] := by
  show unlikeL one77 [] 0 (levelL one77 [] 0) = _
  rw [lv77_0]
  unfold unlikeL
  simp only [List.flatMap_cons, List.flatMap_nil]
  rw [if_neg (show ¬ nodeR one77 (4 - 0) 0 = nodeR [] (4 - 0) 0 from o77_on o77_4 y4_ne)]
  decide
theorem lv77_2 : levelL one77 [] 2 = [4, 5, 6, 7] := by
  show unlikeL one77 [] 1 (levelL one77 [] 1) = _
  rw [lv77_1]
  unfold unlikeL
  simp only [List.flatMap_cons, List.flatMap_nil]
  rw [if_pos (show nodeR one77 (4 - 1) 0 = nodeR [] (4 - 1) 0 from o77_same (by decide))]
  rw [if_neg (show ¬ nodeR one77 (4 - 1) 1 = nodeR [] (4 - 1) 1 from o77_on o77_3 y3_ne)]
  rw [if_pos (show nodeR one77 (4 - 1) 2 = nodeR [] (4 - 1) 2 from o77_same (by decide))]
  rw [if_pos (show nodeR one77 (4 - 1) 3 = nodeR [] (4 - 1) 3 from o77_same (by decide))]
  decide
theorem lv77_3 : levelL one77 [] 3 = [16, 17, 18, 19] := by
  show unlikeL one77 [] 2 (levelL one77 [] 2) = _
  rw [lv77_2]
  unfold unlikeL
  simp only [List.flatMap_cons, List.flatMap_nil]
  rw [if_neg (show ¬ nodeR one77 (4 - 2) 4 = nodeR [] (4 - 2) 4 from o77_on o77_2 y2_ne)]
  rw [if_pos (show nodeR one77 (4 - 2) 5 = nodeR [] (4 - 2) 5 from o77_same (by decide))]
  rw [if_pos (show nodeR one77 (4 - 2) 6 = nodeR [] (4 - 2) 6 from o77_same (by decide))]
  rw [if_pos (show nodeR one77 (4 - 2) 7 = nodeR [] (4 - 2) 7 from o77_same (by decide))]
  decide
theorem lv77_4 : levelL one77 [] 4 = [76, 77, 78, 79] := by
  show unlikeL one77 [] 3 (levelL one77 [] 3) = _
  rw [lv77_3]
  unfold unlikeL
  simp only [List.flatMap_cons, List.flatMap_nil]
  rw [if_pos (show nodeR one77 (4 - 3) 16 = nodeR [] (4 - 3) 16 from o77_same (by decide))]
  rw [if_pos (show nodeR one77 (4 - 3) 17 = nodeR [] (4 - 3) 17 from o77_same (by decide))]
  rw [if_pos (show nodeR one77 (4 - 3) 18 = nodeR [] (4 - 3) 18 from o77_same (by decide))]
  rw [if_neg (show ¬ nodeR one77 (4 - 3) 19 = nodeR [] (4 - 3) 19 from o77_on o77_1 y1_ne)]
  decide
theorem lv77_5 : levelL one77 [] 5 = [77] := by
  show unlikeL one77 [] 4 (levelL one77 [] 4) = _
  rw [lv77_4]
  unfold unlikeL
  simp only [List.flatMap_cons, List.flatMap_nil]
  rw [if_pos (show nodeR one77 (4 - 4) 76 = nodeR [] (4 - 4) 76 from o77_same (by decide))]
  rw [if_neg (show ¬ nodeR one77 (4 - 4) 77 = nodeR [] (4 - 4) 77 from o77_on o77_0 y0_ne)]
  rw [if_pos (show nodeR one77 (4 - 4) 78 = nodeR [] (4 - 4) 78 from o77_same (by decide))]
  rw [if_pos (show nodeR one77 (4 - 4) 79 = nodeR [] (4 - 4) 79 from o77_same (by decide))]
  decide
theorem told_succ (R S : Rw) (l : Nat) : toldL R S (l + 1) = toldL R S l + (levelL R S l).length := rfl
theorem told77 : toldL one77 [] 5 = 17 := by
  rw [told_succ one77 [] 4, told_succ one77 [] 3, told_succ one77 [] 2, told_succ one77 [] 1, told_succ one77 [] 0, lv77_0, lv77_1, lv77_2, lv77_3, lv77_4]
  rfl
end Go.Proofs.YthpgldfjcancjaaDoor
