/- A tree of one name: its root. No condition. -/
import Derived.Test.YtamhjhkmckefbaaDoorMkPl
import Derived.Test.YtamhjhkmckefbaaDoorMkSetR
namespace Go.Proofs.YtamhjhkmckefbaaDoor
open Go.RowKit
def nmK (l : UInt8) : Nm := ⟨l :: List.replicate 31 0, rfl⟩
def x0 : List UInt8 := [255, 85, 201, 121, 118, 168, 64, 180, 206, 217, 100, 237, 73, 227, 121, 69, 148, 186, 63, 103, 82, 56, 181, 253, 37, 210, 130, 182, 15, 112, 161, 148]
def x1 : List UInt8 := [195, 241, 146, 159, 172, 64, 172, 203, 24, 73, 31, 254, 151, 206, 143, 209, 210, 246, 106, 15, 233, 38, 11, 49, 167, 240, 87, 169, 229, 67, 163, 222]
def x2 : List UInt8 := [87, 197, 175, 74, 11, 54, 25, 182, 129, 210, 191, 54, 252, 104, 238, 75, 214, 75, 187, 127, 159, 10, 71, 193, 175, 177, 245, 36, 87, 203, 190, 149]
def x3 : List UInt8 := [213, 49, 38, 7, 75, 164, 45, 24, 152, 230, 230, 202, 104, 100, 79, 200, 137, 237, 14, 181, 7, 102, 154, 100, 196, 30, 238, 131, 189, 88, 99, 139]
def x4 : List UInt8 := [124, 49, 91, 46, 209, 132, 143, 154, 182, 142, 238, 168, 56, 220, 206, 229, 96, 20, 223, 151, 126, 221, 73, 118, 136, 127, 207, 58, 9, 143, 106, 193]
theorem sha_x0 : shaL ((nmK 1).1 ++ (nmK 2).1) = x0 := by decide +kernel
theorem above_x1 : aboveL (fun i => if i = 1 then x0 else Z32) = x1 := by decide +kernel
theorem above_x2 : aboveL (fun i => if i = 0 then x1 else Z32) = x2 := by decide +kernel
theorem above_x3 : aboveL (fun i => if i = 0 then x2 else Z32) = x3 := by decide +kernel
theorem above_x4 : aboveL (fun i => if i = 0 then x3 else Z32) = x4 := by decide +kernel
theorem x4_ne : x4 ≠ Z32 := by decide
def oneR (k d : Nm) : Rw := setR [] k d
theorem oneR_is : oneR (nmK 1) (nmK 2) = [(nmK 1, nmK 2)] := by decide +kernel
theorem one_off {h a : Nat} (ha : 1 / 4 ^ h ≠ a) : nodeR (oneR (nmK 1) (nmK 2)) h a = Z32 := by
  have h1 := nodeR_off [] (nmK 1) (nmK 2) (h := h) (a := a) ha
  rw [nodeR_nil] at h1
  exact h1
theorem one_0 : nodeR (oneR (nmK 1) (nmK 2)) 0 1 = x0 := by
  show leafR (oneR (nmK 1) (nmK 2)) 1 = x0
  have h1 : inLeaf [(nmK 1, nmK 2)] 1 = [(nmK 1, nmK 2)] := by decide +kernel
  have h2 : joinR [(nmK 1, nmK 2)] = (nmK 1).1 ++ (nmK 2).1 := by simp [joinR]
  rw [oneR_is]
  unfold leafR
  rw [h1, h2, sha_x0]
  rfl
theorem one_1 : nodeR (oneR (nmK 1) (nmK 2)) 1 0 = x1 := by
  refine Eq.trans (aboveL_congr fun i hi => ?_) above_x1
  by_cases e : i = 1
  · subst e
    rw [if_pos rfl]
    exact one_0
  · rw [if_neg e]
    exact one_off (by simp; omega)
theorem one_2 : nodeR (oneR (nmK 1) (nmK 2)) 2 0 = x2 := by
  refine Eq.trans (aboveL_congr fun i hi => ?_) above_x2
  by_cases e : i = 0
  · subst e
    rw [if_pos rfl]
    exact one_1
  · rw [if_neg e]
    exact one_off (by simp; omega)
theorem one_3 : nodeR (oneR (nmK 1) (nmK 2)) 3 0 = x3 := by
  refine Eq.trans (aboveL_congr fun i hi => ?_) above_x3
  by_cases e : i = 0
  · subst e
    rw [if_pos rfl]
    exact one_2
  · rw [if_neg e]
    exact one_off (by simp; omega)
theorem one_4 : nodeR (oneR (nmK 1) (nmK 2)) 4 0 = x4 := by
  refine Eq.trans (aboveL_congr fun i hi => ?_) above_x4
  by_cases e : i = 0
  · subst e
    rw [if_pos rfl]
    exact one_3
  · rw [if_neg e]
    exact one_off (by simp; omega)
theorem one_root : nodeR (oneR (nmK 1) (nmK 2)) 4 0 ≠ Z32 := by
  rw [one_4]
  exact x4_ne
theorem one_names : (inLeaf (oneR (nmK 1) (nmK 2)) 1).length = 1 := by
  rw [oneR_is]
  decide +kernel
end Go.Proofs.YtamhjhkmckefbaaDoor
