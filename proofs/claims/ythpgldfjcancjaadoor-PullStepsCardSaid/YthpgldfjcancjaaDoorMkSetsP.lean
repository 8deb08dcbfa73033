/- The order of rows by leaves: the plain law. No condition. -/
import Derived.Test.YthpgldfjcancjaaDoorMkPl
namespace Go.Proofs.YthpgldfjcancjaaDoor
open Go.RowKit
theorem insR_length (k d : Nm) : ∀ R : Rw, (insR k d R).length ≤ R.length + 1
  | [] => by simp [insR]
  | r :: R => by
    unfold insR
    split
    · have := insR_length k d R
      simp only [List.length_cons]
      omega
    · have := List.length_filter_le (fun p : Nm × Nm => decide (p.1 ≠ k)) (r :: R)
      simp only [List.length_cons] at this ⊢
      omega
theorem setR_length (R : Rw) (k d : Nm) : (setR R k d).length ≤ R.length + 1 := by
  unfold setR
  split
  · have := List.length_filter_le (fun p : Nm × Nm => decide (p.1 ≠ k)) R
    omega
  · exact insR_length k d R
theorem cb_first {a b : Nm} (h : Lib.compareBytes a.1 b.1 < 0) : leafOf a ≤ leafOf b := by
  obtain ⟨a, ha⟩ := a
  obtain ⟨b, hb⟩ := b
  unfold leafOf
  match a, b, ha, hb with
  | x :: a, y :: b, _, _ =>
    simp only [List.getD_cons_zero]
    unfold Lib.compareBytes at h
    by_cases h1 : x < y
    · exact Nat.le_of_lt (UInt8.lt_iff_toNat_lt.1 h1)
    · by_cases h2 : y < x
      · rw [if_neg h1, if_pos h2] at h
        omega
      · exact Nat.le_of_not_lt fun h3 => h2 (UInt8.lt_iff_toNat_lt.2 h3)
/-- How many rows lie in the leaves below. -/
def cnt (R : Rw) (l : Nat) : Nat := (R.filter fun p => decide (leafOf p.1 < l)).length
theorem cnt_cons (p : Nm × Nm) (R : Rw) (l : Nat) : cnt (p :: R) l = (if leafOf p.1 < l then 1 else 0) + cnt R l := by
  unfold cnt
  rw [List.filter_cons]
  by_cases e : leafOf p.1 < l
  · rw [if_pos (by simpa using e), if_pos e, List.length_cons]; omega
  · rw [if_neg (by simpa using e), if_neg e]; omega
theorem cnt_zero (R : Rw) : cnt R 0 = 0 := by
  unfold cnt
  rw [List.filter_eq_nil_iff.2 (by simp)]
  rfl
theorem cnt_all (R : Rw) : cnt R 256 = R.length := by
  unfold cnt
  rw [List.filter_eq_self.2 fun p _ => by
    have := (p.1.1.getD 0 0).toNat_lt
    simpa [leafOf] using this]
theorem cnt_succ (l : Nat) : ∀ R : Rw, cnt R (l + 1) = cnt R l + (inLeaf R l).length
  | [] => rfl
  | p :: R => by
    have ih := cnt_succ l R
    have h1 : (inLeaf (p :: R) l).length = (if leafOf p.1 = l then 1 else 0) + (inLeaf R l).length := by
      unfold inLeaf
      rw [List.filter_cons]
      by_cases e : leafOf p.1 = l
      · rw [if_pos (by simpa using e), if_pos e, List.length_cons]; omega
      · rw [if_neg (by simpa using e), if_neg e]; omega
    rw [cnt_cons, cnt_cons, ih, h1]
    by_cases e : leafOf p.1 = l
    · rw [if_pos e, if_pos (by omega), if_neg (by omega)]; omega
    · rw [if_neg e]
      by_cases h : leafOf p.1 < l
      · rw [if_pos h, if_pos (by omega)]; omega
      · rw [if_neg h, if_neg (by omega)]; omega
theorem cnt_none {R : Rw} {l : Nat} (h : ∀ q ∈ R, l ≤ leafOf q.1) : cnt R l = 0 := by
  unfold cnt
  rw [List.filter_eq_nil_iff.2 fun q hq => by
    have := h q hq
    simpa using this]
  rfl
/-- The rows of a leaf, at their places. -/
theorem leaf_at {l i : Nat} {r : Nm × Nm} : ∀ {R : Rw}, SortedR R → (inLeaf R l)[i]? = some r → R[cnt R l + i]? = some r
  | [], _, h => by simp [inLeaf] at h
  | p :: R, hS, h => by
    obtain ⟨h1, h2⟩ := List.pairwise_cons.1 hS
    have hle : ∀ q ∈ R, leafOf p.1 ≤ leafOf q.1 := fun q hq => cb_first (h1 q hq)
    unfold inLeaf at h
    rw [List.filter_cons] at h
    rw [cnt_cons]
    by_cases e : leafOf p.1 = l
    · rw [if_pos (by simpa using e)] at h
      have hz : cnt R l = 0 := cnt_none fun q hq => by have := hle q hq; omega
      rw [if_neg (by omega), hz]
      match i, h with
      | 0, h => simpa using h
      | i + 1, h =>
        rw [List.getElem?_cons_succ] at h
        have ih := leaf_at h2 h
        rw [hz] at ih
        simpa using ih
    · rw [if_neg (by simpa using e)] at h
      by_cases hlt : leafOf p.1 < l
      · rw [if_pos hlt, show 1 + cnt R l + i = cnt R l + i + 1 by omega, List.getElem?_cons_succ]
        exact leaf_at h2 h
      · have hr := List.mem_of_getElem? h
        obtain ⟨hr1, hr2⟩ := List.mem_filter.1 hr
        have := hle r hr1
        have hr2 : leafOf r.1 = l := by simpa using hr2
        omega
theorem leaf_get {R : Rw} (hS : SortedR R) {l i : Nat} {r : Nm × Nm} (h : (inLeaf R l)[i]? = some r) : (look R r.1.1).getD Z32 = r.2.1 ∧ leafOf r.1 = l := by
  have hr := List.mem_of_getElem? h
  obtain ⟨hr1, hr2⟩ := List.mem_filter.1 hr
  exact ⟨by rw [look_mem hS (d := r.2) hr1]; rfl, by simpa using hr2⟩
end Go.Proofs.YthpgldfjcancjaaDoor
