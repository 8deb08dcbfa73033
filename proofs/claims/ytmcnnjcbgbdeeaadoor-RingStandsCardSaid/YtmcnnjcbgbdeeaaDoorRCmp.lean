/- The walks of the ring's small functions: comparing, looking for a number in a row. No condition. -/
import Derived.Test.YtmcnnjcbgbdeeaaDoorRingP
import Derived.Test.YtmcnnjcbgbdeeaaDoorKitA
namespace Go.Proofs.YtmcnnjcbgbdeeaaDoor
open Go.RowKit
/-- Which comes first? -/
def cmpZ (a b : Int) : Int := if a < b then -1 else if b < a then 1 else 0
set_option maxHeartbeats 1000000 in
theorem nanU (a : Int) (w : World) : Calls Tryd.prog 36 #[.int .u64 a] w fun e w' => e = .returned (.bool false) ∧ w = w' := by
  go_enter Tryd.func36, Tryd.ntmps36
  go_wp2_with fail
  go_ret
  exact ⟨rfl, rfl⟩
set_option maxHeartbeats 1000000 in
theorem nanI (a : Int) (w : World) : Calls Tryd.prog 37 #[.int .i64 a] w fun e w' => e = .returned (.bool false) ∧ w = w' := by
  go_enter Tryd.func37, Tryd.ntmps37
  go_wp2_with fail
  go_ret
  exact ⟨rfl, rfl⟩
set_option maxHeartbeats 2000000 in
theorem cmpU_any (a b : Int) (w : World) : Calls Tryd.prog 21 #[.int .u64 a, .int .u64 b] w fun e w' => e = .returned (.int .i64 (cmpZ a b)) ∧ w = w' := by
  have HN := Lib.hid nanU
  unfold cmpZ
  by_cases h1 : a < b
  · rw [if_pos h1]
    go_enter Tryd.func21, Tryd.ntmps21
    go_wp2_with fail
    refine (HN.out a w).mono ?_
    rintro e _ ⟨rfl, rfl⟩
    go_wp2_with fail
    refine (HN.out b w).mono ?_
    rintro e _ ⟨rfl, rfl⟩
    go_wp2_with fail
    go_ret
    exact ⟨rfl, rfl⟩
  · rw [if_neg h1]
    by_cases h2 : b < a
    · rw [if_pos h2]
      go_enter Tryd.func21, Tryd.ntmps21
      go_wp2_with fail
      refine (HN.out a w).mono ?_
      rintro e _ ⟨rfl, rfl⟩
      go_wp2_with fail
      refine (HN.out b w).mono ?_
      rintro e _ ⟨rfl, rfl⟩
      go_wp2_with fail
      go_ret
      exact ⟨rfl, rfl⟩
    · rw [if_neg h2]
      go_enter Tryd.func21, Tryd.ntmps21
      go_wp2_with fail
      refine (HN.out a w).mono ?_
      rintro e _ ⟨rfl, rfl⟩
      go_wp2_with fail
      refine (HN.out b w).mono ?_
      rintro e _ ⟨rfl, rfl⟩
      go_wp2_with fail
      go_ret
      exact ⟨rfl, rfl⟩
set_option maxHeartbeats 2000000 in
theorem cmpI_any (a b : Int) (w : World) : Calls Tryd.prog 22 #[.int .i64 a, .int .i64 b] w fun e w' => e = .returned (.int .i64 (cmpZ a b)) ∧ w = w' := by
  have HN := Lib.hid nanI
  unfold cmpZ
  by_cases h1 : a < b
  · rw [if_pos h1]
    go_enter Tryd.func22, Tryd.ntmps22
    go_wp2_with fail
    refine (HN.out a w).mono ?_
    rintro e _ ⟨rfl, rfl⟩
    go_wp2_with fail
    refine (HN.out b w).mono ?_
    rintro e _ ⟨rfl, rfl⟩
    go_wp2_with fail
    go_ret
    exact ⟨rfl, rfl⟩
  · rw [if_neg h1]
    by_cases h2 : b < a
    · rw [if_pos h2]
      go_enter Tryd.func22, Tryd.ntmps22
      go_wp2_with fail
      refine (HN.out a w).mono ?_
      rintro e _ ⟨rfl, rfl⟩
      go_wp2_with fail
      refine (HN.out b w).mono ?_
      rintro e _ ⟨rfl, rfl⟩
      go_wp2_with fail
      go_ret
      exact ⟨rfl, rfl⟩
    · rw [if_neg h2]
      go_enter Tryd.func22, Tryd.ntmps22
      go_wp2_with fail
      refine (HN.out a w).mono ?_
      rintro e _ ⟨rfl, rfl⟩
      go_wp2_with fail
      refine (HN.out b w).mono ?_
      rintro e _ ⟨rfl, rfl⟩
      go_wp2_with fail
      go_ret
      exact ⟨rfl, rfl⟩
set_option maxHeartbeats 4000000 in
theorem index_any (A : Option Addr) (n c : Nat) (l : List Int) (x : Int) (w : World) (hr : Rd w A n (l.map (Value.int .i64))) (hn : n ≤ 1000000) :
    Calls Tryd.prog 38 #[.slice A n c, .int .i64 x] w fun e w' => e = .returned (.int .i64 (if x ∈ l then (l.idxOf x : Int) else -1)) ∧ w = w' := by
  have hl : l.length = n := by simpa using hr.1
  obtain ⟨r, hrr⟩ : ∃ r : Int, r = if x ∈ l then (l.idxOf x : Int) else -1 := ⟨_, rfl⟩
  rw [← hrr]
  have HR := Lib.hid hrr
  clear hrr
  go_enter Tryd.func38, Tryd.ntmps38
  go_wp2_with fail
  go_simp
  go_loopw [8] (fun i wr => ∃ k : Nat, k ≤ n ∧ i = .int .i64 (k : Int) ∧ (∀ j, j < k → l[j]? ≠ some x) ∧ w = wr) (fun i _ => n - (intOf i).toNat)
  case atStart => exact ⟨0, Nat.zero_le _, rfl, fun j h => by omega, rfl⟩
  case round =>
    obtain ⟨k, hk, rfl, hno, rfl⟩ := hrel
    by_cases hlt : k < n
    · obtain ⟨y, hy⟩ : ∃ y, l[k]? = some y := ⟨l[k]'(by omega), List.getElem?_eq_getElem (by omega)⟩
      have hki : (k : Int) < (n : Int) := by omega
      obtain ⟨ad, rfl, hc⟩ := hr.2 k (.int .i64 y) (by rw [List.getElem?_map, hy]; rfl)
      by_cases hxy : x = y
      · subst hxy
        have hidx : l.idxOf x = k := by
          have hm : x ∈ l := List.mem_of_getElem? hy
          have h1 := List.idxOf_lt_length_of_mem hm
          have h2 := List.getElem_idxOf h1
          rcases Nat.lt_trichotomy (l.idxOf x) k with h | h | h
          · exact absurd (by rw [List.getElem?_eq_getElem h1, h2]) (hno _ h)
          · exact h
          · exfalso
            have h3 := List.not_of_lt_findIdx (p := (· == x)) (xs := l) (i := k) (by rw [List.idxOf] at h; exact h)
            rw [List.getElem?_eq_getElem (by omega)] at hy
            injection hy with hy
            simp [hy] at h3
        have hre : r = (k : Int) := by rw [HR.out, if_pos (List.mem_of_getElem? hy), hidx]
        subst hre
        go_wp2_with fail
        go_ret
        exact ⟨rfl, rfl⟩
      · have hxb : (x == y) = false := beq_false_of_ne hxy
        have hno2 : ∀ j, j < k + 1 → l[j]? ≠ some x := fun j hj => by
          rcases Nat.lt_or_eq_of_le (Nat.le_of_lt_succ hj) with h | h
          · exact hno j h
          · subst h
            rw [hy]
            intro e
            injection e with e
            exact hxy e.symm
        clear hno hy
        go_wp2_with fail
        exact ⟨⟨k + 1, hlt, by go_num, hno2, trivial⟩, by simp [intOf]; omega⟩
    · have hki : ¬ (k : Int) < (n : Int) := by omega
      have hm : x ∉ l := fun h => by
        have h1 := List.idxOf_lt_length_of_mem h
        exact hno (l.idxOf x) (by omega) (by rw [List.getElem?_eq_getElem h1, List.getElem_idxOf h1])
      have hre : r = -1 := by rw [HR.out, if_neg hm]
      subst hre
      clear hno hm
      go_wp2_with fail
      go_ret
      exact ⟨rfl, rfl⟩
set_option maxHeartbeats 2000000 in
theorem contains_any (A : Option Addr) (n c : Nat) (l : List Int) (x : Int) (w : World) (hr : Rd w A n (l.map (Value.int .i64))) (hn : n ≤ 1000000) :
    Calls Tryd.prog 25 #[.slice A n c, .int .i64 x] w fun e w' => e = .returned (.bool (decide (x ∈ l))) ∧ w = w' := by
  have HI := Lib.hid (index_any A n c l x w hr hn)
  by_cases hm : x ∈ l
  · have hP := HI.out
    rw [if_pos hm] at hP
    have hz : 0 ≤ (l.idxOf x : Int) := by omega
    generalize (l.idxOf x : Int) = z at hP hz
    rw [decide_eq_true hm]
    clear HI hm
    go_enter Tryd.func25, Tryd.ntmps25
    go_wp2_with fail
    refine hP.mono ?_
    rintro e _ ⟨rfl, rfl⟩
    go_wp2_with fail
    go_ret
    exact ⟨rfl, rfl⟩
  · have hP := HI.out
    rw [if_neg hm] at hP
    rw [decide_eq_false hm]
    clear HI hm
    go_enter Tryd.func25, Tryd.ntmps25
    go_wp2_with fail
    refine hP.mono ?_
    rintro e _ ⟨rfl, rfl⟩
    go_wp2_with fail
    go_ret
    exact ⟨rfl, rfl⟩
end Go.Proofs.YtmcnnjcbgbdeeaaDoor
