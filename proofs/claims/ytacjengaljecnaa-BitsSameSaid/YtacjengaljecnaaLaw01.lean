import Derived.Test.YtacjengaljecnaaBits
namespace Go.Proofs.Ytacjengaljecnaa
open Go.RowKit

set_option maxHeartbeats 400000 in
/-- The reference's Left. -/
theorem refLeft_any (x : UInt32) (n : Int) (w : World) :
    Calls Try.prog 10 #[.int .u32 x.toNat, .int .i64 n] w fun e w' => e = .returned (.int .u32 (leftU x n).toNat) ∧ w = w' := by
  have hx := x.toNat_lt
  obtain ⟨m, hm, hmn, hmr⟩ : ∃ m : Nat, m < 32 ∧ Hid (m = (n % 32).toNat) ∧ n % 32 = m := ⟨(n % 32).toNat, by omega, rfl, by omega⟩
  obtain ⟨r, hr, e0⟩ : ∃ r : Int, (r < 0 ∧ r + 32 = m ∨ r = m) ∧ n.tmod 32 = r := by
    refine ⟨_, ?_, rfl⟩
    rw [Int.tmod_eq_emod]
    split <;> omega
  clear hmr
  have HE : Hid (leftU x n = rotl x m) := by show _ = _; rw [leftU, ← hmn.out]
  go_enter Try.func10, Try.ntmps10
  by_cases hr0 : r < 0
  all_goals
    go_wp2
    go_loop [0, 6] (fun y i => ∃ k q : Nat, k ≤ m ∧ i = .int .i64 k ∧ y = .int .u32 q ∧ Hid (q = (rotl x k).toNat) ∧ q < 4294967296) (fun _ i => m - (intOf i).toNat)
    case atStart => exact ⟨0, _, Nat.zero_le _, rfl, rfl, by rw [rotl_zero]; rfl, hx⟩
    case round =>
      obtain ⟨k, q, hk, rfl, rfl, hq, hqb⟩ := hrel
      by_cases hlt : k < m
      · have HQ : Hid ((q * 2 % 4294967296 + q / 2147483648) % 4294967296 = (rotl x (k + 1)).toNat) := by
          show _ = _
          rw [hq.out]; exact rotl_succ x k (by omega)
        go_wp2
        go_round
        case rel => exact ⟨k + 1, _, by omega, by go_num, by go_num, HQ, by omega⟩
        case measure => simp [intOf]; omega
      · obtain rfl : k = m := by omega
        go_wp2
        go_ret
        rw [HE.out, ← hq.out]
        exact ⟨rfl, rfl⟩

/-- A constant word turned. -/
theorem left_one (w : World) : Calls Try.prog 8 #[.int .u32 2147483648, .int .i64 1] w fun e w' => e = .returned (.int .u32 1) ∧ w = w' :=
  left_any 2147483648 1 w

/-- PutLow and PutHigh of a count that is known. -/
theorem putLow_k (x k : Nat) (hx : x < 18446744073709551616) (hk : k ≤ 64) (w : World) :
    Calls Try.prog 23 #[.int .u64 x, .int .i64 k] w fun e w' => ∃ v, e = .returned v ∧
      w'.ownsRow w.heap.size 5 1 v k (u8s (leBytes k x)) ∧ Below w.heap.size w w' := by
  have h := putLow_any x hx k w
  rwa [show (min (k : Int) 64).toNat = k by omega] at h
theorem putHigh_k (x k : Nat) (hx : x < 18446744073709551616) (hk : k ≤ 64) (w : World) :
    Calls Try.prog 14 #[.int .u64 x, .int .i64 k] w fun e w' => ∃ v, e = .returned v ∧
      w'.ownsRow w.heap.size 5 1 v k (u8s (leBytes k x).reverse) ∧ Below w.heap.size w w' := by
  have h := putHigh_any x hx k w
  rwa [show (min (k : Int) 64).toNat = k by omega] at h

set_option maxHeartbeats 400000 in
/-- Does a bit turn round? -/
theorem turns_any (w : World) : Calls Try.prog 9 #[] w fun e w' => e = .returned (.bool true) ∧ Below w.heap.size w w' := by
  go_enter Try.func9, Try.ntmps9
  go_wp2_with fail
  refine (int_no 9223372036854775808 (by omega) (by omega) _).mono ?_
  rintro e w1 ⟨rfl, rfl⟩
  go_wp2_with fail
  refine (left_one _).mono ?_
  rintro e w1 ⟨rfl, rfl⟩
  go_wp2_with fail
  refine (putHigh_k 258 3 (by omega) (by omega) _).mono ?_
  rintro e w1 ⟨v, rfl, ho, hb⟩
  obtain ⟨A, c, rfl, hc, hA⟩ := own_form ho
  have hcv := run_str (P := Try.prog) (c := c) w1 Try.underlying35 Try.underlying5 Try.underlying9 (Rd.of_own ho)
  clear ho hA
  rw [show (leBytes 3 258).reverse = [0, 1, 2] from rfl] at hcv
  go_wp2_with fail
  go_ret
  exact ⟨rfl, hb⟩

set_option maxHeartbeats 400000 in
/-- The law BitsTurns. -/
theorem law_turns (x : UInt32) (n : Int) (w : World) :
    Calls Try.prog 3 #[.int .u32 x.toNat, .int .i64 n] w fun e w' => e = .returned (.bool true) ∧ Below w.heap.size w w' := by
  have hb := leftU_back x n
  have ht1 : -31 ≤ n.tmod 32 := by rw [Int.tmod_eq_emod]; split <;> omega
  have ht2 : n.tmod 32 ≤ 31 := by rw [Int.tmod_eq_emod]; split <;> omega
  go_enter Try.func3, Try.ntmps3
  go_wp2_with fail
  refine (left_any x n _).mono ?_
  rintro e w1 ⟨rfl, rfl⟩
  go_wp2_with fail
  refine (left_any _ _ _).mono ?_
  rintro e w1 ⟨rfl, rfl⟩
  rw [hb]
  go_wp2_with fail
  refine (turns_any _).mono ?_
  rintro e w1 ⟨rfl, hb1⟩
  go_wp2_with fail
  refine (refLeft_any x n _).mono ?_
  rintro e w2 ⟨rfl, rfl⟩
  go_wp2_with fail
  go_ret
  exact ⟨rfl, hb1⟩

end Go.Proofs.Ytacjengaljecnaa
