import Derived.Test.YtbpgodkdbbiadaaDoorBits
namespace Go.Proofs.YtbpgodkdbbiadaaDoor
open Go.RowKit

set_option maxHeartbeats 400000 in
/-- The reference's Left. -/
theorem refLeft_any (x : UInt32) (n : Int) (w : World) :
    Calls Tryd.prog 24 #[.int .u32 x.toNat, .int .i64 n] w fun e w' => e = .returned (.int .u32 (leftU x n).toNat) ∧ w = w' := by
  have hx := x.toNat_lt
  obtain ⟨m, hm, hmn, hmr⟩ : ∃ m : Nat, m < 32 ∧ Hid (m = (n % 32).toNat) ∧ n % 32 = m := ⟨(n % 32).toNat, by omega, rfl, by omega⟩
  obtain ⟨r, hr, e0⟩ : ∃ r : Int, (r < 0 ∧ r + 32 = m ∨ r = m) ∧ n.tmod 32 = r := by
    refine ⟨_, ?_, rfl⟩
    rw [Int.tmod_eq_emod]
    split <;> omega
  clear hmr
  have HE : Hid (leftU x n = rotl x m) := by show _ = _; rw [leftU, ← hmn.out]
  go_enter Tryd.func24, Tryd.ntmps24
  by_cases hr0 : r < 0
  all_goals
    go_wp2
    go_loop [0, 6] (fun y i => ∃ k q : Nat, k ≤ m ∧ i = .int .i64 k ∧ y = .int .u32 q ∧ Hid (q = (rotl x k).toNat) ∧ q < 4294967296) (fun _ i => m - (intOf i).toNat)
    case atStart => exact ⟨0, _, Nat.zero_le _, rfl, rfl, by rw [rotl_zero]; rfl, hx⟩
    case round =>
      obtain ⟨k, q, hk, rfl, rfl, hq, hqb⟩ := hrel
      by_cases hlt : k < m
      · have HQ : Hid ((q * 2 % 4294967296 + q / 2147483648) % 4294967296 = (rotl x (k + 1)).toNat) := by
          show _ = _
          rw [hq.out]; exact rotl_succ x k (by omega)
        go_wp2
        go_round
        case rel => exact ⟨k + 1, _, by omega, by go_num, by go_num, HQ, by omega⟩
        case measure => simp [intOf]; omega
      · obtain rfl : k = m := by omega
        go_wp2
        go_ret
        rw [HE.out, ← hq.out]
        exact ⟨rfl, rfl⟩

/-- A constant word turned. -/
theorem left_one (w : World) : Calls Tryd.prog 34 #[.int .u32 2147483648, .int .i64 1] w fun e w' => e = .returned (.int .u32 1) ∧ w = w' :=
  left_any 2147483648 1 w

/-- PutLow and PutHigh of a count that is known. -/
theorem putLow_k (x k : Nat) (hx : x < 18446744073709551616) (hk : k ≤ 64) (w : World) :
    Calls Tryd.prog 26 #[.int .u64 x, .int .i64 k] w fun e w' => ∃ v, e = .returned v ∧
      w'.ownsRow w.heap.size 5 1 v k (u8s (leBytes k x)) ∧ Below w.heap.size w w' := by
  have h := putLow_any x hx k w
  rwa [show (min (k : Int) 64).toNat = k by omega] at h
theorem putHigh_k (x k : Nat) (hx : x < 18446744073709551616) (hk : k ≤ 64) (w : World) :
    Calls Tryd.prog 19 #[.int .u64 x, .int .i64 k] w fun e w' => ∃ v, e = .returned v ∧
      w'.ownsRow w.heap.size 5 1 v k (u8s (leBytes k x).reverse) ∧ Below w.heap.size w w' := by
  have h := putHigh_any x hx k w
  rwa [show (min (k : Int) 64).toNat = k by omega] at h

end Go.Proofs.YtbpgodkdbbiadaaDoor
