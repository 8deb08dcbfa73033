/- The walk of the law BitsAdds. -/
import Derived.Test.YtacjengaljecnaaLaw01
import Derived.BigQuiet
namespace Go.Proofs.Ytacjengaljecnaa
open Go.RowKit

theorem beNat_append (a b : List UInt8) : beNat (a ++ b) = beNat a * 256 ^ b.length + beNat b := by
  unfold beNat
  rw [List.reverse_append, leNat_append, List.length_reverse, Nat.mul_comm, Nat.add_comm]

set_option maxHeartbeats 1000000 in
/-- The law BitsAdds. -/
theorem law_adds (x : UInt32) (n0 n1 : Int) (y : Nat) (hy : y < 18446744073709551616) (w : World) :
    Calls Try.prog 5 #[.int .u32 x.toNat, .agg #[.int .i64 n0, .int .i64 n1], .int .u64 y] w fun e w' => e = .returned (.bool true) ∧ Below w.heap.size w w' := by
  obtain ⟨a, ha, ha0, ha1⟩ : ∃ a : Int, n0.tmod 1000 = a ∧ -1000 ≤ a ∧ a ≤ 1000 := ⟨_, rfl, by rw [Int.tmod_eq_emod]; split <;> omega, by rw [Int.tmod_eq_emod]; split <;> omega⟩
  obtain ⟨b, hb, hb0, hb1⟩ : ∃ a : Int, n1.tmod 1000 = a ∧ -1000 ≤ a ∧ a ≤ 1000 := ⟨_, rfl, by rw [Int.tmod_eq_emod]; split <;> omega, by rw [Int.tmod_eq_emod]; split <;> omega⟩
  go_enter Try.func5, Try.ntmps5
  go_wp2_with fail
  go_region
  go_wp2_with fail
  refine (putHigh_k y 8 hy (by omega) _).mono ?_
  rintro e w1 ⟨v, rfl, ho, hbw⟩
  obtain ⟨g, c, rfl, hc, _, _, hr⟩ := own_bytes ho (by omega)
  clear ho
  have e84 : min (8 : Int) 4 = 4 := by decide
  obtain ⟨l, hl, hlb⟩ : ∃ l : List UInt8, l = (leBytes 8 y).reverse ∧ beNat l = y := ⟨_, rfl, by rw [beNat_leBytes]; omega⟩
  rw [← hl] at hr
  have hll : l.length = 8 := by rw [hl]; simp
  clear hl
  have hr1 := hr 0 4 (by omega)
  have hr2 := hr 4 4 (by omega)
  rw [List.take_of_length_le (by simp; omega)] at hr2
  rw [List.drop_zero] at hr1
  have hp := beNat_lt (l.take 4)
  have hq := beNat_lt (l.drop 4)
  have hpq := beNat_append (l.take 4) (l.drop 4)
  rw [List.take_append_drop, hlb] at hpq
  simp only [List.length_take, List.length_drop, hll] at hp hq hpq
  obtain ⟨p, hpe⟩ : ∃ p, p = beNat (l.take 4) := ⟨_, rfl⟩
  obtain ⟨q, hqe⟩ : ∃ p, p = beNat (l.drop 4) := ⟨_, rfl⟩
  rw [← hpe, ← hqe] at hpq
  rw [← hpe] at hp
  rw [← hqe] at hq
  have hpqi : ((p : Int) * 4294967296 + q == (y : Int)) = true := by rw [beq_iff_eq]; omega
  have hp' : p < 4294967296 := by omega
  have hq' : q < 4294967296 := by omega
  have HPE := Lib.hid hpe
  have HQE := Lib.hid hqe
  have hc4 : ¬ c = 4 := by omega
  have hab := leftU_leftU x a b
  clear hpe hqe hpq hlb hll hp hq hr
  go_wp2_with fail
  refine (high32_any _ _ _ _ hr1).mono ?_
  rintro e w2 ⟨rfl, rfl⟩
  rw [← HPE.out]
  go_wp2_with fail
  refine (high32_any _ _ _ _ hr2).mono ?_
  rintro e w2 ⟨rfl, rfl⟩
  rw [← HQE.out]
  go_wp2_with fail
  refine (turns_any _).mono ?_
  rintro e w2 ⟨rfl, hbw2⟩
  go_wp2_with fail
  refine (left_any x a _).mono ?_
  rintro e w3 ⟨rfl, rfl⟩
  go_wp2_with fail
  refine (left_any _ b _).mono ?_
  rintro e w3 ⟨rfl, rfl⟩
  go_wp2_with fail
  refine (left_any x _ _).mono ?_
  rintro e w3 ⟨rfl, rfl⟩
  go_wp2_with fail
  go_ret
  have h0 : Below w.heap.size w (w.alloc (Obj.cells #[.int .i64 n0, .int .i64 n1] 34)).drew := ((Below.refl _ _).alloc (Nat.le_refl _) _).drew
  have h1 := h0.trans (hbw.mono (by simp))
  exact ⟨rfl, h1.trans (hbw2.mono h1.size)⟩
/-- The same, the counts as they are opened. -/
theorem law_adds2 (x : UInt32) (zs : List Int) (hz : zs.length = 2) (y : Nat) (hy : y < 18446744073709551616) (w : World) :
    Calls Try.prog 5 #[.int .u32 x.toNat, .agg (zs.map (Value.int .i64)).toArray, .int .u64 y] w fun e w' => e = .returned (.bool true) ∧ Below w.heap.size w w' := by
  match zs, hz with
  | [a, b], _ => exact law_adds x a b y hy w
end Go.Proofs.Ytacjengaljecnaa
