/- Two of the eight ways through the law BitsSizes. -/
import Derived.Test.YtacjengaljecnaaLaw01
namespace Go.Proofs.Ytacjengaljecnaa
open Go.RowKit

@[local go_sem] theorem yielded_undef0 : yielded.match_1 (motive := fun _ => Option Bool) (some undef) (fun b => some b) (fun _ => none) = none := rfl

set_option maxRecDepth 100000 in
set_option maxHeartbeats 12000000 in
theorem sizes_Al (n x : Int) (h1 : 0 ≤ n) (h2 : n < 256) (x0 : 0 ≤ x) (x1 : x < 9223372036854775808) (w : World) :
    Calls Try.prog 4 #[.int .i64 n, .int .u64 x] w fun e w' => e = .returned (.bool true) ∧ Below w.heap.size w w' := by
  go_enter Try.func4, Try.ntmps4
  go_wp2_with fail
  refine (byte_yes n h1 h2 _).mono ?_
  rintro e w1 ⟨rfl, rfl⟩
  go_wp2_with fail
  refine (word_yes n h1 (by omega) _).mono ?_
  rintro e w1 ⟨rfl, rfl⟩
  go_wp2_with fail
  refine (int_yes x x0 x1 _).mono ?_
  rintro e w1 ⟨rfl, rfl⟩
  go_wp2_with fail
  refine (turns_any _).mono ?_
  rintro e w1 ⟨rfl, hb1⟩
  have f0 : decide (0 ≤ n) = true := by simp; omega
  have f1 : decide (n < 256) = true := by simp; omega
  have f2 : decide (n < 4294967296) = true := by simp; omega
  have hd : decide (x < 9223372036854775808) = true := by simpa using x1
  have hwr : IntKind.u64.wrap x = x := by rw [IntKind.wrap_u64]; omega
  clear x0 x1
  go_wp2_with fail
  go_ret
  exact ⟨rfl, hb1⟩

set_option maxRecDepth 100000 in
set_option maxHeartbeats 12000000 in
theorem sizes_Ah (n x : Int) (h1 : 0 ≤ n) (h2 : n < 256) (x0 : 9223372036854775808 ≤ x) (x1 : x < 18446744073709551616) (w : World) :
    Calls Try.prog 4 #[.int .i64 n, .int .u64 x] w fun e w' => e = .returned (.bool true) ∧ Below w.heap.size w w' := by
  go_enter Try.func4, Try.ntmps4
  go_wp2_with fail
  refine (byte_yes n h1 h2 _).mono ?_
  rintro e w1 ⟨rfl, rfl⟩
  go_wp2_with fail
  refine (word_yes n h1 (by omega) _).mono ?_
  rintro e w1 ⟨rfl, rfl⟩
  go_wp2_with fail
  refine (int_no x x0 x1 _).mono ?_
  rintro e w1 ⟨rfl, rfl⟩
  go_wp2_with fail
  refine (turns_any _).mono ?_
  rintro e w1 ⟨rfl, hb1⟩
  have f0 : decide (0 ≤ n) = true := by simp; omega
  have f1 : decide (n < 256) = true := by simp; omega
  have f2 : decide (n < 4294967296) = true := by simp; omega
  have hd : decide (x < 9223372036854775808) = false := by simpa using x0
  clear x0 x1
  go_wp2_with fail
  go_ret
  exact ⟨rfl, hb1⟩

end Go.Proofs.Ytacjengaljecnaa
