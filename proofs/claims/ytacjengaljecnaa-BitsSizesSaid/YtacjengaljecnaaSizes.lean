/- The law BitsSizes, its eight ways together. -/
import Derived.Test.YtacjengaljecnaaSzA
import Derived.Test.YtacjengaljecnaaSzB
import Derived.Test.YtacjengaljecnaaSzC
import Derived.Test.YtacjengaljecnaaSzD
namespace Go.Proofs.Ytacjengaljecnaa
open Go.RowKit

/-- The law BitsSizes. -/
theorem law_sizes (n : Int) (x : Nat) (hx : x < 18446744073709551616) (w : World) :
    Calls Try.prog 4 #[.int .i64 n, .int .u64 x] w fun e w' => e = .returned (.bool true) ∧ Below w.heap.size w w' := by
  by_cases hX : (x : Int) < 9223372036854775808
  · rcases (by omega : n < 0 ∨ (0 ≤ n ∧ n < 256) ∨ (256 ≤ n ∧ n < 4294967296) ∨ 4294967296 ≤ n) with h | ⟨h, h'⟩ | ⟨h, h'⟩ | h
    · exact sizes_Bl n x h (by omega) hX w
    · exact sizes_Al n x h h' (by omega) hX w
    · exact sizes_Cl n x h h' (by omega) hX w
    · exact sizes_Dl n x h (by omega) hX w
  · rcases (by omega : n < 0 ∨ (0 ≤ n ∧ n < 256) ∨ (256 ≤ n ∧ n < 4294967296) ∨ 4294967296 ≤ n) with h | ⟨h, h'⟩ | ⟨h, h'⟩ | h
    · exact sizes_Bh n x h (by omega) (by omega) w
    · exact sizes_Ah n x h h' (by omega) (by omega) w
    · exact sizes_Ch n x h h' (by omega) (by omega) w
    · exact sizes_Dh n x h (by omega) (by omega) w
end Go.Proofs.Ytacjengaljecnaa
