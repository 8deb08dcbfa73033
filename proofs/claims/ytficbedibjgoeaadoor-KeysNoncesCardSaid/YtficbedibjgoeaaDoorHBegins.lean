/- The walk of the law HkdfBegins. No condition. -/
import Derived.Test.YtficbedibjgoeaaDoorExpands
import Derived.Test.YtficbedibjgoeaaDoorRem
import Derived.Test.YtficbedibjgoeaaDoorMade
namespace Go.Proofs.YtficbedibjgoeaaDoor
open Go.RowKit
theorem two_of {zs : List Int} (h : zs.length = 2) : ∃ a b, zs = [a, b] := by
  match zs, h with
  | [a, b], _ => exact ⟨a, b, rfl⟩
theorem cut_at (n : Nat) (N : Nat) : ∃ k : Nat, min (n : Int) (N : Int) = (k : Int) ∧ k ≤ n ∧ k ≤ N := ⟨min n N, by omega, by omega, by omega⟩
end Go.Proofs.YtficbedibjgoeaaDoor

