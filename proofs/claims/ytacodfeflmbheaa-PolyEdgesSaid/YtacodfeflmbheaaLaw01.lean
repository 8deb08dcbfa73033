import Derived.Test.YtacodfeflmbheaaBits
namespace Go.Proofs.Ytacodfeflmbheaa
open Go.RowKit

/-- PutLow and PutHigh of a count that is known. -/
theorem putLow_k (x k : Nat) (hx : x < 18446744073709551616) (hk : k ≤ 64) (w : World) :
    Calls Try.prog 19 #[.int .u64 x, .int .i64 k] w fun e w' => ∃ v, e = .returned v ∧
      w'.ownsRow w.heap.size 5 1 v k (u8s (leBytes k x)) ∧ Below w.heap.size w w' := by
  have h := putLow_any x hx k w
  rwa [show (min (k : Int) 64).toNat = k by omega] at h
end Go.Proofs.Ytacodfeflmbheaa
