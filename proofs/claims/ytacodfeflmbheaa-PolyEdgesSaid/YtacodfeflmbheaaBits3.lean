/- The reference's Word and Put. -/
import Derived.Test.YtacodfeflmbheaaBits2
namespace Go.Proofs.Ytacodfeflmbheaa
open Go.RowKit

/-- The reference's bytes of a number. -/
def putL (high : Bool) (k x : Nat) : List UInt8 := if high then (leBytes k x).reverse else leBytes k x

theorem str_append (a b : List UInt8) : (⟨a.toArray⟩ : ByteArray) ++ ⟨b.toArray⟩ = ⟨(a ++ b).toArray⟩ := by
  apply ByteArray.ext
  rw [ByteArray.data_append]
  simp
theorem putL_snoc (high : Bool) (k x : Nat) : (if high then (⟨#[UInt8.ofNat (x / 256 ^ k)]⟩ : ByteArray) ++ ⟨(putL high k x).toArray⟩ else (⟨(putL high k x).toArray⟩ : ByteArray) ++ ⟨#[UInt8.ofNat (x / 256 ^ k)]⟩) = ⟨(putL high (k + 1) x).toArray⟩ := by
  have e1 : (⟨#[UInt8.ofNat (x / 256 ^ k)]⟩ : ByteArray) = ⟨[UInt8.ofNat (x / 256 ^ k)].toArray⟩ := rfl
  rw [e1, str_append, str_append]
  cases high
  · simp only [putL, leBytes_snoc, Bool.false_eq_true, if_false]
  · simp only [putL, leBytes_snoc, if_true, List.reverse_append, List.reverse_singleton]

end Go.Proofs.Ytacodfeflmbheaa
