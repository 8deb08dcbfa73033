/- More contracts of the package bits and of its reference: Mix, Same. -/
import Derived.Test.YtkhbnandmhlnoaaDoorBits
import Derived.BigQuiet
import Derived.Deep.RegionHeld3
namespace Go.Proofs.YtkhbnandmhlnoaaDoor
open Go.RowKit

/-- Byte by byte the exclusive or. -/
def mixL (a b : List UInt8) : List UInt8 := List.zipWith (· ^^^ ·) a b
theorem mixL_snoc (a b : List UInt8) (k : Nat) (x y : UInt8) (hx : a[k]? = some x) (hy : b[k]? = some y) : mixL (a.take (k + 1)) (b.take (k + 1)) = mixL (a.take k) (b.take k) ++ [x ^^^ y] := by
  rw [take_snoc_ a k x hx, take_snoc_ b k y hy]
  unfold mixL
  rw [List.zipWith_append]
  · rfl
  · have h1 : k < a.length := by rcases Nat.lt_or_ge k a.length with h | h; exact h; rw [List.getElem?_eq_none h] at hx; cases hx
    have h2 : k < b.length := by rcases Nat.lt_or_ge k b.length with h | h; exact h; rw [List.getElem?_eq_none h] at hy; cases hy
    simp; omega

/-- The bits in which bytes differ, together. -/
def diffL (a b : List UInt8) : UInt8 := (List.zipWith (· ^^^ ·) a b).foldl (· ||| ·) 0
theorem diffL_snoc (a b : List UInt8) (k : Nat) (x y : UInt8) (hx : a[k]? = some x) (hy : b[k]? = some y) : diffL (a.take (k + 1)) (b.take (k + 1)) = diffL (a.take k) (b.take k) ||| (x ^^^ y) := by
  have h := mixL_snoc a b k x y hx hy
  unfold mixL at h
  unfold diffL
  rw [h, List.foldl_append]
  rfl
theorem or_zero_iff (x y : UInt8) : x ||| y = 0 ↔ x = 0 ∧ y = 0 := by
  rw [← UInt8.toNat_inj, UInt8.toNat_or, ← UInt8.toNat_inj, ← UInt8.toNat_inj]
  simp
theorem xor_zero_iff (x y : UInt8) : x ^^^ y = 0 ↔ x = y := by
  rw [← UInt8.toNat_inj, UInt8.toNat_xor, ← UInt8.toNat_inj]
  constructor
  · intro h
    apply Nat.eq_of_testBit_eq
    intro i
    have h1 := congrArg (·.testBit i) h
    simp only [Nat.testBit_xor] at h1
    revert h1
    cases x.toNat.testBit i <;> cases y.toNat.testBit i <;> simp
  · intro h; rw [h, Nat.xor_self]; rfl
theorem foldl_or_zero : ∀ (l : List UInt8) (c : UInt8), l.foldl (· ||| ·) c = 0 ↔ c = 0 ∧ ∀ x ∈ l, x = 0
  | [], c => by simp
  | x :: l, c => by simp only [List.foldl_cons, foldl_or_zero l, or_zero_iff, List.mem_cons, forall_eq_or_imp, and_assoc]
theorem diffL_zero : ∀ (a b : List UInt8), a.length = b.length → (diffL a b = 0 ↔ a = b)
  | [], [], _ => by simp [diffL]
  | [], _ :: _, h => by simp at h
  | _ :: _, [], h => by simp at h
  | x :: a, y :: b, h => by
    have ih := diffL_zero a b (by simpa using h)
    unfold diffL at ih ⊢
    simp only [List.zipWith_cons_cons, List.foldl_cons, foldl_or_zero, or_zero_iff, xor_zero_iff, true_and, List.cons.injEq] at ih ⊢
    rw [ih]

theorem str_at {s : ByteArray} {a : List UInt8} {k : Nat} (hs : s = ⟨a.toArray⟩) (h : k < s.size) : a[k]? = some s[k] := by
  subst hs
  show a[k]? = some (a.toArray[k]'h)
  rw [List.getElem_toArray, List.getElem?_eq_getElem]
theorem mixL_all (a b : List UInt8) (k : Nat) (h : a.length ≤ k ∨ b.length ≤ k) (_hk : k ≤ a.length) : mixL (a.take k) (b.take k) = mixL a b := by
  unfold mixL
  apply List.ext_getElem?
  intro i
  simp only [List.getElem?_zipWith, List.getElem?_take]
  by_cases hi : i < k
  · simp [hi]
  · simp only [if_neg hi]
    rcases h with h | h
    · rw [List.getElem?_eq_none (l := a) (by omega)]
    · rw [List.getElem?_eq_none (l := b) (by omega)]; cases a[i]? <;> rfl

end Go.Proofs.YtkhbnandmhlnoaaDoor
