/- Keys by their uses, over lists: what the code and its reference both compute. No condition. -/
import Derived.Test.YtficbedibjgoeaaDoorHkdfP
import Derived.Test.YtficbedibjgoeaaDoorKitA
namespace Go.Proofs.YtficbedibjgoeaaDoor
def useBlind : List UInt8 := [98, 108, 105, 110, 100]
def useSeal : List UInt8 := [115, 101, 97, 108]
def blindL (M nm : List UInt8) : List UInt8 := hmacL (expandL M useBlind 32) nm
def beL (k x : Nat) : List UInt8 := (leBytes k x).reverse
def sealKL (M : List UInt8) (e : Nat) : List UInt8 := expandL M (useSeal ++ beL 8 e) 32
def nonceL (c k : Nat) : List UInt8 := beL 4 c ++ beL 8 k
@[simp] theorem beL_length (k x : Nat) : (beL k x).length = k := by simp [beL]
@[simp] theorem nonceL_length (c k : Nat) : (nonceL c k).length = 12 := by simp [nonceL]
@[simp] theorem blindL_length (M nm : List UInt8) : (blindL M nm).length = 32 := by simp [blindL]
@[simp] theorem sealKL_length (M : List UInt8) (e : Nat) : (sealKL M e).length = 32 := by simp [sealKL, expandL_length]
theorem beL_inj {k x y : Nat} (hx : x < 256 ^ k) (hy : y < 256 ^ k) (h : beL k x = beL k y) : x = y := by
  have h1 : leBytes k x = leBytes k y := by
    have := congrArg List.reverse h
    simpa [beL] using this
  have h2 := congrArg leNat h1
  rw [leNat_leBytes, leNat_leBytes, Nat.mod_eq_of_lt hx, Nat.mod_eq_of_lt hy] at h2
  exact h2
theorem nonceL_inj {c k d j : Nat} (hc : c < 256 ^ 4) (hd : d < 256 ^ 4) (hk : k < 256 ^ 8) (hj : j < 256 ^ 8) : nonceL c k = nonceL d j ↔ c = d ∧ k = j := by
  constructor
  · intro h
    have h1 := congrArg (List.take 4) h
    have h2 := congrArg (List.drop 4) h
    rw [nonceL, nonceL, List.take_append_of_le_length (by simp), List.take_append_of_le_length (by simp), List.take_of_length_le (by simp), List.take_of_length_le (by simp)] at h1
    rw [nonceL, nonceL, List.drop_append_of_le_length (by simp), List.drop_append_of_le_length (by simp), List.drop_of_length_le (by simp), List.drop_of_length_le (by simp), List.nil_append, List.nil_append] at h2
    exact ⟨beL_inj hc hd h1, beL_inj hk hj h2⟩
  · rintro ⟨rfl, rfl⟩
    rfl
/-- Byte by byte, the first one first, rows of as many bytes are ordered as their numbers. -/
theorem bytesLess_be : ∀ (A B : List UInt8), A.length = B.length → Op.bytesLess A B = decide (leNat A.reverse < leNat B.reverse)
  | [], [], _ => by simp [Op.bytesLess]
  | [], _ :: _, h => by simp at h
  | _ :: _, [], h => by simp at h
  | a :: x, b :: y, h => by
    have hl : x.length = y.length := by simpa using h
    have ih := bytesLess_be x y hl
    have e1 : leNat (a :: x).reverse = leNat x.reverse + 256 ^ x.length * a.toNat := by rw [List.reverse_cons, leNat_snoc, List.length_reverse]
    have e2 : leNat (b :: y).reverse = leNat y.reverse + 256 ^ x.length * b.toNat := by rw [List.reverse_cons, leNat_snoc, List.length_reverse, hl]
    have l1 : leNat x.reverse < 256 ^ x.length := by have := leNat_lt x.reverse; rwa [List.length_reverse] at this
    have l2 : leNat y.reverse < 256 ^ x.length := by have := leNat_lt y.reverse; rwa [List.length_reverse, ← hl] at this
    rw [Op.bytesLess, ih, e1, e2]
    generalize 256 ^ x.length = P at l1 l2
    rcases Nat.lt_trichotomy a.toNat b.toNat with hab | hab | hab
    · have h1 : a < b := UInt8.lt_iff_toNat_lt.2 hab
      have h2 : P * a.toNat + P ≤ P * b.toNat := by
        have := Nat.mul_le_mul_left P (show a.toNat + 1 ≤ b.toNat by omega)
        rwa [Nat.mul_add, Nat.mul_one] at this
      rw [decide_eq_true h1, Bool.true_or, decide_eq_true (by omega)]
    · have h1 : a = b := UInt8.toNat_inj.1 hab
      subst h1
      have h2 : ¬ a < a := by simp
      rw [decide_eq_false h2, Bool.false_or, beq_self_eq_true, Bool.true_and]
      congr 1
      apply propext
      omega
    · have h1 : ¬ a < b := fun h => by have := UInt8.lt_iff_toNat_lt.1 h; omega
      have h2 : (a == b) = false := by
        simp only [beq_eq_false_iff_ne, ne_eq]
        intro h
        rw [h] at hab
        omega
      have h3 : P * b.toNat + P ≤ P * a.toNat := by
        have := Nat.mul_le_mul_left P (show b.toNat + 1 ≤ a.toNat by omega)
        rwa [Nat.mul_add, Nat.mul_one] at this
      rw [decide_eq_false h1, h2, Bool.false_and, Bool.or_self, decide_eq_false (by omega)]
theorem nonceL_less {c a b : Nat} (ha : a < 256 ^ 8) (hb : b < 256 ^ 8) : Op.bytesLess (nonceL c a) (nonceL c b) = decide (a < b) := by
  have h : ∀ x, x < 256 ^ 8 → leNat (nonceL c x).reverse = x + 256 ^ 8 * leNat (leBytes 4 c) := by
    intro x hx
    rw [nonceL, List.reverse_append, beL, beL, List.reverse_reverse, List.reverse_reverse, leNat_append, leNat_leBytes, leBytes_length, Nat.mod_eq_of_lt hx]
  rw [bytesLess_be _ _ (by simp), h a ha, h b hb]
  congr 1
  apply propext
  omega
/-- The client's byte. -/
theorem nonceL_client {c k : Nat} : (nonceL c k)[3]? = some (UInt8.ofNat c) := by
  have h : (leBytes 4 c)[0]? = some (UInt8.ofNat c) := by
    simp [leBytes]
  rw [nonceL, List.getElem?_append_left (by simp), beL, List.getElem?_reverse (by simp)]
  simpa using h
end Go.Proofs.YtficbedibjgoeaaDoor
