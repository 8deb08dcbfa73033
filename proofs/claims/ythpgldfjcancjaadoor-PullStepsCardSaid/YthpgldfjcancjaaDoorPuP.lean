/- What two trees have unlike, level by level: the plain law. No condition. -/
import Derived.Test.YthpgldfjcancjaaDoorMkPl
namespace Go.Proofs.YthpgldfjcancjaaDoor
open Go.RowKit
/-- The nodes below one; of a leaf itself. -/
def belowL (l n : Nat) : List Nat := if l = 4 then [n] else [4 * n, 4 * n + 1, 4 * n + 2, 4 * n + 3]
/-- Of these nodes those that are unlike: what is below them. -/
def unlikeL (R S : Rw) (l : Nat) (at_ : List Nat) : List Nat := at_.flatMap fun n => if nodeR R (4 - l) n = nodeR S (4 - l) n then [] else belowL l n
def levelL (R S : Rw) : Nat → List Nat
  | 0 => [0]
  | l + 1 => unlikeL R S l (levelL R S l)
def toldL (R S : Rw) : Nat → Nat
  | 0 => 0
  | l + 1 => toldL R S l + (levelL R S l).length
theorem belowL_length (l n : Nat) : (belowL l n).length ≤ 4 := by
  unfold belowL
  split <;> simp
theorem unlikeL_length (R S : Rw) (l : Nat) (at_ : List Nat) : (unlikeL R S l at_).length ≤ 4 * at_.length := by
  unfold unlikeL
  induction at_ with
  | nil => simp
  | cons n at_ ih =>
    rw [List.flatMap_cons, List.length_append, List.length_cons]
    have : (if nodeR R (4 - l) n = nodeR S (4 - l) n then [] else belowL l n).length ≤ 4 := by
      split
      · simp
      · exact belowL_length l n
    omega
theorem levelL_length (R S : Rw) : ∀ l, (levelL R S l).length ≤ 4 ^ l
  | 0 => Nat.le_refl _
  | l + 1 => by
    have h1 := unlikeL_length R S l (levelL R S l)
    have h2 := levelL_length R S l
    show (unlikeL R S l (levelL R S l)).length ≤ _
    rw [Nat.pow_succ]
    omega
theorem unlikeL_lt {R S : Rw} {l : Nat} {at_ : List Nat} (hl : l < 4) (h : ∀ n ∈ at_, n < 4 ^ l) : ∀ n ∈ unlikeL R S l at_, n < 4 ^ (l + 1) := by
  intro n hn
  unfold unlikeL at hn
  obtain ⟨m, hm, hn⟩ := List.mem_flatMap.1 hn
  have hm4 := h m hm
  split at hn
  · cases hn
  · unfold belowL at hn
    rw [if_neg (by omega)] at hn
    rw [Nat.pow_succ]
    simp only [List.mem_cons, List.not_mem_nil, or_false] at hn
    omega
theorem levelL_lt (R S : Rw) : ∀ l, l ≤ 4 → ∀ n ∈ levelL R S l, n < 4 ^ l
  | 0, _, n, hn => by
    have : n ∈ [0] := hn
    simp at this
    omega
  | l + 1, hl, n, hn => unlikeL_lt (by omega) (levelL_lt R S l (by omega)) n hn
/-- What is left at last: leaves that are unlike. -/
theorem leaves_unlike {R S : Rw} {n : Nat} (h : n ∈ levelL R S 5) : n < 256 ∧ leafR R n ≠ leafR S n := by
  have h1 : n ∈ unlikeL R S 4 (levelL R S 4) := h
  unfold unlikeL at h1
  obtain ⟨m, hm, hn⟩ := List.mem_flatMap.1 h1
  split at hn
  · cases hn
  · rename_i hne
    unfold belowL at hn
    rw [if_pos rfl] at hn
    simp only [List.mem_cons, List.not_mem_nil, or_false] at hn
    subst hn
    exact ⟨levelL_lt R S 4 (Nat.le_refl _) _ hm, hne⟩
/-- Leaves with unlike digests have unlike rows. -/
theorem rows_unlike {R S : Rw} {n : Nat} (h : leafR R n ≠ leafR S n) : inLeaf R n ≠ inLeaf S n := fun e => h (by unfold leafR; rw [e])
theorem toldL_le (R S : Rw) : ∀ l, toldL R S l ≤ l * 4 ^ l
  | 0 => Nat.le_refl _
  | l + 1 => by
    have h1 := toldL_le R S l
    have h2 := levelL_length R S l
    show toldL R S l + (levelL R S l).length ≤ _
    have h3 : l * 4 ^ l + 4 ^ l = (l + 1) * 4 ^ l := by rw [Nat.add_mul, Nat.one_mul]
    have h4 : (l + 1) * 4 ^ l ≤ (l + 1) * 4 ^ (l + 1) := Nat.mul_le_mul_left _ (Nat.pow_le_pow_right (by omega) (by omega))
    omega
/-- A tree has nothing unlike itself. -/
theorem level_self (R : Rw) : ∀ l, levelL R R (l + 1) = []
  | 0 => by
    show unlikeL R R 0 [0] = []
    simp [unlikeL]
  | l + 1 => by
    show unlikeL R R (l + 1) (levelL R R (l + 1)) = []
    rw [level_self R l]
    rfl
theorem told_self (R : Rw) : toldL R R 5 = 1 := by
  show toldL R R 0 + 1 + (levelL R R 1).length + (levelL R R 2).length + (levelL R R 3).length + (levelL R R 4).length = 1
  rw [level_self R 0, level_self R 1, level_self R 2, level_self R 3]
  rfl
theorem unlikeL_succ {R S : Rw} {l i n : Nat} {at_ : List Nat} (h : at_[i]? = some n) : unlikeL R S l (at_.take (i + 1)) = unlikeL R S l (at_.take i) ++ (if nodeR R (4 - l) n = nodeR S (4 - l) n then [] else belowL l n) := by
  unfold unlikeL
  rw [List.take_add_one, h, List.flatMap_append]
  simp
/-- A leaf all of whose path is unlike is found. -/
theorem level_found {R S : Rw} {n : Nat} (hn : n < 256) (h : ∀ k, k ≤ 4 → nodeR R k (n / 4 ^ k) ≠ nodeR S k (n / 4 ^ k)) : ∀ l, l ≤ 4 → n / 4 ^ (4 - l) ∈ levelL R S l
  | 0, _ => by
    have : n / 4 ^ 4 = 0 := Nat.div_eq_of_lt hn
    show n / 4 ^ (4 - 0) ∈ [0]
    rw [show 4 - 0 = 4 from rfl, this]
    simp
  | l + 1, hl => by
    have ih := level_found hn h l (by omega)
    show _ ∈ unlikeL R S l (levelL R S l)
    unfold unlikeL
    refine List.mem_flatMap.2 ⟨_, ih, ?_⟩
    have hne := h (4 - l) (by omega)
    rw [if_neg hne]
    unfold belowL
    rw [if_neg (by omega)]
    have e : n / 4 ^ (4 - l) = n / 4 ^ (4 - (l + 1)) / 4 := by
      rw [Nat.div_div_eq_div_mul, ← Nat.pow_succ]
      congr 2
      omega
    rw [e]
    have := Nat.div_add_mod (n / 4 ^ (4 - (l + 1))) 4
    have := Nat.mod_lt (n / 4 ^ (4 - (l + 1))) (by omega : 0 < 4)
    simp only [List.mem_cons, List.not_mem_nil, or_false]
    omega
theorem leaf_found {R S : Rw} {n : Nat} (hn : n < 256) (h : ∀ k, k ≤ 4 → nodeR R k (n / 4 ^ k) ≠ nodeR S k (n / 4 ^ k)) : n ∈ levelL R S 5 := by
  have h4 := level_found hn h 4 (Nat.le_refl _)
  show n ∈ unlikeL R S 4 (levelL R S 4)
  unfold unlikeL
  refine List.mem_flatMap.2 ⟨_, h4, ?_⟩
  have hne := h 0 (by omega)
  simp only [Nat.sub_self, Nat.pow_zero, Nat.div_one] at hne ⊢
  rw [if_neg hne]
  simp [belowL]
end Go.Proofs.YthpgldfjcancjaaDoor
