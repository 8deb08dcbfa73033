/- Plain facts about words, bytes and lists (no program in sight): turned words, bytes of a number, a number of bytes. -/
import Derived.WalkKit
namespace Go.Proofs.YtbpgodkdbbiadaaDoor
open Go.RowKit

/-- A word, turned left by k bits. -/
def rotl (x : UInt32) (k : Nat) : UInt32 := ⟨x.toBitVec.rotateLeft k⟩
/-- A word, turned left by whatever count. -/
def leftU (x : UInt32) (n : Int) : UInt32 := rotl x (n % 32).toNat

theorem rotl_toNat (x : UInt32) (k : Nat) (hk : k < 32) : (rotl x k).toNat = (x.toNat * 2 ^ k % 4294967296) ||| (x.toNat / 2 ^ (32 - k)) := by
  have hx := x.toNat_lt
  show ((x.toBitVec.rotateLeft k).toNat) = _
  simp only [BitVec.rotateLeft, BitVec.rotateLeftAux, Nat.mod_eq_of_lt hk, BitVec.toNat_or, BitVec.toNat_shiftLeft, BitVec.toNat_ushiftRight,
    Nat.shiftLeft_eq, Nat.shiftRight_eq_div_pow]
  rfl

theorem or_rot (x : UInt32) (k : Nat) (hk : k < 32) :
    bits .or .u32 ((x.toNat : Int) * 2 ^ k % 4294967296) ((x.toNat : Int) / 2 ^ (32 - k)) = ((rotl x k).toNat : Int) := by
  have hx := x.toNat_lt
  have e1 : (x.toNat : Int) * 2 ^ k % 4294967296 = ((x.toNat * 2 ^ k % 4294967296 : Nat) : Int) := by simp
  have e2 : (x.toNat : Int) / 2 ^ (32 - k) = ((x.toNat / 2 ^ (32 - k) : Nat) : Int) := by simp
  rw [e1, e2, u32_or_nat _ _ (by omega) (Nat.lt_of_le_of_lt (Nat.div_le_self _ _) hx), rotl_toNat x k hk]

/-- The values of bytes. -/
def u8s (l : List UInt8) : List Value := l.map fun c => .int .u8 (c.toNat : Int)
@[simp] theorem u8s_length (l : List UInt8) : (u8s l).length = l.length := by simp [u8s]
@[simp] theorem u8s_nil : u8s [] = [] := rfl
theorem u8s_append (a b : List UInt8) : u8s (a ++ b) = u8s a ++ u8s b := by simp [u8s]
theorem u8s_one (c : UInt8) : u8s [c] = [.int .u8 (c.toNat : Int)] := rfl
theorem u8s_oneCell (l : List UInt8) : ∀ u ∈ u8s l, u.oneCell' = true := by
  intro u hu; simp [u8s] at hu; obtain ⟨c, _, rfl⟩ := hu; rfl

/-- The lowest k bytes of a number, the lowest first. -/
def leBytes : Nat → Nat → List UInt8
  | 0, _ => []
  | k + 1, x => UInt8.ofNat x :: leBytes k (x / 256)
@[simp] theorem leBytes_length (k x : Nat) : (leBytes k x).length = k := by
  induction k generalizing x with
  | zero => rfl
  | succ k ih => simp [leBytes, ih]
theorem leBytes_snoc (k x : Nat) : leBytes (k + 1) x = leBytes k x ++ [UInt8.ofNat (x / 256 ^ k)] := by
  induction k generalizing x with
  | zero => simp [leBytes]
  | succ k ih =>
    rw [leBytes, ih (x / 256), leBytes, List.cons_append, Nat.div_div_eq_div_mul, Nat.pow_succ, Nat.mul_comm 256]


/-- A number of bytes, the lowest first; the highest first. -/
def leNat : List UInt8 → Nat
  | [] => 0
  | c :: r => c.toNat + 256 * leNat r
def beNat (l : List UInt8) : Nat := leNat l.reverse
theorem leNat_lt (l : List UInt8) : leNat l < 256 ^ l.length := by
  induction l with
  | nil => simp [leNat]
  | cons c r ih =>
    have hc := c.toNat_lt
    simp only [leNat, List.length_cons, Nat.pow_succ]
    omega
theorem leNat_append (a b : List UInt8) : leNat (a ++ b) = leNat a + 256 ^ a.length * leNat b := by
  induction a with
  | nil => simp [leNat]
  | cons c r ih =>
    simp only [List.cons_append, leNat, ih, List.length_cons, Nat.pow_succ, Nat.mul_add]
    have e : 256 * (256 ^ r.length * leNat b) = 256 ^ r.length * 256 * leNat b := by rw [Nat.mul_comm (256 ^ r.length) 256, Nat.mul_assoc]
    omega
theorem leNat_one (c : UInt8) : leNat [c] = c.toNat := by simp [leNat]
theorem leNat_snoc (l : List UInt8) (c : UInt8) : leNat (l ++ [c]) = leNat l + 256 ^ l.length * c.toNat := by rw [leNat_append, leNat_one]
theorem beNat_snoc (l : List UInt8) (c : UInt8) : beNat (l ++ [c]) = beNat l * 256 + c.toNat := by
  unfold beNat
  rw [List.reverse_append, List.reverse_singleton, List.singleton_append, leNat]
  omega
theorem beNat_lt (l : List UInt8) : beNat l < 256 ^ l.length := by
  have := leNat_lt l.reverse
  rwa [List.length_reverse] at this
theorem leNat_leBytes (k x : Nat) : leNat (leBytes k x) = x % 256 ^ k := by
  induction k generalizing x with
  | zero => simp [leBytes, leNat, Nat.mod_one]
  | succ k ih =>
    rw [leBytes, leNat, ih, Nat.pow_succ, Nat.mul_comm (256 ^ k) 256, Nat.mod_mul, UInt8.toNat_ofNat']
theorem beNat_leBytes (k x : Nat) : beNat (leBytes k x).reverse = x % 256 ^ k := by
  unfold beNat; rw [List.reverse_reverse, leNat_leBytes]
theorem take_snoc_ {α : Type} (l : List α) (k : Nat) (c : α) (h : l[k]? = some c) : l.take (k + 1) = l.take k ++ [c] := by
  rw [List.take_add_one, h]; rfl
theorem or_add_ (x c k : Nat) (hx : x < 2 ^ k) : x ||| (2 ^ k * c) = x + 2 ^ k * c := by
  rw [Nat.or_comm, ← Nat.two_pow_add_eq_or_of_lt hx, Nat.add_comm]
theorem pow256 (k : Nat) : 256 ^ k = 2 ^ (8 * k) := by rw [Nat.pow_mul]

theorem low_step (q d k : Nat) (hk : k < 8) (hq : q < 256 ^ k) (hd : d < 256) :
    bits .or .u64 (q : Int) (IntKind.u64.wrap ((d : Int) * 2 ^ (8 * k))) = ((q + 256 ^ k * d : Nat) : Int) := by
  have h1 : 256 ^ k * 256 ≤ 18446744073709551616 := by
    have := Nat.pow_le_pow_right (n := 256) (by omega) (show k + 1 ≤ 8 by omega)
    rw [Nat.pow_succ] at this
    simpa using this
  have h2 : 256 ^ k * d ≤ 256 ^ k * 255 := Nat.mul_le_mul_left _ (by omega)
  have e1 : (d : Int) * 2 ^ (8 * k) = ((256 ^ k * d : Nat) : Int) := by rw [pow256]; simp [Int.mul_comm]
  rw [e1, IntKind.wrap_u64, Int.emod_eq_of_lt (by omega) (by omega), u64_or_nat _ _ (by omega) (by omega)]
  congr 1
  rw [pow256] at hq ⊢
  rw [or_add_ _ _ _ hq]

theorem rotl_add (x : UInt32) (k : Nat) (hk : k < 32) : (rotl x k).toNat = 2 ^ k * (x.toNat % 2 ^ (32 - k)) + x.toNat / 2 ^ (32 - k) := by
  have hx := x.toNat_lt
  have hp : 2 ^ k * 2 ^ (32 - k) = 4294967296 := by rw [← Nat.pow_add, show k + (32 - k) = 32 by omega]
  have hlt : x.toNat / 2 ^ (32 - k) < 2 ^ k := by
    rw [Nat.div_lt_iff_lt_mul (Nat.two_pow_pos _), hp]; exact hx
  rw [rotl_toNat x k hk, ← hp, Nat.mul_comm x.toNat, Nat.mul_mod_mul_left, Nat.or_comm, or_add_ _ _ _ hlt, Nat.add_comm]
theorem rot_step (p N x a b : Nat) (hp : p * N = 2147483648) (ha : a = x / (2 * N)) (hb : b = x % (2 * N)) (hx : x < 4294967296) (hN : 0 < N) :
    ((p * b + a) * 2 % 4294967296 + (p * b + a) / 2147483648) % 4294967296 = 2 * p * (x % N) + x / N := by
  have hal : a < p := by
    rw [ha, Nat.div_lt_iff_lt_mul (by omega)]
    have : p * (2 * N) = 2 * (p * N) := by rw [Nat.mul_left_comm]
    omega
  have hxe : x = 2 * N * a + b := by rw [ha, hb]; exact (Nat.div_add_mod x (2 * N)).symm
  have hbl : b < 2 * N := by rw [hb]; exact Nat.mod_lt _ (by omega)
  by_cases h : b < N
  · have e1 : x % N = b := by rw [hxe, show 2 * N * a + b = b + N * (2 * a) by rw [Nat.mul_comm 2 N, Nat.mul_assoc]; omega, Nat.add_mul_mod_self_left, Nat.mod_eq_of_lt h]
    have e2 : x / N = 2 * a := by rw [hxe, show 2 * N * a + b = b + N * (2 * a) by rw [Nat.mul_comm 2 N, Nat.mul_assoc]; omega, Nat.add_mul_div_left _ _ hN, Nat.div_eq_of_lt h]; omega
    have e3 : p * b + p ≤ p * N := by rw [← Nat.mul_succ]; exact Nat.mul_le_mul_left _ h
    have hs : p * b + a < 2147483648 := by omega
    rw [e1, e2, Nat.div_eq_of_lt hs, Nat.add_zero, Nat.mod_mod, Nat.mod_eq_of_lt (by omega), Nat.mul_assoc]
    omega
  · obtain ⟨c, rfl⟩ : ∃ c, b = N + c := ⟨b - N, by omega⟩
    have hc : c < N := by omega
    have e1 : x % N = c := by rw [hxe, show 2 * N * a + (N + c) = c + N * (2 * a + 1) by rw [Nat.mul_comm 2 N, Nat.mul_assoc, Nat.mul_add]; omega, Nat.add_mul_mod_self_left, Nat.mod_eq_of_lt hc]
    have e2 : x / N = 2 * a + 1 := by rw [hxe, show 2 * N * a + (N + c) = c + N * (2 * a + 1) by rw [Nat.mul_comm 2 N, Nat.mul_assoc, Nat.mul_add]; omega, Nat.add_mul_div_left _ _ hN, Nat.div_eq_of_lt hc]; omega
    have e3 : p * c + p ≤ p * N := by rw [← Nat.mul_succ]; exact Nat.mul_le_mul_left _ hc
    have hs : p * c + a < 2147483648 := by omega
    have he : p * (N + c) + a = 2147483648 + (p * c + a) := by rw [Nat.mul_add, hp]; omega
    rw [e1, e2, he, Nat.mul_assoc 2 p c]
    obtain ⟨r, hr⟩ : ∃ r, r = p * c + a := ⟨_, rfl⟩
    rw [← hr] at hs ⊢
    rw [show (2147483648 + r) * 2 = 4294967296 + 2 * r by omega, Nat.add_mod_left, Nat.mod_eq_of_lt (by omega), show (2147483648 + r) / 2147483648 = 1 by omega, Nat.mod_eq_of_lt (by omega)]
    omega
theorem rotl_succ (x : UInt32) (k : Nat) (hk : k < 31) :
    ((rotl x k).toNat * 2 % 4294967296 + (rotl x k).toNat / 2147483648) % 4294967296 = (rotl x (k + 1)).toNat := by
  have h1 : (2 : Nat) ^ (32 - k) = 2 * 2 ^ (31 - k) := by rw [show 32 - k = (31 - k) + 1 by omega, Nat.pow_succ, Nat.mul_comm]
  rw [rotl_add x k (by omega), rotl_add x (k + 1) (by omega), h1, show 32 - (k + 1) = 31 - k by omega, Nat.pow_succ, Nat.mul_comm (2 ^ k) 2]
  exact rot_step (2 ^ k) (2 ^ (31 - k)) x.toNat _ _ (by rw [← Nat.pow_add, show k + (31 - k) = 31 by omega]) rfl rfl x.toNat_lt (Nat.two_pow_pos _)
theorem rotl_zero (x : UInt32) : rotl x 0 = x := by
  apply UInt32.toNat_inj.1
  have := x.toNat_lt
  rw [rotl_add x 0 (by omega)]
  omega
theorem rotl_rotl (x : UInt32) (a b : Nat) : rotl (rotl x a) b = rotl x ((a + b) % 32) := by
  show (⟨(x.toBitVec.rotateLeft a).rotateLeft b⟩ : UInt32) = ⟨x.toBitVec.rotateLeft ((a + b) % 32)⟩
  congr 1
  apply BitVec.eq_of_getElem_eq
  intro i hi
  simp only [BitVec.getElem_rotateLeft]
  repeat' split
  all_goals first | (exfalso; omega) | (congr 1; omega)

theorem leftU_leftU (x : UInt32) (a b : Int) : leftU (leftU x a) b = leftU x (a + b) := by
  unfold leftU
  rw [rotl_rotl]
  congr 1
  omega
theorem leftU_zero (x : UInt32) (a : Int) (h : a % 32 = 0) : leftU x a = x := by
  unfold leftU
  rw [h]
  exact rotl_zero x
theorem leftU_back (x : UInt32) (n : Int) : leftU (leftU x n) (32 - n.tmod 32) = x := by
  rw [leftU_leftU]
  apply leftU_zero
  rw [Int.tmod_eq_emod]
  split <;> omega

end Go.Proofs.YtbpgodkdbbiadaaDoor
