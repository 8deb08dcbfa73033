/- More contracts of the package bits and of its reference: Mix, Same. -/
import Derived.Test.YtbpgodkdbbiadaaDoorBits
import Derived.BigQuiet
import Derived.Deep.RegionHeld3
namespace Go.Proofs.YtbpgodkdbbiadaaDoor
open Go.RowKit

/-- Byte by byte the exclusive or. -/
def mixL (a b : List UInt8) : List UInt8 := List.zipWith (· ^^^ ·) a b
theorem mixL_snoc (a b : List UInt8) (k : Nat) (x y : UInt8) (hx : a[k]? = some x) (hy : b[k]? = some y) : mixL (a.take (k + 1)) (b.take (k + 1)) = mixL (a.take k) (b.take k) ++ [x ^^^ y] := by
  rw [take_snoc_ a k x hx, take_snoc_ b k y hy]
  unfold mixL
  rw [List.zipWith_append]
  · rfl
  · have h1 : k < a.length := by rcases Nat.lt_or_ge k a.length with h | h; exact h; rw [List.getElem?_eq_none h] at hx; cases hx
    have h2 : k < b.length := by rcases Nat.lt_or_ge k b.length with h | h; exact h; rw [List.getElem?_eq_none h] at hy; cases hy
    simp; omega

set_option maxHeartbeats 400000 in
/-- bits.Mix. -/
theorem mix_any (A B : Option Addr) (n c m d : Nat) (a b : List UInt8) (hn : n ≤ 1000000) (w : World) (ha : Rd w A n (u8s a)) (hb : Rd w B m (u8s b)) :
    Calls Tryd.prog 22 #[.slice A n c, .slice B m d] w fun e w' => ∃ v, e = .returned v ∧
      w'.ownsRow w.heap.size 5 1 v (min n m) (u8s (mixL a b)) ∧ Below w.heap.size w w' := by
  have hal : a.length = n := by simpa using ha.1
  have hbl : b.length = m := by simpa using hb.1
  obtain ⟨i0, hi0, hz0, hz1, hz2⟩ := info_parts Tryd.info5
  have hmin : min (n : Int) m = (min n m : Nat) := by omega
  obtain ⟨k0, hk0⟩ : ∃ k, k = min n m := ⟨_, rfl⟩
  rw [← hk0] at hmin ⊢
  have h1 : k0 ≤ n := by omega
  have h2 : k0 ≤ m := by omega
  have HE : Hid (mixL (a.take k0) (b.take k0) = mixL a b) := by
    show _ = _
    unfold mixL
    apply List.ext_getElem?
    intro i
    simp only [List.getElem?_zipWith, List.getElem?_take]
    by_cases hi : i < k0
    · simp [hi]
    · simp only [if_neg hi]
      rcases Nat.lt_or_ge i n with h | h
      · rw [List.getElem?_eq_none (l := b) (by omega)]; cases a[i]? <;> rfl
      · rw [List.getElem?_eq_none (l := a) (by omega)]
  clear hk0
  go_enter Tryd.func22, Tryd.ntmps22
  go_wp2
  go_loopw [5, 12] (fun v i wr => ∃ k : Nat, k ≤ k0 ∧ i = .int .i64 k ∧ wr.ownsRow w.heap.size 5 1 v k (u8s (mixL (a.take k) (b.take k))) ∧ Below w.heap.size w wr)
    (fun _ i _ => k0 - (intOf i).toNat)
  case atStart => exact ⟨0, Nat.zero_le _, rfl, World.ownsRow_nil _ _ _ _, Below.refl _ _⟩
  case round =>
    obtain ⟨k, hk, rfl, hown, hbw⟩ := hrel
    by_cases hlt : k < k0
    · obtain ⟨ad, x, rfl, hx, hc0⟩ := rd_byte ha (show k < n by omega)
      obtain ⟨bd, y, rfl, hy, hd0⟩ := rd_byte hb (show k < m by omega)
      have hab := lt_of_cell hc0
      have hbb := lt_of_cell hd0
      have hc := (hbw.cell hab).trans hc0
      have hd := (hbw.cell hbb).trans hd0
      clear hc0 hd0
      have hbs := hbw.size
      have HX : Hid (u8s (mixL (a.take (k + 1)) (b.take (k + 1))) = u8s (mixL (a.take k) (b.take k)) ++ [.int .u8 ((x ^^^ y).toNat : Int)]) := by
        show _ = _
        rw [mixL_snoc a b k x y hx hy, u8s_append, u8s_one]
      have hxb := x.toNat_lt
      have hyb := y.toNat_lt
      have exy : bits .xor .u8 (x.toNat : Int) (y.toNat : Int) = ((x ^^^ y).toNat : Int) := by rw [u8_xor_nat _ _ hxb hyb, UInt8.toNat_xor]
      have hlti : (k : Int) < n := by omega
      have hlti2 : (k : Int) < m := by omega
      clear hx hy
      go_wp2
      go_region_held3 (fun w' => w'.cell? (ad.add k) = some (.int .u8 (x.toNat : Int)) ∧ w'.cell? (bd.add k) = some (.int .u8 (y.toNat : Int))) (go_keep)
        (first | (refine step_app1 wr.drew rfl (.tmp 15) (.tmp 25) 22 rfl w.heap.size 5 i0 (.int .u8 0) 1 Tryd.underlying22 hi0 hz0 hz1 hz2 rfl u5 k _ rfl hown.drew _ (.int .u8 ((x ^^^ y).toNat : Int)) _ (by simp) rfl (by simp) rfl (by omega) (by unfold maxLen; omega) hbs ?_; intro v' w1 hA; have hB := hA.below hown.drew hbs; have e1 := (hB.cell (p := ad.add k) hab).trans hc; have e2 := (hB.cell (p := bd.add k) hbb).trans hd))
      have ho := hA.own
      have hbw2 := hbw.drew.trans hB
      clear hA hB hown hbw
      go_wp2
      go_roundw
      case rel => exact ⟨k + 1, by omega, by go_num, by rw [HX.out]; exact ho, hbw2⟩
      case measure => simp [intOf]; omega
    · obtain rfl : k = k0 := by omega
      go_wp2
      go_ret
      rw [HE.out] at hown
      exact ⟨_, rfl, hown, hbw⟩

/-- The bits in which bytes differ, together. -/
def diffL (a b : List UInt8) : UInt8 := (List.zipWith (· ^^^ ·) a b).foldl (· ||| ·) 0
theorem diffL_snoc (a b : List UInt8) (k : Nat) (x y : UInt8) (hx : a[k]? = some x) (hy : b[k]? = some y) : diffL (a.take (k + 1)) (b.take (k + 1)) = diffL (a.take k) (b.take k) ||| (x ^^^ y) := by
  have h := mixL_snoc a b k x y hx hy
  unfold mixL at h
  unfold diffL
  rw [h, List.foldl_append]
  rfl
theorem or_zero_iff (x y : UInt8) : x ||| y = 0 ↔ x = 0 ∧ y = 0 := by
  rw [← UInt8.toNat_inj, UInt8.toNat_or, ← UInt8.toNat_inj, ← UInt8.toNat_inj]
  simp
theorem xor_zero_iff (x y : UInt8) : x ^^^ y = 0 ↔ x = y := by
  rw [← UInt8.toNat_inj, UInt8.toNat_xor, ← UInt8.toNat_inj]
  constructor
  · intro h
    apply Nat.eq_of_testBit_eq
    intro i
    have h1 := congrArg (·.testBit i) h
    simp only [Nat.testBit_xor] at h1
    revert h1
    cases x.toNat.testBit i <;> cases y.toNat.testBit i <;> simp
  · intro h; rw [h, Nat.xor_self]; rfl
theorem foldl_or_zero : ∀ (l : List UInt8) (c : UInt8), l.foldl (· ||| ·) c = 0 ↔ c = 0 ∧ ∀ x ∈ l, x = 0
  | [], c => by simp
  | x :: l, c => by simp only [List.foldl_cons, foldl_or_zero l, or_zero_iff, List.mem_cons, forall_eq_or_imp, and_assoc]
theorem diffL_zero : ∀ (a b : List UInt8), a.length = b.length → (diffL a b = 0 ↔ a = b)
  | [], [], _ => by simp [diffL]
  | [], _ :: _, h => by simp at h
  | _ :: _, [], h => by simp at h
  | x :: a, y :: b, h => by
    have ih := diffL_zero a b (by simpa using h)
    unfold diffL at ih ⊢
    simp only [List.zipWith_cons_cons, List.foldl_cons, foldl_or_zero, or_zero_iff, xor_zero_iff, true_and, List.cons.injEq] at ih ⊢
    rw [ih]

theorem str_at {s : ByteArray} {a : List UInt8} {k : Nat} (hs : s = ⟨a.toArray⟩) (h : k < s.size) : a[k]? = some s[k] := by
  subst hs
  show a[k]? = some (a.toArray[k]'h)
  rw [List.getElem_toArray, List.getElem?_eq_getElem]
theorem mixL_all (a b : List UInt8) (k : Nat) (h : a.length ≤ k ∨ b.length ≤ k) (_hk : k ≤ a.length) : mixL (a.take k) (b.take k) = mixL a b := by
  unfold mixL
  apply List.ext_getElem?
  intro i
  simp only [List.getElem?_zipWith, List.getElem?_take]
  by_cases hi : i < k
  · simp [hi]
  · simp only [if_neg hi]
    rcases h with h | h
    · rw [List.getElem?_eq_none (l := a) (by omega)]
    · rw [List.getElem?_eq_none (l := b) (by omega)]; cases a[i]? <;> rfl

end Go.Proofs.YtbpgodkdbbiadaaDoor
