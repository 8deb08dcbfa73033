/- The walks of the document's prime and less. No condition. -/
import Derived.Test.YthffodfnnjejnaaPolS
namespace Go.Proofs.Ythffodfnnjejnaa
open Go.RowKit
def primeAt : Nat → List Nat
  | 0 => List.replicate 34 0
  | k + 1 => (primeAt k).set k 255
@[simp] theorem primeAt_length (k : Nat) : (primeAt k).length = 34 := by
  induction k with
  | zero => rfl
  | succ k ih => rw [primeAt, List.length_set, ih]
theorem prime_is : ((primeAt 16).set 0 251).set 16 3 = dig 34 P130 := by decide +kernel
set_option maxHeartbeats 4000000 in
theorem prime_any (w : World) : Calls Try.prog 46 #[] w fun e w' => e = .returned (.agg (i64s (dig 34 P130)).toArray) ∧ Below w.heap.size w w' := by
  go_enter Try.func46, Try.ntmps46
  go_wp2_with fail
  generalize hW : (w.alloc _).alloc _ = W
  have hR : Arr W w.heap.size 73 (i64s (List.replicate 34 0)) := by rw [← hW]; exact (Arr.newAt rfl (by kernel_rfl)).alloc _
  have hA : Arr W (w.heap.size + 1) 73 (i64s (primeAt 0)) := by rw [← hW]; exact Arr.newAt (asz _ _) (by kernel_rfl)
  have hB : Below w.heap.size w W := by rw [← hW]; exact ((Below.refl _ _).alloc (Nat.le_refl _) _).alloc (by rw [asz]; omega) _
  clear hW
  go_loopw [2] (fun i wr => ∃ r : Nat, r ≤ 16 ∧ i = .int .i64 r ∧ Arr wr w.heap.size 73 (i64s (List.replicate 34 0)) ∧ Arr wr (w.heap.size + 1) 73 (i64s (primeAt r)) ∧ Below w.heap.size w wr) (fun i _ => 16 - (intOf i).toNat)
  case atStart => exact ⟨0, by omega, rfl, hR, hA, hB⟩
  case round =>
    obtain ⟨r, hr, rfl, hR, hA, hB⟩ := hrel
    by_cases hlt : r < 16
    · have c1 := hA.i64 (a := r) (by simp; omega)
      have f1 := hA.frozen r
      go_wp2_with fail
      have h1 := hA.set r (.int .i64 ((255 : Nat) : Int))
      rw [i64s_set] at h1
      exact ⟨⟨r + 1, by omega, by go_num, hR.other (by simp only []; omega) _, h1, hB.trans (below_setCell (a := ⟨w.heap.size + 1, r, none⟩) (by simp only []; omega))⟩, by simp [intOf]; omega⟩
    · obtain rfl : r = 16 := by omega
      have hlz : (primeAt 16).length = 34 := by simp
      have hE := prime_is
      obtain ⟨z, hz⟩ : ∃ z, z = primeAt 16 := ⟨_, rfl⟩
      rw [← hz] at hA hE hlz
      have HE := Lib.hid hE
      clear hE hz
      have c0 := hA.i64 (a := 0) (by omega)
      have f0 := hA.frozen 0
      have h1 : Arr (wr.setCell ⟨w.heap.size + 1, 0, none⟩ (.int .i64 251)) (w.heap.size + 1) 73 (i64s (z.set 0 251)) := by
        have t := hA.set 0 (.int .i64 ((251 : Nat) : Int))
        rw [i64s_set] at t
        exact t
      have c16 := h1.i64 (a := 16) (by simp [hlz])
      have f16 := h1.frozen 16
      have h2 : Arr ((wr.setCell ⟨w.heap.size + 1, 0, none⟩ (.int .i64 251)).setCell ⟨w.heap.size + 1, 16, none⟩ (.int .i64 3)) (w.heap.size + 1) 73 (i64s ((z.set 0 251).set 16 3)) := by
        have t := h1.set 16 (.int .i64 ((3 : Nat) : Int))
        rw [i64s_set] at t
        exact t
      have hR2 := (hR.other (a := ⟨w.heap.size + 1, 0, none⟩) (by simp only []; omega) (.int .i64 251)).other (a := ⟨w.heap.size + 1, 16, none⟩) (by simp only []; omega) (.int .i64 3)
      have hB2 := hB.trans ((below_setCell (w := wr) (a := ⟨w.heap.size + 1, 0, none⟩) (v := .int .i64 251) (by simp only []; omega)).trans (below_setCell (a := ⟨w.heap.size + 1, 16, none⟩) (v := .int .i64 3) (by simp only []; omega)))
      have hl2 : ((z.set 0 251).set 16 3).length = 34 := by simp [hlz]
      simp only [show ((16 : Nat) : Int) = 16 from rfl]
      go_wp2_with first
        | (refine wpList_load_mid rfl 73 (.tmp 1) rfl (w.heap.size + 1) 0 rfl (i64s ((z.set 0 251).set 16 3)) _ h2.range Try.underlying73 rfl (info34 _ hl2) ?_)
        | (refine wpList_put hR2 rfl 73 (.tmp 0) (.tmp 11) rfl (i64s ((z.set 0 251).set 16 3)) rfl rfl (by simp [hlz]) (info34 _ hl2) (i64s_oneCell _) ?_; intro w2 hR3 hB3 hO3)
      refine bodyPost_ret (results_cell_row rfl _ _ w.heap.size _ _ _ _ rfl hR3 Try.underlying73 rfl (by have := info34 _ hl2; simpa using this)) rfl ?_
      rw [← HE.out]
      exact ⟨rfl, hB2.trans (hB3.mono (by omega))⟩
theorem val256_lt {l : List Nat} (h : ∀ i, l.getD i 0 < 256) : ∀ k, k ≤ l.length → val256 (l.take k) < 256 ^ k := by
  intro k
  induction k with
  | zero => intro _; simp [val256]
  | succ k ih =>
    intro hk
    obtain ⟨x, hx⟩ : ∃ x, l[k]? = some x := ⟨_, List.getElem?_eq_getElem (by omega)⟩
    have h1 := h k
    rw [List.getD_eq_getElem?_getD, hx] at h1
    simp only [Option.getD_some] at h1
    have h2 := ih (by omega)
    rw [take_snoc_ l k x hx, val256_snoc, List.length_take, Nat.min_eq_left (by omega), Nat.pow_succ]
    have h3 : 256 ^ k * x ≤ 256 ^ k * 255 := Nat.mul_le_mul_left _ (by omega)
    omega
theorem less_step {a b : List Nat} {k : Nat} (ha : k < a.length) (hb : k < b.length) (hda : ∀ i, a.getD i 0 < 256) (hdb : ∀ i, b.getD i 0 < 256) (hne : a.getD k 0 ≠ b.getD k 0) :
    decide (val256 (a.take (k + 1)) < val256 (b.take (k + 1))) = decide (a.getD k 0 < b.getD k 0) := by
  obtain ⟨x, hx⟩ : ∃ x, a[k]? = some x := ⟨_, List.getElem?_eq_getElem ha⟩
  obtain ⟨y, hy⟩ : ∃ x, b[k]? = some x := ⟨_, List.getElem?_eq_getElem hb⟩
  have ex : a.getD k 0 = x := by rw [List.getD_eq_getElem?_getD, hx]; rfl
  have ey : b.getD k 0 = y := by rw [List.getD_eq_getElem?_getD, hy]; rfl
  rw [ex, ey] at hne ⊢
  have h1 := val256_lt hda k (by omega)
  have h2 := val256_lt hdb k (by omega)
  rw [take_snoc_ a k x hx, take_snoc_ b k y hy, val256_snoc, val256_snoc, List.length_take, List.length_take, Nat.min_eq_left (by omega), Nat.min_eq_left (by omega)]
  rcases Nat.lt_or_gt_of_ne hne with h | h
  · have h3 : 256 ^ k * (x + 1) ≤ 256 ^ k * y := Nat.mul_le_mul_left _ h
    rw [Nat.mul_add] at h3
    rw [decide_eq_true h, decide_eq_true (by omega)]
  · have h3 : 256 ^ k * (y + 1) ≤ 256 ^ k * x := Nat.mul_le_mul_left _ h
    rw [Nat.mul_add] at h3
    rw [decide_eq_false (by omega), decide_eq_false (by omega)]
theorem less_same {a b : List Nat} {k : Nat} (ha : k < a.length) (hb : k < b.length) (he : a.getD k 0 = b.getD k 0) :
    decide (val256 (a.take (k + 1)) < val256 (b.take (k + 1))) = decide (val256 (a.take k) < val256 (b.take k)) := by
  obtain ⟨x, hx⟩ : ∃ x, a[k]? = some x := ⟨_, List.getElem?_eq_getElem ha⟩
  obtain ⟨y, hy⟩ : ∃ x, b[k]? = some x := ⟨_, List.getElem?_eq_getElem hb⟩
  have ex : a.getD k 0 = x := by rw [List.getD_eq_getElem?_getD, hx]; rfl
  have ey : b.getD k 0 = y := by rw [List.getD_eq_getElem?_getD, hy]; rfl
  rw [ex, ey] at he
  subst he
  rw [take_snoc_ a k x hx, take_snoc_ b k x hy, val256_snoc, val256_snoc, List.length_take, List.length_take, Nat.min_eq_left (by omega), Nat.min_eq_left (by omega)]
  congr 1
  rw [eq_iff_iff]
  omega
end Go.Proofs.Ythffodfnnjejnaa
