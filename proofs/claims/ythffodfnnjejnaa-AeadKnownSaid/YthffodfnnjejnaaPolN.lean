/- The walks of the poly layer's numbers: carry, plus, load, words. No condition. -/
import Derived.Test.YthffodfnnjejnaaKitA
import Derived.Test.YthffodfnnjejnaaPolQ
namespace Go.Proofs.Ythffodfnnjejnaa
open Go.RowKit
/-- Long words as they stand in memory. -/
def u64s (l : List Nat) : List Value := l.map fun (c : Nat) => .int .u64 (c : Int)
@[simp] theorem u64s_length (l : List Nat) : (u64s l).length = l.length := by simp [u64s]
theorem u64s_set (l : List Nat) (i x : Nat) : (u64s l).set i (.int .u64 (x : Int)) = u64s (l.set i x) := by simp [u64s, List.map_set]
theorem u64s_oneCell (l : List Nat) : ∀ u ∈ u64s l, u.oneCell' = true := by
  intro u hu
  simp only [u64s, List.mem_map] at hu
  obtain ⟨c, _, rfl⟩ := hu
  rfl
theorem Arr.u64 {w : World} {g : Nat} {t : TypeId} {s : List Nat} (h : Arr w g t (u64s s)) {a : Nat} (ha : a < s.length) : w.cell? ⟨g, a, none⟩ = some (.int .u64 (s.getD a 0 : Nat)) := by
  refine h.cell ?_
  simp [u64s, List.getD_eq_getElem?_getD, ha]
/-- All words are words. -/
def Lt64 (l : List Nat) : Prop := ∀ i, l.getD i 0 < 18446744073709551616
theorem Lt64.set {l : List Nat} (h : Lt64 l) (k : Nat) {v : Nat} (hv : v < 18446744073709551616) : Lt64 (l.set k v) := by
  intro i
  rw [List.getD_eq_getElem?_getD, List.getElem?_set]
  split
  · split
    · exact hv
    · simp
  · have := h i
    rwa [List.getD_eq_getElem?_getD] at this
theorem and26 (n : Nat) (h : n < 18446744073709551616) : bits .and .u64 (n : Int) 67108863 = ((n % 67108864 : Nat) : Int) := by
  have h1 := u64_and_nat n 67108863 h (by omega)
  rw [show (67108863 : Nat) = 2 ^ 26 - 1 from rfl, Nat.and_two_pow_sub_one_eq_mod] at h1
  exact h1
theorem wrap_add64 (a b : Nat) : IntKind.u64.wrap ((a : Int) + (b : Int)) = (((a + b) % 18446744073709551616 : Nat) : Int) := by
  rw [IntKind.wrap_u64]; omega
theorem wrap_mul64 (a b : Nat) : IntKind.u64.wrap ((a : Int) * (b : Int)) = ((a * b % 18446744073709551616 : Nat) : Int) := by
  rw [IntKind.wrap_u64, Int.natCast_emod, Int.natCast_mul]; rfl
theorem cAt_lt {x : List Nat} (h : Lt64 x) (o k : Nat) : Lt64 (cAt x o k).1 := by
  induction k with
  | zero => exact h
  | succ k ih => exact ih.set k (by have := Nat.mod_lt (((cAt x o k).1.getD k 0 + (cAt x o k).2) % W64) (show 67108864 > 0 by omega); omega)
theorem info38 (l : List Nat) (h : l.length = 5) : (Try.prog.info? 64).map (·.size) = some (u64s l).length := by simp only [u64s_length, h]; kernel_rfl
/-- After r passes. -/
def passAt (x : List Nat) : Nat → List Nat × Nat
  | 0 => (x, 0)
  | r + 1 => ((cAt (passAt x r).1 (passAt x r).2 5).1, (cAt (passAt x r).1 (passAt x r).2 5).2 * 5 % W64)
@[simp] theorem passAt_length (x : List Nat) (r : Nat) : (passAt x r).1.length = x.length := by
  induction r with
  | zero => rfl
  | succ r ih => rw [passAt, cAt_length, ih]
theorem passAt_lt {x : List Nat} (h : Lt64 x) (r : Nat) : Lt64 (passAt x r).1 := by
  induction r with
  | zero => exact h
  | succ r ih => exact cAt_lt ih _ _
set_option maxHeartbeats 4000000 in
theorem carry_any (x : List Nat) (hx : x.length = 5) (hl : Lt64 x) (w : World) :
    Calls Try.prog 44 #[.agg (u64s x).toArray] w fun e w' => e = .returned (.agg (u64s (carryU x)).toArray) ∧ Below w.heap.size w w' := by
  go_enter Try.func44, Try.ntmps44
  go_wp2_with fail
  have hA : Arr ((w.alloc (.cells (u64s x).toArray 64)).alloc (.cells (u64s (List.replicate 5 0)).toArray 64)) w.heap.size 64 (u64s x) := (Arr.newAt rfl rfl).alloc _
  have hR : Arr ((w.alloc (.cells (u64s x).toArray 64)).alloc (.cells (u64s (List.replicate 5 0)).toArray 64)) (w.heap.size + 1) 64 (u64s (List.replicate 5 0)) := Arr.newAt (asz _ _) rfl
  have hB : Below w.heap.size w ((w.alloc (.cells (u64s x).toArray 64)).alloc (.cells (u64s (List.replicate 5 0)).toArray 64)) := ((Below.refl _ _).alloc (Nat.le_refl _) _).alloc (by rw [asz]; omega) _
  change Code.wp _ _ _ _ ((w.alloc (.cells (u64s x).toArray 64)).alloc (.cells (u64s (List.replicate 5 0)).toArray 64))
  generalize ((w.alloc (.cells (u64s x).toArray 64)).alloc (.cells (u64s (List.replicate 5 0)).toArray 64)) = W at hA hR hB ⊢
  go_loopw [3, 5] (fun ov i wr => ∃ r : Nat, r ≤ 2 ∧ i = .int .i64 r ∧ ov = .int .u64 ((passAt x r).2 : Nat) ∧ Arr wr w.heap.size 64 (u64s (passAt x r).1) ∧ Arr wr (w.heap.size + 1) 64 (u64s (List.replicate 5 0)) ∧ Below w.heap.size w wr) (fun _ i _ => 2 - (intOf i).toNat)
  case atStart => exact ⟨0, by omega, rfl, rfl, hA, hR, hB⟩
  case round =>
    obtain ⟨r, hr, rfl, rfl, hA, hR, hB⟩ := hrel
    by_cases hlt : r < 2
    · obtain ⟨y, hy⟩ : ∃ y, y = (passAt x r).1 := ⟨_, rfl⟩
      obtain ⟨o, ho⟩ : ∃ o, o = (passAt x r).2 := ⟨_, rfl⟩
      have hly : y.length = 5 := by rw [hy]; simp [hx]
      have hLy : Lt64 y := by rw [hy]; exact passAt_lt hl r
      have HP : Hid ((passAt x (r + 1)) = ((cAt y o 5).1, (cAt y o 5).2 * 5 % W64)) := by show _ = _; rw [hy, ho]; rfl
      rw [← hy] at hA
      rw [← ho]
      clear hy ho
      go_wp2_with fail
      generalize wr = W1 at hA hR hB ⊢
      go_loopw [3, 7] (fun ov i wr => ∃ k : Nat, k ≤ 5 ∧ i = .int .i64 k ∧ ov = .int .u64 ((cAt y o k).2 : Nat) ∧ Arr wr w.heap.size 64 (u64s (cAt y o k).1) ∧ Arr wr (w.heap.size + 1) 64 (u64s (List.replicate 5 0)) ∧ Below w.heap.size w wr) (fun _ i _ => 5 - (intOf i).toNat)
      case atStart => exact ⟨0, by omega, rfl, rfl, hA, hR, hB⟩
      case round =>
        obtain ⟨k, hk, rfl, rfl, hA, hR, hB⟩ := hrel
        by_cases hlt : k < 5
        · have hlz : (cAt y o k).1.length = 5 := by simp [hly]
          have hLz := cAt_lt hLy o k
          obtain ⟨z, hz⟩ : ∃ z, z = (cAt y o k).1 := ⟨_, rfl⟩
          obtain ⟨q, hq⟩ : ∃ q, q = (cAt y o k).2 := ⟨_, rfl⟩
          obtain ⟨a, ha⟩ : ∃ a, a = z.getD k 0 := ⟨_, rfl⟩
          obtain ⟨v, hv⟩ : ∃ v, v = (a + q) % 18446744073709551616 := ⟨_, rfl⟩
          have HC : Hid (cAt y o (k + 1) = (z.set k (v % 67108864), v / 67108864)) := by show _ = _; rw [hv, ha, hz, hq]; rfl
          rw [← hz] at hA hlz hLz
          rw [← hq]
          have c1 := hA.u64 (a := k) (by omega)
          rw [← ha] at c1
          have f1 := hA.frozen k
          have e1 := wrap_add64 a q
          rw [← hv] at e1
          have hv1 : v < 18446744073709551616 := by rw [hv]; exact Nat.mod_lt _ (by omega)
          have e2 := and26 v hv1
          clear hz hq ha hv
          go_wp2_with fail
          have h1 := (hA.set k (.int .u64 (v : Int))).set k (.int .u64 ((v % 67108864 : Nat) : Int))
          rw [List.set_set, u64s_set] at h1
          refine ⟨⟨k + 1, by omega, by go_num, by rw [HC.out]; rfl, by rw [HC.out]; exact h1, (hR.other (by simp only []; omega) _).other (by simp only []; omega) _, hB.trans ((below_setCell (a := ⟨w.heap.size, k, none⟩) (Nat.le_refl w.heap.size)).trans (below_setCell (a := ⟨w.heap.size, k, none⟩) (Nat.le_refl w.heap.size)))⟩, by simp [intOf]; omega⟩
        · obtain rfl : k = 5 := by omega
          obtain ⟨z, hz⟩ : ∃ z, z = (cAt y o 5).1 := ⟨_, rfl⟩
          obtain ⟨q, hq⟩ : ∃ q, q = (cAt y o 5).2 := ⟨_, rfl⟩
          rw [← hz] at hA
          rw [← hq]
          have e1 := wrap_mul64 q 5
          rw [← hz, ← hq] at HP
          clear hz hq
          obtain ⟨v, hv⟩ : ∃ v, v = q * 5 % 18446744073709551616 := ⟨_, rfl⟩
          rw [show q * 5 % W64 = v from hv.symm] at HP
          rw [← hv] at e1
          clear hv
          simp only [show ((5 : Nat) : Int) = 5 from rfl] at e1 ⊢
          go_wp2_with fail
          refine ⟨⟨r + 1, by omega, by go_num, by rw [HP.out], by rw [HP.out]; exact hA, hR, hB⟩, by simp [intOf]; omega⟩
    · obtain rfl : r = 2 := by omega
      obtain ⟨z, hz⟩ : ∃ z, z = (passAt x 2).1 := ⟨_, rfl⟩
      obtain ⟨q, hq⟩ : ∃ q, q = (passAt x 2).2 := ⟨_, rfl⟩
      have hlz : z.length = 5 := by rw [hz]; simp [hx]
      obtain ⟨a, ha⟩ : ∃ a, a = z.getD 0 0 := ⟨_, rfl⟩
      obtain ⟨v, hv⟩ : ∃ v, v = (a + q) % 18446744073709551616 := ⟨_, rfl⟩
      have HC : Hid (carryU x = z.set 0 v) := by show _ = _; rw [hv, ha, hz, hq]; rfl
      rw [← hz] at hA
      rw [← hq]
      have c1 := hA.u64 (a := 0) (by omega)
      rw [← ha] at c1
      have f1 := hA.frozen 0
      have e1 := wrap_add64 a q
      rw [← hv] at e1
      clear hz hq ha hv
      have h1 := hA.set 0 (.int .u64 (v : Int))
      rw [u64s_set] at h1
      have hRn := hR.other (a := ⟨w.heap.size, 0, none⟩) (by simp only []; omega) (.int .u64 (v : Int))
      have hBn := hB.trans (below_setCell (w := wr) (a := ⟨w.heap.size, 0, none⟩) (v := .int .u64 (v : Int)) (Nat.le_refl _))
      have hlc : (z.set 0 v).length = 5 := by rw [List.length_set, hlz]
      simp only [show ((2 : Nat) : Int) = 2 from rfl]
      go_wp2_with first
        | (refine wpList_load_mid rfl 64 (.tmp 1) rfl w.heap.size 0 rfl (u64s (z.set 0 v)) _ h1.range Try.underlying64 rfl (info38 _ hlc) ?_)
        | (refine wpList_put hRn rfl 64 (.tmp 2) (.tmp 34) rfl (u64s (z.set 0 v)) rfl rfl (by simp [hlz]) (info38 _ hlc) (u64s_oneCell _) ?_; intro w2 hR2 hB2 hO2)
      refine bodyPost_ret (results_cell_row rfl _ _ (w.heap.size + 1) _ _ _ _ rfl hR2 Try.underlying64 rfl (by have := info38 _ hlc; simpa using this)) rfl ?_
      rw [HC.out]
      exact ⟨rfl, hBn.trans (hB2.mono (by omega))⟩
end Go.Proofs.Ythffodfnnjejnaa
