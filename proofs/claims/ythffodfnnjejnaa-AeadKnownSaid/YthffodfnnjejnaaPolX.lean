/- The walk of the document's fold. No condition. -/
import Derived.Test.YthffodfnnjejnaaPolW
namespace Go.Proofs.Ythffodfnnjejnaa
open Go.RowKit
theorem run_addZ {P : Program} {ev : Operand → Value} {d : Option Tmp} {t T U : TypeId} {s : String} {af : Array Edge} {gd : Option (Nat × Bool)} {w : World} {x y : Operand} {a b c : Int} (h1 : ev x = .int .i64 a) (h2 : ev y = .int .i64 b) (hc : a + b = c) (l1 : -9223372036854775808 ≤ c) (l2 : c ≤ 9223372036854775807) :
    (execOp ev ⟨d, .binOp .add T x y U, t, s, af, gd⟩).run P w = .ok (.value (.int .i64 c)) w := by
  subst hc
  simp only [execOp, h1, h2]
  go_simp
  exact IntWalk.i64_in _ (by omega)
theorem run_subI {P : Program} {ev : Operand → Value} {d : Option Tmp} {t T U : TypeId} {s : String} {af : Array Edge} {gd : Option (Nat × Bool)} {w : World} {x y : Operand} {a b c : Int} (h1 : ev x = .int .i64 a) (h2 : ev y = .int .i64 b) (hc : a - b = c) (l1 : -9223372036854775808 ≤ c) (l2 : c ≤ 9223372036854775807) :
    (execOp ev ⟨d, .binOp .sub T x y U, t, s, af, gd⟩).run P w = .ok (.value (.int .i64 c)) w := by
  subst hc
  simp only [execOp, h1, h2]
  go_simp
  exact IntWalk.i64_in _ (by omega)
theorem run_mulI {P : Program} {ev : Operand → Value} {d : Option Tmp} {t T U : TypeId} {s : String} {af : Array Edge} {gd : Option (Nat × Bool)} {w : World} {x y : Operand} {a b c : Int} (h1 : ev x = .int .i64 a) (h2 : ev y = .int .i64 b) (hc : a * b = c) (l1 : -9223372036854775808 ≤ c) (l2 : c ≤ 9223372036854775807) :
    (execOp ev ⟨d, .binOp .mul T x y U, t, s, af, gd⟩).run P w = .ok (.value (.int .i64 c)) w := by
  subst hc
  simp only [execOp, h1, h2]
  go_simp
  exact IntWalk.i64_in _ (by omega)
theorem run_remI {P : Program} {ev : Operand → Value} {d : Option Tmp} {t T U : TypeId} {s : String} {af : Array Edge} {gd : Option (Nat × Bool)} {w : World} {x : Operand} {a : Nat} {y : Operand} (h1 : ev x = .int .i64 a) (h2 : ev y = .int .i64 4) :
    (execOp ev ⟨d, .binOp .rem T x y U, t, s, af, gd⟩).run P w = .ok (.value (.int .i64 ((a % 4 : Nat) : Int))) w := by
  simp only [execOp, h1, h2]
  go_simp
  exact Int.tmod_eq_emod_of_nonneg (by omega)
/-- Numbers, some below nought, as they stand in memory. -/
def i64z (l : List Int) : List Value := l.map fun (c : Int) => .int .i64 c
theorem i64z_set (l : List Int) (i : Nat) (x : Int) : (i64z l).set i (.int .i64 x) = i64z (l.set i x) := by simp [i64z, List.map_set]
theorem Arr.i64z {w : World} {g : Nat} {t : TypeId} {n : Nat} {f : Nat → Int} (h : Arr w g t (i64z ((List.range n).map f))) {a : Nat} (ha : a < n) : w.cell? ⟨g, a, none⟩ = some (.int .i64 (f a)) := by
  refine h.cell ?_
  simp [Go.Proofs.Ythffodfnnjejnaa.i64z, ha]
theorem range_set (n : Nat) (f : Nat → Int) (k : Nat) (x : Int) : ((List.range n).map f).set k x = (List.range n).map fun i => if i = k then x else f i := by
  apply List.ext_getElem
  · simp
  · intro i h1 h2
    simp only [List.getElem_set, List.getElem_map, List.getElem_range]
    by_cases h : k = i
    · simp [h]
    · simp [h]; intro h3; exact absurd h3.symm h
theorem dig_range (k v : Nat) : dig k v = (List.range k).map fun i => v / 256 ^ i % 256 := by
  induction k with
  | zero => rfl
  | succ k ih => rw [dig_snoc, ih, List.range_succ, List.map_append]; rfl
theorem i64s_range (n : Nat) (f : Nat → Nat) : i64s ((List.range n).map f) = i64z ((List.range n).map fun i => ((f i : Nat) : Int)) := by
  simp [i64s, i64z]
/-- What is borrowed from place k. -/
def boAt (A p k : Nat) : Nat := if A % 256 ^ k < p % 256 ^ k then 1 else 0
theorem bo_dig (M A p : Nat) (hM : 0 < M) (h : p ≤ A) :
    (A - p) / M % 256 + (if A % M < p % M then 1 else 0) + p / M % 256 = A / M % 256 + 256 * (if A % (M * 256) < p % (M * 256) then 1 else 0) := by
  have a1 : A % (M * 256) = A % M + M * (A / M % 256) := Nat.mod_mul
  have p1 : p % (M * 256) = p % M + M * (p / M % 256) := Nat.mod_mul
  have aq := Nat.mod_add_div A M
  have pq := Nat.mod_add_div p M
  have ar := Nat.mod_lt A hM
  have pr := Nat.mod_lt p hM
  rw [a1, p1]
  generalize A % M = r at *
  generalize p % M = s at *
  generalize A / M = x at *
  generalize p / M = y at *
  have hxy : y ≤ x := by
    rcases Nat.lt_or_ge x y with h1 | h1
    · have := Nat.mul_le_mul_left M (show x + 1 ≤ y by omega)
      rw [Nat.mul_succ] at this
      omega
    · exact h1
  have hlt : (r + M * (x % 256) < s + M * (y % 256)) ↔ (x % 256 < y % 256 ∨ (x % 256 = y % 256 ∧ r < s)) := by
    rcases Nat.lt_trichotomy (x % 256) (y % 256) with h1 | h1 | h1
    · have := Nat.mul_le_mul_left M (show x % 256 + 1 ≤ y % 256 by omega)
      rw [Nat.mul_succ] at this
      constructor
      · intro _; exact .inl h1
      · intro _; omega
    · rw [h1]; omega
    · have := Nat.mul_le_mul_left M (show y % 256 + 1 ≤ x % 256 by omega)
      rw [Nat.mul_succ] at this
      constructor
      · intro _; omega
      · intro _; omega
  have hd : (A - p) / M = if r < s then x - y - 1 else x - y := by
    obtain ⟨z, rfl⟩ : ∃ z, x = y + z := ⟨x - y, by omega⟩
    rw [Nat.mul_add] at aq
    split
    · rename_i h1
      have hz : 1 ≤ z := by
        rcases Nat.eq_zero_or_pos z with h2 | h2
        · subst h2; omega
        · exact h2
      obtain ⟨k, rfl⟩ : ∃ k, z = k + 1 := ⟨z - 1, by omega⟩
      rw [Nat.mul_succ] at aq
      have e : A - p = (M + r - s) + M * k := by omega
      rw [e, Nat.add_mul_div_left _ _ hM, Nat.div_eq_of_lt (by omega)]
      omega
    · have e : A - p = (r - s) + M * z := by omega
      rw [e, Nat.add_mul_div_left _ _ hM, Nat.div_eq_of_lt (by omega)]
      omega
  rw [hd]
  simp only [hlt]
  by_cases h1 : r < s
  · rw [if_pos h1, if_pos h1]
    have hne : x ≠ y := by intro h2; subst h2; omega
    split <;> omega
  · rw [if_neg h1, if_neg h1]
    split <;> omega
theorem bo_step {A p D : Nat} (k : Nat) (h : A = p + D) : D / 256 ^ k % 256 + boAt A p k + p / 256 ^ k % 256 = A / 256 ^ k % 256 + 256 * boAt A p (k + 1) := by
  have := bo_dig (256 ^ k) A p (Nat.pow_pos (by omega)) (by omega)
  rw [← Nat.pow_succ, show A - p = D by omega] at this
  exact this
theorem bo_end {A p D : Nat} (h : A = p + D) (hA : A < 256 ^ 34) : boAt A p 34 = 0 := by
  rw [boAt, Nat.mod_eq_of_lt hA, Nat.mod_eq_of_lt (by omega), if_neg (by omega)]
theorem bo_le (A p k : Nat) : boAt A p k ≤ 1 := by unfold boAt; split <;> omega
/-- The digits while the prime is taken away. -/
def brF (A D b k i : Nat) : Int := if i < k then ((D / 256 ^ i % 256 : Nat) : Int) else if i = k then ((A / 256 ^ i % 256 : Nat) : Int) - (b : Int) else ((A / 256 ^ i % 256 : Nat) : Int)
theorem br_start (A D : Nat) : i64s (dig 34 A) = i64z ((List.range 34).map (brF A D 0 0)) := by
  rw [dig_range, i64s_range]
  congr 2
  funext i
  unfold brF
  rw [if_neg (by omega)]
  split <;> simp
theorem br_end (A D b : Nat) : i64z ((List.range 34).map (brF A D b 34)) = i64s (dig 34 D) := by
  rw [dig_range, i64s_range]
  congr 1
theorem br_low (A D b k x : Nat) (hx : x = D / 256 ^ k % 256) : (fun i => if i = k then (x : Int) else brF A D b k i) = brF A D 0 (k + 1) := by
  subst hx
  funext i
  unfold brF
  by_cases h1 : i = k
  · subst h1; simp
  · rw [if_neg h1]
    by_cases h2 : i < k
    · rw [if_pos h2, if_pos (by omega)]
    · rw [if_neg h2, if_neg h1, if_neg (by omega)]
      split <;> simp
theorem br_borrow (A D b k x : Nat) (hx : x = D / 256 ^ k % 256) (y : Int) (hy : y = ((A / 256 ^ (k + 1) % 256 : Nat) : Int) - 1) (z : Int) :
    (fun i => if i = k + 1 then y else if i = k then (x : Int) else if i = k then z else brF A D b k i) = brF A D 1 (k + 1) := by
  subst hx hy
  funext i
  unfold brF
  by_cases h1 : i = k
  · subst h1; simp
  · by_cases h3 : i = k + 1
    · subst h3; simp
    · rw [if_neg h3, if_neg h1, if_neg h1]
      by_cases h2 : i < k
      · rw [if_pos h2, if_pos (by omega)]
      · rw [if_neg h2, if_neg h1, if_neg (by omega), if_neg h3]
theorem foN_le (v k : Nat) : foN v k ≤ v := by
  induction k with
  | zero => exact Nat.le_refl _
  | succ k ih =>
    refine Nat.le_trans ?_ ih
    rw [foN]
    generalize foN v k = u
    show u % 1361129467683753853853498429727072845824 + 5 * (u / 1361129467683753853853498429727072845824) ≤ u
    omega
theorem dig_get256 (k v i : Nat) : (dig k v).getD i 0 < 256 := by
  rcases Nat.lt_or_ge i k with h | h
  · rw [dig_get k v i h]
    exact Nat.mod_lt _ (by omega)
  · rw [List.getD_eq_getElem?_getD, List.getElem?_eq_none (by simp; omega)]
    show 0 < _
    omega
theorem ad_lt40 (u : Nat) (r : Nat) : Lt40 (adAt (dig 34 (u % Q130)) (dig 34 (u / Q130)) 5 0 r) := by
  intro j
  have h1 := adAt_le (dig 34 (u % Q130)) (dig 34 (u / Q130)) 5 0 1275 (fun k => by have := dig_get256 34 (u / Q130) k; omega) r j
  have h2 := dig_get256 34 (u % Q130) j
  omega
/-- The three loops of one round. -/
theorem set_dig' (r n m v x : Nat) (hm : m = n + 1) (hx : x = v / 256 ^ r % 256) : (dig r v ++ List.replicate m 0).set r x = dig (r + 1) v ++ List.replicate n 0 := by
  subst hm
  exact set_dig r n v x hx
set_option maxRecDepth 20000 in
set_option maxHeartbeats 8000000 in
theorem fold_any (v : Nat) (hv : v < 256 ^ 34) (w : World) :
    Calls Try.prog 40 #[.agg (i64s (dig 34 v)).toArray] w fun e w' => e = .returned (.agg (i64s (dig 34 (v % P130))).toArray) ∧ Below w.heap.size w w' := by
  go_enter Try.func40, Try.ntmps40
  go_wp2_with fail
  generalize hW : (w.alloc _).alloc _ = W
  have hA : Arr W w.heap.size 73 (i64s (dig 34 (foN v 0))) := by rw [← hW]; exact (Arr.newAt rfl rfl).alloc _
  have hR : Arr W (w.heap.size + 1) 73 (i64s (List.replicate 34 0)) := by rw [← hW]; exact Arr.newAt (asz _ _) (by kernel_rfl)
  have hB : Below w.heap.size w W := by rw [← hW]; exact ((Below.refl _ _).alloc (Nat.le_refl _) _).alloc (by rw [asz]; omega) _
  have hSz : W.heap.size = w.heap.size + 2 := by rw [← hW]; simp only [asz]
  clear hW
  obtain ⟨g1, hg1⟩ : ∃ g, g = w.heap.size := ⟨_, rfl⟩
  obtain ⟨g2, hg2⟩ : ∃ g, g = g1 + 1 := ⟨_, rfl⟩
  rw [← hg1] at hA hB hR ⊢
  rw [← hg2] at hR ⊢
  have hlt12 : g1 < g2 := by omega
  have hsz : g2 < W.heap.size := by omega
  have HG1 := Lib.hid hg1
  clear hSz hg1 hg2
  obtain ⟨F, hF⟩ : ∃ F : Nat → List Nat, F = fun r => dig 34 (foN v r) := ⟨_, rfl⟩
  have HF : Hid (∀ r, F r = dig 34 (foN v r)) := by intro r; rw [hF]
  replace hA : Arr W g1 73 (i64s (F 0)) := by rw [HF.out 0]; exact hA
  clear hF
  go_loopw [3] (fun i wr => ∃ r : Nat, r ≤ 4 ∧ i = .int .i64 r ∧ Arr wr g1 73 (i64s (F r)) ∧ Arr wr g2 73 (i64s (List.replicate 34 0)) ∧ g2 < wr.heap.size ∧ Below g1 w wr) (fun i _ => 4 - (intOf i).toNat)
  case atStart => exact ⟨0, by omega, rfl, hA, hR, hsz, hB⟩
  case round =>
    obtain ⟨r, hr, rfl, hA, hR, hsz, hB⟩ := hrel
    by_cases hlt : r < 4
    · obtain ⟨u, hu⟩ : ∃ u, u = foN v r := ⟨_, rfl⟩
      have hul : u < 256 ^ 34 := by rw [hu]; exact Nat.lt_of_le_of_lt (foN_le v r) hv
      have HN : Hid (F (r + 1) = dig 34 (fo u)) := by show _ = _; rw [HF.out, hu]; rfl
      rw [HF.out r, ← hu] at hA
      have HUL := Lib.hid hul
      clear hu hul
      go_wp2_with fail
      generalize hW2 : (wr.alloc _).alloc _ = W2
      obtain ⟨g4, hg4⟩ : ∃ g, g = wr.heap.size := ⟨_, rfl⟩
      obtain ⟨g5, hg5⟩ : ∃ g, g = g4 + 1 := ⟨_, rfl⟩
      simp only [← hg4]
      simp only [← hg5]
      replace hA : Arr W2 g1 73 (i64s (dig 34 u)) := by rw [← hW2]; exact (hA.alloc _).alloc _
      replace hR : Arr W2 g2 73 (i64s (List.replicate 34 0)) := by rw [← hW2]; exact (hR.alloc _).alloc _
      have h4 : Arr W2 g4 73 (i64s (dig 0 u ++ List.replicate 34 0)) := by rw [← hW2, hg4]; exact (Arr.newAt rfl (by kernel_rfl)).alloc _
      have h5 : Arr W2 g5 73 (i64s (List.replicate 34 0)) := by rw [← hW2, hg5, hg4]; exact Arr.newAt (asz _ _) (by kernel_rfl)
      replace hB : Below g1 w W2 := by rw [← hW2]; exact (hB.alloc (by omega) _).alloc (by rw [asz]; omega) _
      have hlt24 : g2 < g4 := by omega
      have hlt45 : g4 < g5 := by omega
      have hsz2 : g5 < W2.heap.size := by rw [← hW2]; simp only [asz]; omega
      clear hW2 hg4 hg5 hsz
      go_simp
      go_loopw [6] (fun i wr => ∃ j : Nat, j ≤ 16 ∧ i = .int .i64 j ∧ Arr wr g1 73 (i64s (dig 34 u)) ∧ Arr wr g2 73 (i64s (List.replicate 34 0)) ∧ Arr wr g4 73 (i64s (dig j u ++ List.replicate (34 - j) 0)) ∧ Arr wr g5 73 (i64s (List.replicate 34 0)) ∧ g5 < wr.heap.size ∧ Below g1 w wr) (fun i _ => 16 - (intOf i).toNat)
      case atStart => exact ⟨0, by omega, rfl, hA, hR, h4, h5, hsz2, hB⟩
      case round =>
        obtain ⟨j, hj, rfl, hA, hR, h4, h5, hsz2, hB⟩ := hrel
        by_cases hlj : j < 16
        · obtain ⟨x, hx⟩ : ∃ x, x = u / 256 ^ j % 256 := ⟨_, rfl⟩
          have c1 := hA.i64 (a := j) (by simp; omega)
          rw [dig_get 34 u j (by omega), ← hx] at c1
          have c4 := h4.i64 (a := j) (by simp; omega)
          have f4 := h4.frozen j
          have h4' := h4.set j (.int .i64 (x : Int))
          rw [i64s_set, set_dig' j (33 - j) (34 - j) u x (by omega) hx] at h4'
          have HX := Lib.hid hx
          clear hx
          go_wp2_with fail
          exact ⟨⟨j + 1, by omega, by go_num, hA.other (by simp only []; omega) _, hR.other (by simp only []; omega) _, by rw [show 34 - (j + 1) = 33 - j by omega]; exact h4', h5.other (by simp only []; omega) _, Nat.lt_of_lt_of_le hsz2 (below_setCell (B := 0) (Nat.zero_le _)).size, hB.trans (below_setCell (a := ⟨g4, j, none⟩) (by simp only []; omega))⟩, by simp [intOf]; omega⟩
        · obtain rfl : j = 16 := by omega
          obtain ⟨x, hx⟩ : ∃ x, x = u / 256 ^ 16 % 256 := ⟨_, rfl⟩
          have c1 := hA.i64 (a := 16) (by simp)
          rw [dig_get 34 u 16 (by omega), ← hx] at c1
          have c4 := h4.i64 (a := 16) (by simp)
          have f4 := h4.frozen 16
          have hx4 : x % 4 = u % Q130 / 256 ^ 16 % 256 := by rw [hx]; exact low17 u
          have h4' := h4.set 16 (.int .i64 ((x % 4 : Nat) : Int))
          rw [i64s_set, low16, set_dig' 16 17 (34 - 16) (u % Q130) (x % 4) (by omega) hx4] at h4'
          have HX := Lib.hid hx
          have HX4 := Lib.hid hx4
          clear hx hx4
          simp only [show ((16 : Nat) : Int) = 16 from rfl]
          go_wp2_with fail
          rw [show ((x % 4 : Nat) : Int) = (x : Int) % 4 by omega] at h4'
          have hsz3 := Nat.lt_of_lt_of_le hsz2 (below_setCell (w := wr) (a := ⟨g4, 16, none⟩) (v := .int .i64 ((x : Int) % 4)) (B := 0) (Nat.zero_le _)).size
          replace hA := hA.other (a := ⟨g4, 16, none⟩) (by simp only []; omega) (.int .i64 ((x : Int) % 4))
          replace hR := hR.other (a := ⟨g4, 16, none⟩) (by simp only []; omega) (.int .i64 ((x : Int) % 4))
          replace h5 : Arr _ g5 73 (i64s (dig 0 (u / Q130) ++ List.replicate (34 - 0) 0)) := h5.other (a := ⟨g4, 16, none⟩) (by simp only []; omega) (.int .i64 ((x : Int) % 4))
          replace hB := hB.trans (below_setCell (w := wr) (a := ⟨g4, 16, none⟩) (v := .int .i64 ((x : Int) % 4)) (by simp only []; omega))
          generalize wr.setCell _ _ = W3 at h4' hsz3 hA hR h5 hB ⊢
          clear hsz2 h4 c1 c4 f4 HX HX4 hj hlj
          rw [show dig (16 + 1) (u % Q130) ++ List.replicate 17 0 = dig 34 (u % Q130) from (low34 u).symm] at h4'
          go_simp
          go_loopw [7] (fun i wr => ∃ j : Nat, j ≤ 18 ∧ i = .int .i64 j ∧ Arr wr g1 73 (i64s (dig 34 u)) ∧ Arr wr g2 73 (i64s (List.replicate 34 0)) ∧ Arr wr g4 73 (i64s (dig 34 (u % Q130))) ∧ Arr wr g5 73 (i64s (dig j (u / Q130) ++ List.replicate (34 - j) 0)) ∧ g5 < wr.heap.size ∧ Below g1 w wr) (fun i _ => 18 - (intOf i).toNat)
          case atStart => exact ⟨0, by omega, rfl, hA, hR, h4', h5, hsz3, hB⟩
          case round =>
            clear hA hR h4' h5 hsz3 hB
            obtain ⟨j, hj, rfl, hA, hR, h4, h5, hsz2, hB⟩ := hrel
            by_cases hlj : j < 18
            · obtain ⟨k, hk⟩ : ∃ k, k = 16 + j := ⟨_, rfl⟩
              obtain ⟨x, hx⟩ : ∃ x, x = u / 256 ^ k % 256 := ⟨_, rfl⟩
              have hkl : k < 34 := by omega
              have e16 : (16 : Int) + (j : Int) = (k : Int) := by omega
              have c1 := hA.i64 (a := k) (by simp; omega)
              rw [dig_get 34 u k hkl, ← hx] at c1
              have c5 := h5.i64 (a := j) (by simp; omega)
              have f5 := h5.frozen j
              have h5' := h5.set j (.int .i64 ((x / 4 : Nat) : Int))
              rw [i64s_set, show ((x / 4 : Nat) : Int) = (x : Int) / 4 by omega] at h5'
              have HX := Lib.hid hx
              have HK := Lib.hid hk
              have hxl : x < 256 := by rw [hx]; exact Nat.mod_lt _ (by omega)
              clear hx hk
              go_wp2_with fail
              · have hsz3 := Nat.lt_of_lt_of_le hsz2 (below_setCell (w := wr) (a := ⟨g5, j, none⟩) (v := .int .i64 ((x : Int) / 4)) (B := 0) (Nat.zero_le _)).size
                replace hA := hA.other (a := ⟨g5, j, none⟩) (by simp only []; omega) (.int .i64 ((x : Int) / 4))
                replace hR := hR.other (a := ⟨g5, j, none⟩) (by simp only []; omega) (.int .i64 ((x : Int) / 4))
                replace h4 := h4.other (a := ⟨g5, j, none⟩) (by simp only []; omega) (.int .i64 ((x : Int) / 4))
                replace hB := hB.trans (below_setCell (w := wr) (a := ⟨g5, j, none⟩) (v := .int .i64 ((x : Int) / 4)) (by simp only []; omega))
                generalize wr.setCell _ _ = W4 at h5' hsz3 hA hR h4 hB ⊢
                clear c1 c5 f5 h5
                obtain ⟨m, hm⟩ : ∃ m, m = 17 + j := ⟨_, rfl⟩
                obtain ⟨y, hy⟩ : ∃ x, x = u / 256 ^ m % 256 := ⟨_, rfl⟩
                have hml : m < 34 := by omega
                have hyl : y < 256 := by rw [hy]; exact Nat.mod_lt _ (by omega)
                have c1 := hA.i64 (a := m) (by simp; omega)
                rw [dig_get 34 u m hml, ← hy] at c1
                have c5 := h5'.i64 (a := j) (by simp; omega)
                have e5 : ((dig j (u / Q130) ++ List.replicate (34 - j) 0).set j (x / 4)).getD j 0 = x / 4 := by
                  rw [List.getD_eq_getElem?_getD, List.getElem?_set_self (by simp; omega)]; rfl
                rw [e5] at c5
                have e17 : (17 : Int) + (j : Int) = ((m : Nat) : Int) := by omega
                refine wp_region_st (by kernel_rfl) [IsV (.int .i64 (j : Nat)), IsV (.int .i64 (j : Nat)), IsV (.pointer (some ⟨g5, j, none⟩)), IsV (.int .i64 ((x / 4) : Nat)), IsV (.int .i64 (j : Nat)), IsV (.int .i64 (m : Nat)), IsV (.pointer (some ⟨g1, m, none⟩)), IsV (.int .i64 (y : Nat)), IsV (.int .i64 ((y % 4) : Nat)), IsV (.int .i64 ((y % 4 * 64) : Nat)), IsV (.int .i64 ((x / 4 + y % 4 * 64) : Nat)), IsV (.pointer (some ⟨g5, j, none⟩))] 12 _ rfl rfl rfl (by kernel_rfl) (by kernel_rfl) ?_ (⟨g5, j, none⟩ : Addr) (.int .i64 ((x / 4 + y % 4 * 64) : Nat)) ?_ ?_ ?_
                · intro φ hφ
                  simp only [List.mem_cons, List.not_mem_nil, or_false] at hφ
                  rcases hφ with rfl | rfl | rfl | rfl | rfl | rfl | rfl | rfl | rfl | rfl | rfl | rfl <;> exact ⟨_, rfl⟩
                · refine ⟨?_, ?_, ?_, ?_, ?_, ?_, ?_, ?_, ?_, ?_, ?_, ?_, trivial⟩
                  · intro a1 w1 hG hF
                    exact d_old rfl (wants0 rfl) (.tmp 7) (.inr rfl) (.int .i64 (j : Nat)) (hF.ol 7 (by kernel_rfl)) rfl
                  · intro a1 w1 hG hF
                    exact d_old rfl (wants0 rfl) (.tmp 7) (.inr rfl) (.int .i64 (j : Nat)) (hF.ol 7 (by kernel_rfl)) rfl
                  · intro a1 w1 hG hF
                    have e5 : a1.eval (.tmp 5) = .pointer (some ⟨g5, 0, none⟩) := hF.ol 5 (by kernel_rfl)
                    obtain ⟨_, e43, rfl⟩ := hF.dp 1 43 (by kernel_rfl)
                    exact d_is rfl (wants0 rfl) _ rfl (run_idx Try.underlying73 (by kernel_rfl) e5 e43 (by omega))
                  · intro a1 w1 hG hF
                    obtain ⟨_, e44, rfl⟩ := hF.dp 2 44 (by kernel_rfl)
                    exact d_is rfl (wants0 rfl) _ rfl (run_load1 Try.underlying3 e44 ((hG.cell _).trans c5))
                  · intro a1 w1 hG hF
                    exact d_old rfl (wants0 rfl) (.tmp 7) (.inr rfl) (.int .i64 (j : Nat)) (hF.ol 7 (by kernel_rfl)) rfl
                  · intro a1 w1 hG hF
                    obtain ⟨_, e46, rfl⟩ := hF.dp 4 46 (by kernel_rfl)
                    exact d_is rfl (wants0 rfl) _ rfl (run_addZ (a := 17) rfl e46 e17 (by omega) (by omega))
                  · intro a1 w1 hG hF
                    have e1 : a1.eval (.tmp 1) = .pointer (some ⟨g1, 0, none⟩) := hF.ol 1 (by kernel_rfl)
                    obtain ⟨_, e47, rfl⟩ := hF.dp 5 47 (by kernel_rfl)
                    exact d_is rfl (wants0 rfl) _ rfl (run_idx Try.underlying73 (by kernel_rfl) e1 e47 (by omega))
                  · intro a1 w1 hG hF
                    obtain ⟨_, e48, rfl⟩ := hF.dp 6 48 (by kernel_rfl)
                    exact d_is rfl (wants0 rfl) _ rfl (run_load1 Try.underlying3 e48 ((hG.cell _).trans c1))
                  · intro a1 w1 hG hF
                    obtain ⟨_, e49, rfl⟩ := hF.dp 7 49 (by kernel_rfl)
                    exact d_is rfl (wants0 rfl) _ rfl (run_remI e49 rfl)
                  · intro a1 w1 hG hF
                    obtain ⟨_, e50, rfl⟩ := hF.dp 8 50 (by kernel_rfl)
                    exact d_is rfl (wants0 rfl) _ rfl (run_mulI (b := 64) e50 rfl (by omega) (by omega) (by omega))
                  · intro a1 w1 hG hF
                    obtain ⟨_, e45, rfl⟩ := hF.dp 3 45 (by kernel_rfl)
                    obtain ⟨_, e51, rfl⟩ := hF.dp 9 51 (by kernel_rfl)
                    exact d_is rfl (wants0 rfl) _ rfl (run_addZ e45 e51 (by omega) (by omega) (by omega))
                  · intro a1 w1 hG hF
                    have e5 : a1.eval (.tmp 5) = .pointer (some ⟨g5, 0, none⟩) := hF.ol 5 (by kernel_rfl)
                    obtain ⟨_, e42, rfl⟩ := hF.dp 0 42 (by kernel_rfl)
                    exact d_is rfl (wants0 rfl) _ rfl (run_idx Try.underlying73 (by kernel_rfl) e5 e42 (by omega))
                · intro a1 w1 hG hF
                  obtain ⟨_, e53, rfl⟩ := hF.dp 11 53 (by kernel_rfl)
                  obtain ⟨_, e52, rfl⟩ := hF.dp 10 52 (by kernel_rfl)
                  exact ⟨wants0 rfl, run_store1 (by kernel_rfl) e53 e52 (by rw [hG.cell]; exact (Option.isSome_iff_exists.2 ⟨_, c5⟩)) (by rw [hG.frozen]; exact h5'.frozen _)⟩
                intro vs k0 hf
                clear hf
                simp only [putAll, Nat.zero_add, Nat.reduceAdd]
                have hq : x / 4 + y % 4 * 64 = u / Q130 / 256 ^ j % 256 := by rw [hy, HX.out, hm, HK.out, high_dig]
                have h5n := (h5'.dr ⟨k0, rfl⟩).set j (.int .i64 ((x / 4 + y % 4 * 64 : Nat) : Int))
                rw [i64s_set, List.set_set, set_dig' j (33 - j) (34 - j) (u / Q130) _ (by omega) hq] at h5n
                have hAn := (hA.dr ⟨k0, rfl⟩).other (a := ⟨g5, j, none⟩) (by simp only []; omega) (.int .i64 ((x / 4 + y % 4 * 64 : Nat) : Int))
                have hRn := (hR.dr ⟨k0, rfl⟩).other (a := ⟨g5, j, none⟩) (by simp only []; omega) (.int .i64 ((x / 4 + y % 4 * 64 : Nat) : Int))
                have h4n := (h4.dr ⟨k0, rfl⟩).other (a := ⟨g5, j, none⟩) (by simp only []; omega) (.int .i64 ((x / 4 + y % 4 * 64 : Nat) : Int))
                have hBn := (below_dr (B := 0) (w := W4) ⟨k0, rfl⟩).trans (below_setCell (a := ⟨g5, j, none⟩) (v := .int .i64 ((x / 4 + y % 4 * 64 : Nat) : Int)) (Nat.zero_le _))
                have hszn := Nat.lt_of_lt_of_le hsz3 hBn.size
                have hBm := hB.trans ((below_dr ⟨k0, rfl⟩).trans (below_setCell (a := ⟨g5, j, none⟩) (v := .int .i64 ((x / 4 + y % 4 * 64 : Nat) : Int)) (by simp only []; omega)))
                generalize ((W4.drewN k0).setCell _ _) = W5 at h5n hAn hRn h4n hszn hBm ⊢
                clear hBn hA hR h4 h5' hB c1 c5 e5 e17 hq hy hm HX HK e16
                go_simp
                go_wp2_with fail
                go_roundw
                case rel => exact ⟨j + 1, by omega, by go_num, hAn, hRn, h4n, by rw [show 34 - (j + 1) = 33 - j by omega]; exact h5n, hszn, hBm⟩
                case measure => simp [intOf]; omega
              · have hj17 : j = 17 := by omega
                have hq : x / 4 = u / Q130 / 256 ^ j % 256 := by
                  rw [HX.out, HK.out, hj17, high_last u HUL.out]
                rw [set_dig' j (33 - j) (34 - j) (u / Q130) _ (by omega) hq] at h5'
                exact ⟨⟨j + 1, by omega, by go_num, hA.other (by simp only []; omega) _, hR.other (by simp only []; omega) _, h4.other (by simp only []; omega) _, by rw [show 34 - (j + 1) = 33 - j by omega]; exact h5', Nat.lt_of_lt_of_le hsz2 (below_setCell (B := 0) (Nat.zero_le _)).size, hB.trans (below_setCell (by simp only []; omega))⟩, by simp [intOf]; omega⟩
            · obtain rfl : j = 18 := by omega
              rw [show dig 18 (u / Q130) ++ List.replicate (34 - 18) 0 = dig 34 (u / Q130) from (high34 u HUL.out).symm] at h5
              go_wp2_with fail
              go_simp
              go_loopw [8] (fun i wr => ∃ j : Nat, j ≤ 34 ∧ i = .int .i64 j ∧ Arr wr g1 73 (i64s (dig 34 u)) ∧ Arr wr g2 73 (i64s (List.replicate 34 0)) ∧ Arr wr g4 73 (i64s (adAt (dig 34 (u % Q130)) (dig 34 (u / Q130)) 5 0 j)) ∧ Arr wr g5 73 (i64s (dig 34 (u / Q130))) ∧ g5 < wr.heap.size ∧ Below g1 w wr) (fun i _ => 34 - (intOf i).toNat)
              case atStart => exact ⟨0, by omega, rfl, hA, hR, h4, h5, hsz2, hB⟩
              case round =>
                clear hA hR h4 h5 hsz2 hB
                obtain ⟨j, hj, rfl, hA, hR, h4, h5, hsz2, hB⟩ := hrel
                by_cases hlj : j < 34
                · obtain ⟨z, hz⟩ : ∃ z, z = adAt (dig 34 (u % Q130)) (dig 34 (u / Q130)) 5 0 j := ⟨_, rfl⟩
                  obtain ⟨h, hh⟩ : ∃ h, h = dig 34 (u / Q130) := ⟨_, rfl⟩
                  have hzl : z.length = 34 := by rw [hz]; simp
                  have hhl : h.length = 34 := by rw [hh]; simp
                  obtain ⟨x, hx⟩ : ∃ x, x = z.getD j 0 := ⟨_, rfl⟩
                  obtain ⟨y, hy⟩ : ∃ x, x = h.getD j 0 := ⟨_, rfl⟩
                  have hxl : x < 1099511627776 := by rw [hx, hz]; exact ad_lt40 u j j
                  have hyl : y < 256 := by rw [hy, hh]; exact dig_get256 _ _ _
                  have HC : Hid (adAt (dig 34 (u % Q130)) (dig 34 (u / Q130)) 5 0 (j + 1) = z.set j (x + 5 * y)) := by
                    show _ = _
                    rw [adAt, ← hz, ← hh, Nat.zero_add, ← hx, ← hy]
                  have HH := Lib.hid hh
                  rw [← hz] at h4
                  rw [← hh] at h5
                  clear hz hh
                  have c4 := h4.i64 (a := j) (by omega)
                  have c5 := h5.i64 (a := j) (by omega)
                  rw [← hx] at c4
                  rw [← hy] at c5
                  clear hx hy
                  go_wp2_with fail
                  refine wp_region_st (by kernel_rfl) [IsV (.int .i64 (j : Nat)), IsV (.int .i64 (j : Nat)), IsV (.pointer (some ⟨g4, j, none⟩)), IsV (.int .i64 (x : Nat)), IsV (.int .i64 (j : Nat)), IsV (.pointer (some ⟨g5, j, none⟩)), IsV (.int .i64 (y : Nat)), IsV (.int .i64 ((5 * y) : Nat)), IsV (.int .i64 ((x + 5 * y) : Nat)), IsV (.pointer (some ⟨g4, j, none⟩))] 10 _ rfl rfl rfl (by kernel_rfl) (by kernel_rfl) ?_ (⟨g4, j, none⟩ : Addr) (.int .i64 ((x + 5 * y) : Nat)) ?_ ?_ ?_
                  · intro φ hφ
                    simp only [List.mem_cons, List.not_mem_nil, or_false] at hφ
                    rcases hφ with rfl | rfl | rfl | rfl | rfl | rfl | rfl | rfl | rfl | rfl <;> exact ⟨_, rfl⟩
                  · refine ⟨?_, ?_, ?_, ?_, ?_, ?_, ?_, ?_, ?_, ?_, trivial⟩
                    · intro a1 w1 hG hF
                      exact d_old rfl (wants0 rfl) (.tmp 8) (.inr rfl) (.int .i64 (j : Nat)) (hF.ol 8 (by kernel_rfl)) rfl
                    · intro a1 w1 hG hF
                      exact d_old rfl (wants0 rfl) (.tmp 8) (.inr rfl) (.int .i64 (j : Nat)) (hF.ol 8 (by kernel_rfl)) rfl
                    · intro a1 w1 hG hF
                      have e4 : a1.eval (.tmp 4) = .pointer (some ⟨g4, 0, none⟩) := hF.ol 4 (by kernel_rfl)
                      obtain ⟨_, e59, rfl⟩ := hF.dp 1 59 (by kernel_rfl)
                      exact d_is rfl (wants0 rfl) _ rfl (run_idx Try.underlying73 (by kernel_rfl) e4 e59 (by omega))
                    · intro a1 w1 hG hF
                      obtain ⟨_, e60, rfl⟩ := hF.dp 2 60 (by kernel_rfl)
                      exact d_is rfl (wants0 rfl) _ rfl (run_load1 Try.underlying3 e60 ((hG.cell _).trans c4))
                    · intro a1 w1 hG hF
                      exact d_old rfl (wants0 rfl) (.tmp 8) (.inr rfl) (.int .i64 (j : Nat)) (hF.ol 8 (by kernel_rfl)) rfl
                    · intro a1 w1 hG hF
                      have e5 : a1.eval (.tmp 5) = .pointer (some ⟨g5, 0, none⟩) := hF.ol 5 (by kernel_rfl)
                      obtain ⟨_, e62, rfl⟩ := hF.dp 4 62 (by kernel_rfl)
                      exact d_is rfl (wants0 rfl) _ rfl (run_idx Try.underlying73 (by kernel_rfl) e5 e62 (by omega))
                    · intro a1 w1 hG hF
                      obtain ⟨_, e63, rfl⟩ := hF.dp 5 63 (by kernel_rfl)
                      exact d_is rfl (wants0 rfl) _ rfl (run_load1 Try.underlying3 e63 ((hG.cell _).trans c5))
                    · intro a1 w1 hG hF
                      obtain ⟨_, e64, rfl⟩ := hF.dp 6 64 (by kernel_rfl)
                      exact d_is rfl (wants0 rfl) _ rfl (run_mulI (a := 5) rfl e64 (by omega) (by omega) (by omega))
                    · intro a1 w1 hG hF
                      obtain ⟨_, e61, rfl⟩ := hF.dp 3 61 (by kernel_rfl)
                      obtain ⟨_, e65, rfl⟩ := hF.dp 7 65 (by kernel_rfl)
                      exact d_is rfl (wants0 rfl) _ rfl (run_addZ e61 e65 (by omega) (by omega) (by omega))
                    · intro a1 w1 hG hF
                      have e4 : a1.eval (.tmp 4) = .pointer (some ⟨g4, 0, none⟩) := hF.ol 4 (by kernel_rfl)
                      obtain ⟨_, e58, rfl⟩ := hF.dp 0 58 (by kernel_rfl)
                      exact d_is rfl (wants0 rfl) _ rfl (run_idx Try.underlying73 (by kernel_rfl) e4 e58 (by omega))
                  · intro a1 w1 hG hF
                    obtain ⟨_, e67, rfl⟩ := hF.dp 9 67 (by kernel_rfl)
                    obtain ⟨_, e66, rfl⟩ := hF.dp 8 66 (by kernel_rfl)
                    exact ⟨wants0 rfl, run_store1 (by kernel_rfl) e67 e66 (by rw [hG.cell]; exact (Option.isSome_iff_exists.2 ⟨_, c4⟩)) (by rw [hG.frozen]; exact h4.frozen _)⟩
                  intro vs k0 hf
                  clear hf
                  simp only [putAll, Nat.zero_add, Nat.reduceAdd]
                  have h4n := (h4.dr ⟨k0, rfl⟩).set j (.int .i64 ((x + 5 * y : Nat) : Int))
                  rw [i64s_set, ← HC.out] at h4n
                  have hAn := (hA.dr ⟨k0, rfl⟩).other (a := ⟨g4, j, none⟩) (by simp only []; omega) (.int .i64 ((x + 5 * y : Nat) : Int))
                  have hRn := (hR.dr ⟨k0, rfl⟩).other (a := ⟨g4, j, none⟩) (by simp only []; omega) (.int .i64 ((x + 5 * y : Nat) : Int))
                  have h5n := (h5.dr ⟨k0, rfl⟩).other (a := ⟨g4, j, none⟩) (by simp only []; omega) (.int .i64 ((x + 5 * y : Nat) : Int))
                  rw [HH.out] at h5n
                  have hBn := (below_dr (B := 0) (w := wr) ⟨k0, rfl⟩).trans (below_setCell (a := ⟨g4, j, none⟩) (v := .int .i64 ((x + 5 * y : Nat) : Int)) (Nat.zero_le _))
                  have hszn := Nat.lt_of_lt_of_le hsz2 hBn.size
                  have hBm := hB.trans ((below_dr ⟨k0, rfl⟩).trans (below_setCell (a := ⟨g4, j, none⟩) (v := .int .i64 ((x + 5 * y : Nat) : Int)) (by simp only []; omega)))
                  generalize ((wr.drewN k0).setCell _ _) = W5 at h5n hAn hRn h4n hszn hBm ⊢
                  clear hBn hA hR h4 h5 hB c4 c5 HC HH
                  go_simp
                  go_wp2_with fail
                  go_roundw
                  case rel => exact ⟨j + 1, by omega, by go_num, hAn, hRn, h4n, h5n, hszn, hBm⟩
                  case measure => simp [intOf]; omega
                · obtain rfl : j = 34 := by omega
                  have hc := fun w => refCarry_any (adAt (dig 34 (u % Q130)) (dig 34 (u / Q130)) 5 0 34) (by simp) (ad_lt40 u 34) w
                  rw [fold_val u HUL.out] at hc
                  obtain ⟨z, hz⟩ : ∃ z, z = adAt (dig 34 (u % Q130)) (dig 34 (u / Q130)) 5 0 34 := ⟨_, rfl⟩
                  have hzl : z.length = 34 := by rw [hz]; simp
                  rw [← hz] at hc h4
                  obtain ⟨q, hq⟩ : ∃ q, q = dig 34 (fo u) := ⟨_, rfl⟩
                  have hql : q.length = 34 := by rw [hq]; simp
                  rw [← hq] at hc
                  have HQ := Lib.hid hq
                  obtain ⟨a0, ha0⟩ : ∃ a0, a0 = dig 34 u := ⟨_, rfl⟩
                  have hal : a0.length = 34 := by rw [ha0]; simp
                  rw [← ha0] at hA
                  clear hz hq h5 ha0
                  simp only [show ((34 : Nat) : Int) = 34 from rfl]
                  go_wp2_with first
                    | (refine wpList_load_mid rfl 73 (.tmp 4) rfl g4 0 rfl (i64s z) _ h4.range Try.underlying73 rfl (info34 _ hzl) ?_)
                    | (go_at_call 39; refine (hc _).mono ?_; rintro e w6 ⟨rfl, hB6⟩; replace hA := hA.below hB6 hA.lt; replace hR := hR.below hB6 hR.lt; replace hB := hB.trans (hB6.mono (by omega)); replace hsz2 := Nat.lt_of_lt_of_le hsz2 hB6.size; clear hB6)
                    | (refine wpList_put hA rfl 73 (.tmp 1) (.tmp 69) rfl (i64s q) rfl rfl (by rw [i64s_length, i64s_length, hql, hal]) (info34 _ hql) (i64s_oneCell _) ?_; intro w7 hA7 hB7 hO7)
                  refine ⟨⟨r + 1, by omega, by go_num, by rw [HN.out, ← HQ.out]; exact hA7, hO7 _ _ _ (by omega) hR, ?_, hB.trans hB7⟩, by simp [intOf]; omega⟩
                  have := hB7.size
                  omega
    · obtain rfl : r = 4 := by omega
      have hA4 := foN_lt v hv
      have hmod := foN_mod v 4
      obtain ⟨a, ha⟩ : ∃ a, a = foN v 4 := ⟨_, rfl⟩
      rw [HF.out 4, ← ha] at hA
      rw [← ha] at hA4 hmod
      have hal : a < 256 ^ 34 := by rw [ha]; exact Nat.lt_of_le_of_lt (foN_le v 4) hv
      have hPl : P130 < 256 ^ 34 := by decide +kernel
      have hless := fun w => less_any (dig 34 a) (dig 34 P130) (by simp) (by simp) (dig_get256 34 a) (dig_get256 34 P130) w
      rw [val256_dig, val256_dig, Nat.mod_eq_of_lt hal, Nat.mod_eq_of_lt hPl] at hless
      have hprime := fun w => prime_any w
      obtain ⟨p, hp⟩ : ∃ p, p = dig 34 P130 := ⟨_, rfl⟩
      have hpl : p.length = 34 := by rw [hp]; simp
      rw [← hp] at hless hprime
      have HP := Lib.hid hp
      clear hp ha
      by_cases hge : a < P130
      · have hva : a = v % P130 := by rw [← hmod, Nat.mod_eq_of_lt hge]
        simp only [decide_eq_true hge] at hless
        obtain ⟨q, hq⟩ : ∃ q, q = dig 34 a := ⟨_, rfl⟩
        have hql : q.length = 34 := by rw [hq]; simp
        have HQ : Hid (dig 34 (v % P130) = q) := by show _ = _; rw [← hva, hq]
        rw [← hq] at hA hless
        clear hq hva hmod hA4 hal hPl hge
        simp only [show ((4 : Nat) : Int) = 4 from rfl]
        have mk : True := trivial
        go_wp2_with first
          | (go_at_call 46; refine (hprime _).mono ?_; rintro e w6 ⟨rfl, hB6⟩; replace hA := hA.below hB6 hA.lt; replace hR := hR.below hB6 hR.lt; replace hB := hB.trans (hB6.mono (by omega)); replace hsz := Nat.lt_of_lt_of_le hsz hB6.size; clear hB6)
          | (clear mk; refine wpList_new rfl 73 (.tmp 9) (.tmp 70) rfl _ (i64s p) rfl rfl rfl (by simp only [i64s_length, hpl]; rfl) (info34 _ hpl) (i64s_oneCell p) ?_; intro w7 h9 hG7; replace hA := hA.gr hG7; replace hR := hR.gr hG7; replace hB := hB.trans (hG7.mono (by omega)); replace hsz := Nat.lt_of_lt_of_le hsz hG7.size; clear hG7)
          | (refine wpList_load_mid rfl 73 (.tmp 1) rfl g1 0 rfl (i64s q) _ hA.range Try.underlying73 rfl (info34 _ hql) ?_)
          | (refine wpList_load_mid rfl 73 (.tmp 9) rfl _ 0 rfl (i64s p) _ h9.range Try.underlying73 rfl (info34 _ hpl) ?_)
          | (go_at_call 47; refine (hless _).mono ?_; rintro e w8 ⟨rfl, hB6⟩; replace hA := hA.below hB6 hA.lt; replace hR := hR.below hB6 hR.lt; replace hB := hB.trans (hB6.mono (by omega)); replace hsz := Nat.lt_of_lt_of_le hsz hB6.size; clear hB6)
          | (refine wpList_put hR rfl 73 (.tmp 2) (.tmp 106) rfl (i64s q) rfl rfl (by simp [hql]) (info34 _ hql) (i64s_oneCell _) ?_; intro w2 hR2 hB2 hO2)
        refine bodyPost_ret (results_cell_row rfl _ _ g2 _ _ _ _ rfl hR2 Try.underlying73 rfl (by have := info34 _ hql; simpa using this)) rfl ?_
        rw [HQ.out, ← HG1.out]
        exact ⟨rfl, hB.trans (hB2.mono (by omega))⟩
      · have hD : a - P130 = v % P130 := by
          have h1 : P130 ≤ a := by omega
          rw [← hmod]
          have h2 : a % P130 = (a - P130) % P130 := Nat.mod_eq_sub_mod h1
          rw [h2, Nat.mod_eq_of_lt (by omega)]
        obtain ⟨D, hDe⟩ : ∃ D, D = v % P130 := ⟨_, rfl⟩
        have HDe := Lib.hid hDe
        have HD : Hid (a = P130 + D) := by
          show _ = _
          have h1 : P130 ≤ a := by omega
          omega
        simp only [decide_eq_false hge] at hless
        obtain ⟨q, hq⟩ : ∃ q, q = dig 34 a := ⟨_, rfl⟩
        have hql : q.length = 34 := by rw [hq]; simp
        rw [← hq] at hA hless
        have HQ := Lib.hid hq
        have HM := Lib.hid hmod
        have HAL := Lib.hid hal
        clear hq hmod hA4 hge hD hal hPl hDe
        simp only [show ((4 : Nat) : Int) = 4 from rfl]
        have mk : True := trivial
        go_wp2_with first
          | (go_at_call 46; refine (hprime _).mono ?_; rintro e w6 ⟨rfl, hB6⟩; replace hA := hA.below hB6 hA.lt; replace hR := hR.below hB6 hR.lt; replace hB := hB.trans (hB6.mono (by omega)); replace hsz := Nat.lt_of_lt_of_le hsz hB6.size; clear hB6)
          | (clear mk; refine wpList_new rfl 73 (.tmp 9) (.tmp 70) rfl _ (i64s p) rfl rfl rfl (by simp only [i64s_length, hpl]; rfl) (info34 _ hpl) (i64s_oneCell p) ?_; intro w7 h9 hG7; replace hA := hA.gr hG7; replace hR := hR.gr hG7; replace hB := hB.trans (hG7.mono (by omega)); have hsz9 := h9.lt; have hg9 : g2 < w6.heap.size := hsz; clear hG7 hsz)
          | (refine wpList_load_mid rfl 73 (.tmp 1) rfl g1 0 rfl (i64s q) _ hA.range Try.underlying73 rfl (info34 _ hql) ?_)
          | (refine wpList_load_mid rfl 73 (.tmp 9) rfl _ 0 rfl (i64s p) _ h9.range Try.underlying73 rfl (info34 _ hpl) ?_)
          | (go_at_call 47; refine (hless _).mono ?_; rintro e w8 ⟨rfl, hB6⟩; replace hA := hA.below hB6 hA.lt; replace hR := hR.below hB6 hR.lt; replace h9 := h9.below hB6 h9.lt; replace hB := hB.trans (hB6.mono (by omega)); clear hB6)
        generalize w6.heap.size = g9 at h9 hg9 ⊢
        rw [HQ.out, br_start a D] at hA
        clear hprime hless hql
        go_simp
        go_loopw [10] (fun i wr => ∃ r b : Nat, r ≤ 34 ∧ i = .int .i64 r ∧ Hid (b = boAt a P130 r) ∧ Arr wr g1 73 (i64z ((List.range 34).map (brF a D b r))) ∧ Arr wr g2 73 (i64s (List.replicate 34 0)) ∧ Arr wr g9 73 (i64s p) ∧ Below g1 w wr) (fun i _ => 34 - (intOf i).toNat)
        case atStart => exact ⟨0, 0, by omega, rfl, (by show _ = _; simp [boAt, Nat.mod_one]), hA, hR, h9, hB⟩
        case round =>
          clear hA hR h9 hB
          obtain ⟨r, b, hr, rfl, HB, hA, hR, h9, hB⟩ := hrel
          by_cases hlt : r < 34
          · have hst := bo_step r HD.out
            have hbe := bo_end HD.out HAL.out
            have hb1 := bo_le a P130 (r + 1)
            rw [← HB.out] at hst
            obtain ⟨x, hx⟩ : ∃ x, x = a / 256 ^ r % 256 := ⟨_, rfl⟩
            obtain ⟨y, hy⟩ : ∃ y, y = P130 / 256 ^ r % 256 := ⟨_, rfl⟩
            obtain ⟨d, hd⟩ : ∃ d, d = D / 256 ^ r % 256 := ⟨_, rfl⟩
            obtain ⟨c, hc⟩ : ∃ c, c = boAt a P130 (r + 1) := ⟨_, rfl⟩
            have hbl : b ≤ 1 := by rw [HB.out]; exact bo_le _ _ _
            have hxl : x < 256 := by rw [hx]; exact Nat.mod_lt _ (by omega)
            have hyl : y < 256 := by rw [hy]; exact Nat.mod_lt _ (by omega)
            have hdl : d < 256 := by rw [hd]; exact Nat.mod_lt _ (by omega)
            have hc34 : r = 33 → c = 0 := by intro h; rw [hc, h]; exact hbe
            rw [← hx, ← hy, ← hd, ← hc] at hst
            rw [← hc] at hb1
            have c1 := hA.i64z (a := r) hlt
            rw [show brF a D b r r = (x : Int) - (b : Int) by unfold brF; rw [if_neg (by omega), if_pos rfl, hx]] at c1
            have c9 := h9.i64 (a := r) (by omega)
            have e9 : p.getD r 0 = y := by rw [HP.out, hy]; exact dig_get 34 _ r hlt
            rw [e9] at c9
            clear e9
            obtain ⟨z, hz⟩ : ∃ z : Int, z = (x : Int) - (b : Int) := ⟨_, rfl⟩
            rw [← hz] at c1
            obtain ⟨e, he⟩ : ∃ e : Int, e = z - (y : Int) := ⟨_, rfl⟩
            have heq : e = (d : Int) - 256 * (c : Int) := by omega
            have hzl : -1 ≤ z ∧ z < 256 := by omega
            have HC := Lib.hid hc
            have HX := Lib.hid hd
            have HE := Lib.hid heq
            have H34 := Lib.hid hc34
            obtain ⟨hz1, hz2⟩ := hzl
            have HE2 := Lib.hid he
            have HZ := Lib.hid (And.intro hz1 hz2)
            clear hx hy hd hc hz hst hbe heq hc34 he hz1 hz2
            go_wp2_with fail
            refine wp_region_st (by kernel_rfl) [IsV (.int .i64 (r : Nat)), IsV (.int .i64 (r : Nat)), IsV (.pointer (some ⟨g1, r, none⟩)), IsV (.int .i64 z), IsV (.int .i64 (r : Nat)), IsV (.pointer (some ⟨g9, r, none⟩)), IsV (.int .i64 (y : Nat)), IsV (.int .i64 e), IsV (.pointer (some ⟨g1, r, none⟩))] 9 _ rfl rfl rfl (by kernel_rfl) (by kernel_rfl) ?_ (⟨g1, r, none⟩ : Addr) (.int .i64 e) ?_ ?_ ?_
            · intro φ hφ
              simp only [List.mem_cons, List.not_mem_nil, or_false] at hφ
              rcases hφ with rfl | rfl | rfl | rfl | rfl | rfl | rfl | rfl | rfl <;> exact ⟨_, rfl⟩
            · refine ⟨?_, ?_, ?_, ?_, ?_, ?_, ?_, ?_, ?_, trivial⟩
              · intro a1 w1 hG hF
                exact d_old rfl (wants0 rfl) (.tmp 10) (.inr rfl) (.int .i64 (r : Nat)) (hF.ol 10 (by kernel_rfl)) rfl
              · intro a1 w1 hG hF
                exact d_old rfl (wants0 rfl) (.tmp 10) (.inr rfl) (.int .i64 (r : Nat)) (hF.ol 10 (by kernel_rfl)) rfl
              · intro a1 w1 hG hF
                have e1 : a1.eval (.tmp 1) = .pointer (some ⟨g1, 0, none⟩) := hF.ol 1 (by kernel_rfl)
                obtain ⟨_, e80, rfl⟩ := hF.dp 1 80 (by kernel_rfl)
                exact d_is rfl (wants0 rfl) _ rfl (run_idx Try.underlying73 (by kernel_rfl) e1 e80 (by omega))
              · intro a1 w1 hG hF
                obtain ⟨_, e81, rfl⟩ := hF.dp 2 81 (by kernel_rfl)
                exact d_is rfl (wants0 rfl) _ rfl (run_load1 Try.underlying3 e81 ((hG.cell _).trans c1))
              · intro a1 w1 hG hF
                exact d_old rfl (wants0 rfl) (.tmp 10) (.inr rfl) (.int .i64 (r : Nat)) (hF.ol 10 (by kernel_rfl)) rfl
              · intro a1 w1 hG hF
                have e9 : a1.eval (.tmp 9) = .pointer (some ⟨g9, 0, none⟩) := hF.ol 9 (by kernel_rfl)
                obtain ⟨_, e83, rfl⟩ := hF.dp 4 83 (by kernel_rfl)
                exact d_is rfl (wants0 rfl) _ rfl (run_idx Try.underlying73 (by kernel_rfl) e9 e83 (by omega))
              · intro a1 w1 hG hF
                obtain ⟨_, e84, rfl⟩ := hF.dp 5 84 (by kernel_rfl)
                exact d_is rfl (wants0 rfl) _ rfl (run_load1 Try.underlying3 e84 ((hG.cell _).trans c9))
              · intro a1 w1 hG hF
                obtain ⟨_, e82, rfl⟩ := hF.dp 3 82 (by kernel_rfl)
                obtain ⟨_, e85, rfl⟩ := hF.dp 6 85 (by kernel_rfl)
                have hz1 := HZ.out
                have he := HE2.out
                exact d_is rfl (wants0 rfl) _ rfl (run_subI e82 e85 he.symm (by omega) (by omega))
              · intro a1 w1 hG hF
                have e1 : a1.eval (.tmp 1) = .pointer (some ⟨g1, 0, none⟩) := hF.ol 1 (by kernel_rfl)
                obtain ⟨_, e79, rfl⟩ := hF.dp 0 79 (by kernel_rfl)
                exact d_is rfl (wants0 rfl) _ rfl (run_idx Try.underlying73 (by kernel_rfl) e1 e79 (by omega))
            · intro a1 w1 hG hF
              obtain ⟨_, e87, rfl⟩ := hF.dp 8 87 (by kernel_rfl)
              obtain ⟨_, e86, rfl⟩ := hF.dp 7 86 (by kernel_rfl)
              exact ⟨wants0 rfl, run_store1 (by kernel_rfl) e87 e86 (by rw [hG.cell]; exact (Option.isSome_iff_exists.2 ⟨_, c1⟩)) (by rw [hG.frozen]; exact hA.frozen _)⟩
            intro vs k0 hf
            clear hf
            simp only [putAll, Nat.zero_add, Nat.reduceAdd]
            have hA' := (hA.dr ⟨k0, rfl⟩).set r (.int .i64 e)
            rw [i64z_set, range_set] at hA'
            have hRn := (hR.dr ⟨k0, rfl⟩).other (a := ⟨g1, r, none⟩) (by simp only []; omega) (.int .i64 e)
            have h9n := (h9.dr ⟨k0, rfl⟩).other (a := ⟨g1, r, none⟩) (by simp only []; omega) (.int .i64 e)
            have hBm := hB.trans ((below_dr ⟨k0, rfl⟩).trans (below_setCell (a := ⟨g1, r, none⟩) (v := .int .i64 e) (Nat.le_refl _)))
            generalize ((wr.drewN k0).setCell _ _) = W1 at hA' hRn h9n hBm ⊢
            clear hA hR h9 hB c1 c9
            have c1 := hA'.i64z (a := r) hlt
            rw [if_pos rfl] at c1
            rcases Nat.lt_or_ge c 1 with h0 | h0
            · have h0 : c = 0 := by omega
              have hed : e = (d : Int) := by rw [HE.out, h0]; simp
              rw [hed, br_low a D b r d HX.out] at hA'
              rw [hed] at c1
              clear hed
              go_simp
              go_wp2_with fail
              go_roundw
              case rel => exact ⟨r + 1, 0, by omega, by go_num, (by show _ = _; rw [← HC.out, h0]), hA', hRn, h9n, hBm⟩
              case measure => simp [intOf]; omega
            · have h1 : c = 1 := by omega
              have hrk : r + 1 < 34 := by
                rcases Nat.lt_or_ge (r + 1) 34 with h2 | h2
                · exact h2
                · have := H34.out (by omega); omega
              obtain ⟨k, hk⟩ : ∃ k, k = r + 1 := ⟨_, rfl⟩
              have ek : (r : Int) + 1 = (k : Int) := by omega
              have hkr : r ≠ k := by omega
              have hkl : k < 34 := by omega
              have hed : e + 256 = (d : Int) := by rw [HE.out, h1]; omega
              have hen : e < 0 := by rw [HE.out, h1]; omega
              have hen2 : -300 ≤ e := by rw [HE.out, h1]; omega
              obtain ⟨y2, hy2⟩ : ∃ y2, y2 = a / 256 ^ k % 256 := ⟨_, rfl⟩
              have hy2l : y2 < 256 := by rw [hy2]; exact Nat.mod_lt _ (by omega)
              have hA2 := hA'.set r (.int .i64 (d : Int))
              rw [i64z_set, range_set] at hA2
              have c2 := hA2.i64z (a := k) hkl
              rw [if_neg (by omega), if_neg (by omega), show brF a D b r k = (y2 : Int) by unfold brF; rw [if_neg (by omega), if_neg (by omega), hy2]] at c2
              have f1 := hA'.frozen r
              have f2 := hA2.frozen k
              have hA3 := hA2.set k (.int .i64 ((y2 : Int) - 1))
              have hbb := br_borrow a D b r d HX.out ((y2 : Int) - 1) (by rw [hy2, hk]) e
              rw [← hk] at hbb
              rw [i64z_set, range_set, hbb] at hA3
              have hcb : c = boAt a P130 k := by rw [HC.out, hk]
              have HCC := Lib.hid hcb
              have H1 := Lib.hid h1
              have HKK := Lib.hid hk
              clear hbb hy2 hk hcb h1 hlt
              go_wp2_with fail
              refine ⟨⟨k, 1, by omega, rfl, (by show _ = _; rw [← HCC.out, H1.out]), by rw [HKK.out] at hA3 ⊢; exact hA3, (hRn.other (by simp only []; omega) _).other (by simp only []; omega) _, (h9n.other (by simp only []; omega) _).other (by simp only []; omega) _, hBm.trans ((below_setCell (a := ⟨g1, r, none⟩) (Nat.le_refl g1)).trans (below_setCell (a := ⟨g1, k, none⟩) (Nat.le_refl g1)))⟩, by simp [intOf]; omega⟩
          · obtain rfl : r = 34 := by omega
            rw [br_end] at hA
            obtain ⟨q, hq⟩ : ∃ q, q = dig 34 D := ⟨_, rfl⟩
            have hql : q.length = 34 := by rw [hq]; simp
            rw [← hq] at hA
            have HQ := Lib.hid hq
            clear hq
            simp only [show ((34 : Nat) : Int) = 34 from rfl]
            go_wp2_with first
              | (refine wpList_load_mid rfl 73 (.tmp 1) rfl g1 0 rfl (i64s q) _ hA.range Try.underlying73 rfl (info34 _ hql) ?_)
              | (refine wpList_put hR rfl 73 (.tmp 2) (.tmp 106) rfl (i64s q) rfl rfl (by simp [hql]) (info34 _ hql) (i64s_oneCell _) ?_; intro w2 hR2 hB2 hO2)
            refine bodyPost_ret (results_cell_row rfl _ _ g2 _ _ _ _ rfl hR2 Try.underlying73 rfl (by have := info34 _ hql; simpa using this)) rfl ?_
            rw [← HDe.out, ← HQ.out, ← HG1.out]
            exact ⟨rfl, hB.trans (hB2.mono (by omega))⟩
end Go.Proofs.Ythffodfnnjejnaa

