/- The walk of poly.Tag. No condition. -/
import Derived.Test.YthffodfnnjejnaaKitA
import Derived.Test.YthffodfnnjejnaaPolN5
import Derived.Test.YthffodfnnjejnaaSsa5
namespace Go.Proofs.Ythffodfnnjejnaa
open Go.RowKit
def rU (K : List UInt8) : List Nat := loadU (leNat (K.take 8) &&& 1152921487695413247) (leNat ((K.drop 8).take 8) &&& 1152921487695413244) 0
theorem rL_val {K : List UInt8} (hK : K.length = 32) : leNat (rL K) = (leNat (K.take 8) &&& 1152921487695413247) + 18446744073709551616 * (leNat ((K.drop 8).take 8) &&& 1152921487695413244) := by
  have e1 : K.take 16 = K.take 8 ++ (K.drop 8).take 8 := by
    rw [show 16 = 8 + 8 from rfl, List.take_add]
  have e2 : maskR = [255, 255, 255, 15, 252, 255, 255, 15] ++ [252, 255, 255, 15, 252, 255, 255, 15] := rfl
  rw [rL, e1, e2, List.zipWith_append (by rw [List.length_take, hK]; rfl), leNat_append16 _ _ (by simp [hK]), leNat_and _ _ (by simp [hK]), leNat_and _ _ (by simp [hK])]
  rfl
theorem rU_val {K : List UInt8} (hK : K.length = 32) : ∃ a b c d e, rU K = [a, b, c, d, e] ∧ a < 67108864 ∧ b < 67108864 ∧ c < 67108864 ∧ d < 67108864 ∧ e < 67108864 ∧ val5 [a, b, c, d, e] = leNat (rL K) := by
  obtain ⟨a, b, c, d, e, h, h0, h1, h2, h3, h4, hv⟩ := loadU_val (low := leNat (K.take 8) &&& 1152921487695413247) (high := leNat ((K.drop 8).take 8) &&& 1152921487695413244) (above := 0)
    (by have := Nat.and_le_right (n := leNat (K.take 8)) (m := 1152921487695413247); show _ < 18446744073709551616; omega) (by have := Nat.and_le_right (n := leNat ((K.drop 8).take 8)) (m := 1152921487695413244); show _ < 18446744073709551616; omega) (by omega)
  exact ⟨a, b, c, d, e, h, h0, h1, h2, h3, h4, by rw [hv, rL_val hK]; omega⟩
/-- The two last words of the tag. -/
def tagU (x : List Nat) (s0 s1 : Nat) : List UInt8 :=
  leBytes 8 ((lowU x + s0) % 18446744073709551616) ++ leBytes 8 (((if (lowU x + s0) % 18446744073709551616 < lowU x then (highU x + 1) % 18446744073709551616 else highU x) + s1) % 18446744073709551616)
theorem leBytes_mod (k x m : Nat) (h : k ≤ m) : leBytes k (x % 256 ^ m) = leBytes k x := by
  induction k generalizing x m with
  | zero => rfl
  | succ k ih =>
    obtain ⟨m, rfl⟩ : ∃ j, m = j + 1 := ⟨m - 1, by omega⟩
    rw [leBytes, leBytes]
    have e1 : x % 256 ^ (m + 1) / 256 = x / 256 % 256 ^ m := by
      rw [Nat.pow_succ, Nat.mul_comm, Nat.mod_mul_right_div_self]
    have e2 : UInt8.ofNat (x % 256 ^ (m + 1)) = UInt8.ofNat x := by
      apply UInt8.toNat_inj.1
      rw [UInt8.toNat_ofNat', UInt8.toNat_ofNat', Nat.pow_succ, Nat.mul_comm]
      exact Nat.mod_mul_right_mod _ _ _
    rw [e1, e2, ih _ _ (by omega)]
theorem leBytes_add (j k x : Nat) : leBytes (j + k) x = leBytes j x ++ leBytes k (x / 256 ^ j) := by
  induction j generalizing x with
  | zero => simp [leBytes]
  | succ j ih =>
    rw [show j + 1 + k = (j + k) + 1 by omega, leBytes, ih, leBytes, List.cons_append, Nat.div_div_eq_div_mul, Nat.pow_succ, Nat.mul_comm 256]
theorem tagU_val {x : List Nat} {s0 s1 v : Nat} (hv : lowU x + 18446744073709551616 * highU x = v % 340282366920938463463374607431768211456) (hl : lowU x < 18446744073709551616) (h0 : s0 < 18446744073709551616) :
    tagU x s0 s1 = leBytes 16 (v + (s0 + 18446744073709551616 * s1)) := by
  have e1 : leBytes 16 (v + (s0 + 18446744073709551616 * s1)) = leBytes 16 ((v % 340282366920938463463374607431768211456 + (s0 + 18446744073709551616 * s1)) % 340282366920938463463374607431768211456) := by
    have h1 := leBytes_mod 16 (v + (s0 + 18446744073709551616 * s1)) 16 (Nat.le_refl _)
    have h2 := leBytes_mod 16 (v % 340282366920938463463374607431768211456 + (s0 + 18446744073709551616 * s1)) 16 (Nat.le_refl _)
    have e : (256 : Nat) ^ 16 = 340282366920938463463374607431768211456 := by decide +kernel
    rw [e] at h1 h2
    rw [h2, ← h1, ← h2, Nat.mod_add_mod]
  rw [e1, ← hv, tagU, show (16 : Nat) = 8 + 8 from rfl, leBytes_add]
  have e8 : (256 : Nat) ^ 8 = 18446744073709551616 := by decide +kernel
  have hm8 := fun x => leBytes_mod 8 x 8 (Nat.le_refl _)
  rw [e8] at hm8 ⊢
  generalize lowU x = lo at hl ⊢
  generalize highU x = hi
  congr 1
  · rw [← hm8 ((lo + 18446744073709551616 * hi + (s0 + 18446744073709551616 * s1)) % 340282366920938463463374607431768211456)]
    congr 1
    omega
  · congr 1
    split <;> omega
/-- How many parts a text has. -/
def nParts (n : Nat) : Nat := (n + 15) / 16
theorem tag_is {K : List UInt8} (hK : K.length = 32) (b : List UInt8) :
    tagU (leastU (hU (rU K) b (nParts b.length))) (leNat ((K.drop 16).take 8)) (leNat (K.drop 24)) = tagL K b := by
  obtain ⟨r0, r1, r2, r3, r4, er, q0, q1, q2, q3, q4, hrv⟩ := rU_val hK
  obtain ⟨h0, h1, h2, h3, h4, eh, p0, p1, p2, p3, p4, hhv⟩ := hU_val (r0 := r0) (r1 := r1) (r2 := r2) (r3 := r3) (r4 := r4) b q0 q1 q2 q3 q4 (nParts b.length)
  obtain ⟨a, c, d, e, f, el, t0, t1, t2, t3, t4, hlv⟩ := leastU_val (a := h0) (b := h1) (c := h2) (d := h3) (e := h4) (by omega) (by omega) (by omega) (by omega) (by omega)
  obtain ⟨hw, hlo, _⟩ := words_val t0 t1 t2 t3 t4
  rw [er, eh, el]
  have h0 : leNat ((K.drop 16).take 8) < 18446744073709551616 := by have := leNat_lt ((K.drop 16).take 8); rw [List.length_take, List.length_drop, hK] at this; exact this
  rw [tagU_val hw hlo h0, hlv, hhv, hrv, tagL]
  congr 2
  have e1 : K.drop 16 = (K.drop 16).take 8 ++ K.drop 24 := by
    conv => lhs; rw [← List.take_append_drop 8 (K.drop 16)]
    rw [List.drop_drop]
  conv => rhs; rw [e1]
  rw [leNat_append16 _ _ (by simp [hK])]
theorem hU_lt {R b : List UInt8} (hR : R.length = 32) (k : Nat) : Lt64 (hU (rU R) b k) ∧ (hU (rU R) b k).length = 5 := by
  obtain ⟨r0, r1, r2, r3, r4, er, q0, q1, q2, q3, q4, _⟩ := rU_val hR
  obtain ⟨h0, h1, h2, h3, h4, eh, p0, p1, p2, p3, p4, _⟩ := hU_val (r0 := r0) (r1 := r1) (r2 := r2) (r3 := r3) (r4 := r4) b q0 q1 q2 q3 q4 k
  rw [er, eh]
  refine ⟨fun i => ?_, rfl⟩
  match i with
  | 0 => show h0 < _; omega
  | 1 => show h1 < _; omega
  | 2 => show h2 < _; omega
  | 3 => show h3 < _; omega
  | 4 => show h4 < _; omega
  | i + 5 => show 0 < _; omega
theorem leastU_lt {R b : List UInt8} (hR : R.length = 32) (k : Nat) : Lt64 (leastU (hU (rU R) b k)) ∧ (leastU (hU (rU R) b k)).length = 5 := by
  obtain ⟨r0, r1, r2, r3, r4, er, q0, q1, q2, q3, q4, _⟩ := rU_val hR
  obtain ⟨h0, h1, h2, h3, h4, eh, p0, p1, p2, p3, p4, _⟩ := hU_val (r0 := r0) (r1 := r1) (r2 := r2) (r3 := r3) (r4 := r4) b q0 q1 q2 q3 q4 k
  obtain ⟨a, c, d, e, f, el, t0, t1, t2, t3, t4, _⟩ := leastU_val (a := h0) (b := h1) (c := h2) (d := h3) (e := h4) (by omega) (by omega) (by omega) (by omega) (by omega)
  rw [er, eh, el]
  refine ⟨fun i => ?_, rfl⟩
  match i with
  | 0 => show a < _; omega
  | 1 => show c < _; omega
  | 2 => show d < _; omega
  | 3 => show e < _; omega
  | 4 => show f < _; omega
  | i + 5 => show 0 < _; omega
theorem run_cutRdH {P : Program} {T e : TypeId} (hT : P.underlying T = some (.slice e)) (hsz : (P.info? e).map (·.size) = some 1) {A : Option Addr} {n c k : Nat} {z : Int} (hz : z = k) (h1 : k ≤ n) (h2 : n ≤ c) (w : World) :
    (Instr.sliceAt T (.slice A n c) none (some (.int .i64 z)) none).run P w = .ok (.slice A k c) w := by
  subst hz
  have e1 : P.elem T = e := by simp [Program.elem, hT]
  have e2 : A.map (·.add 0) = A := by cases A <;> simp [add_zero_]
  rw [run_sliceAt_slice w T _ _ _ _ (by rw [e1]; exact hT), run_slice_h w T _ _ _ (by rw [e1]; exact hT) _ _ (by omega) (by omega), e1]
  simp only [run_size1 hsz, Result.andThen_ok, sliced, Nat.zero_mul, e2, ite_self, Nat.sub_zero, Int.toNat_natCast]
theorem info16 (l : List UInt8) (h : l.length = 16) : (Try.prog.info? 38).map (·.size) = some (u8s l).length := by simp only [u8s_length, h]; kernel_rfl
set_option maxHeartbeats 4000000 in
theorem polyTag_any (K : List UInt8) (hK : K.length = 32) (A : Option Addr) (n c : Nat) (b : List UInt8) (hnc : n ≤ c) (w : World) (hr : Rd w A n (u8s b)) :
    Calls Try.prog 22 #[.agg (u8s K).toArray, .slice A n c] w fun e w' => e = .returned (.agg (u8s (tagL K b)).toArray) ∧ Below w.heap.size w w' := by
  have hl : b.length = n := by simpa using hr.1
  obtain ⟨i0, hi0, hz0, hz1, hz2⟩ := info_parts Try.info5
  obtain ⟨k0, hk0⟩ : ∃ x, x = K.take 8 := ⟨_, rfl⟩
  obtain ⟨k1, hk1⟩ : ∃ x, x = (K.drop 8).take 8 := ⟨_, rfl⟩
  obtain ⟨k2, hk2⟩ : ∃ x, x = (K.drop 16).take 8 := ⟨_, rfl⟩
  obtain ⟨k3, hk3⟩ : ∃ x, x = K.drop 24 := ⟨_, rfl⟩
  have b0 : leNat k0 < 18446744073709551616 := by have := leNat_lt k0; rw [show k0.length = 8 by rw [hk0]; simp [hK]] at this; exact this
  have b1 : leNat k1 < 18446744073709551616 := by have := leNat_lt k1; rw [show k1.length = 8 by rw [hk1]; simp [hK]] at this; exact this
  have a0 : bits .and .u64 ((leNat k0 : Nat) : Int) 1152921487695413247 = ((leNat k0 &&& 1152921487695413247 : Nat) : Int) := u64_and_nat (leNat k0) 1152921487695413247 b0 (by decide)
  have a1 : bits .and .u64 ((leNat k1 : Nat) : Int) 1152921487695413244 = ((leNat k1 &&& 1152921487695413244 : Nat) : Int) := u64_and_nat (leNat k1) 1152921487695413244 b1 (by decide)
  obtain ⟨m0, hm0⟩ : ∃ x, x = leNat k0 &&& 1152921487695413247 := ⟨_, rfl⟩
  obtain ⟨m1, hm1⟩ : ∃ x, x = leNat k1 &&& 1152921487695413244 := ⟨_, rfl⟩
  have l0 : m0 < 18446744073709551616 := by rw [hm0]; exact Nat.lt_of_le_of_lt Nat.and_le_left b0
  have l1 : m1 < 18446744073709551616 := by rw [hm1]; exact Nat.lt_of_le_of_lt Nat.and_le_left b1
  rw [← hm0] at a0
  rw [← hm1] at a1
  have hload := fun w => load_any m0 m1 0 l0 l1 w
  obtain ⟨R, hR⟩ : ∃ R, R = loadU m0 m1 0 := ⟨_, rfl⟩
  have hRl : R.length = 5 := by rw [hR]; rfl
  have HR : Hid (R = rU K) := by show _ = _; rw [hR, hm0, hm1, hk0, hk1]; rfl
  rw [← hR] at hload
  have h2k : Arr (w.alloc (.cells (u8s K).toArray 22)) w.heap.size 22 (u8s K) := Arr.newAt rfl rfl
  have H0 := Lib.hid hk0
  have H1 := Lib.hid hk1
  have H2 := Lib.hid hk2
  have H3 := Lib.hid hk3
  clear hk0 hk1 hk2 hk3 hm0 hm1 hR b0 b1
  have cut0 := fun w1 => run_cutA_h (P := Try.prog) Try.underlying22 (by kernel_rfl) w.heap.size 8 (by omega) 8 rfl w1
  have cut1 := fun w1 => run_cutA (P := Try.prog) Try.underlying22 (by kernel_rfl) w.heap.size 8 16 (by omega) (by omega) (by omega) 8 16 rfl rfl w1
  have cut2 := fun w1 => run_cutA (P := Try.prog) Try.underlying22 (by kernel_rfl) w.heap.size 16 24 (by omega) (by omega) (by omega) 16 24 rfl rfl w1
  have cut3 := fun w1 => run_cutA_l (P := Try.prog) Try.underlying22 (by kernel_rfl) w.heap.size 24 (by omega) 24 rfl w1
  go_enter Try.func22, Try.ntmps22
  go_wp2_with first
    | (go_at_call 30; have r0 := h2k.rd 0 8 (by simp [hK]); have r1 := h2k.rd 8 8 (by simp [hK]); rw [List.drop_zero, u8s_take, ← H0.out] at r0; rw [u8s_drop, u8s_take, ← H1.out] at r1; refine (low64_any _ _ _ _ (by first | exact r0.alloc _ | exact r1.alloc _)).mono ?_; rintro e w5 ⟨rfl, rfl⟩; clear r0 r1)
    | (go_at_call 31; refine (hload _).mono ?_; rintro e w6 ⟨rfl, hB6⟩; have h2 := Arr.below (h2k.alloc _) hB6 (by simp only [asz]; omega); have h4 := Arr.below (Arr.newAt (l := u8s (List.replicate 16 0)) (asz _ _) (by kernel_rfl)) hB6 (by simp only [asz]; omega); have hB := (((Below.refl w.heap.size w).alloc (by omega) _).alloc (by simp only [asz]; omega) _).trans (hB6.mono (by simp only [asz]; omega)); have l4 := h4.lt; clear hB6)
    | (refine wpList_new rfl 64 (.tmp 9) (.tmp 32) rfl _ (u64s R) rfl rfl rfl (by simp only [u64s_length, hRl]; rfl) (info38 _ hRl) (u64s_oneCell R) ?_; intro w7 h9 hG7; have l9 := h9.lt)
  replace h2 := h2.gr hG7
  replace h4 := h4.gr hG7
  replace hB := hB.trans (hG7.mono hB.size)
  clear hG7 cut0 cut1 hload a0 a1
  generalize hW : w7.alloc _ = W
  have h10 : Arr W w7.heap.size 64 (u64s (hU R b 0)) := by rw [← hW]; exact Arr.newAt rfl (by kernel_rfl)
  replace h2 : Arr W w.heap.size 22 (u8s K) := by rw [← hW]; exact h2.alloc _
  replace h4 : Arr W (w.heap.size + 1) 38 (u8s (List.replicate 16 0)) := by rw [← hW]; exact h4.alloc _
  replace h9 : Arr W w6.heap.size 64 (u64s R) := by rw [← hW]; exact h9.alloc _
  replace hB : Below w.heap.size w W := by rw [← hW]; exact hB.alloc hB.size _
  clear hW h2k
  have hcong : hU (rU K) b = hU R b := by rw [HR.out]
  have hUl := fun r => hU_lt (b := b) hK r
  rw [hcong] at hUl
  generalize w6.heap.size = g9 at h9 l4 l9 ⊢
  generalize w7.heap.size = g10 at h10 l9 ⊢
  go_loopw [1] (fun v wr => ∃ r A' c', 16 * r ≤ n + 15 ∧ v = .slice A' (n - 16 * r) c' ∧ n - 16 * r ≤ c' ∧ Rd w A' (n - 16 * r) (u8s (b.drop (16 * r))) ∧ Arr wr w.heap.size 22 (u8s K) ∧ Arr wr (w.heap.size + 1) 38 (u8s (List.replicate 16 0)) ∧ Arr wr g9 64 (u64s R) ∧ Arr wr g10 64 (u64s (hU R b r)) ∧ Below w.heap.size w wr) (fun v _ => slLen v)
  case atStart => exact ⟨0, A, c, by omega, rfl, hnc, by simpa using hr, h2, h4, h9, h10, hB⟩
  case round =>
    obtain ⟨r, A', c', hr16, rfl, hc', hrd0, h2, h4, h9, h10, hB⟩ := hrel
    have hrd := hrd0.below hB
    by_cases hlt : 16 * r < n
    · obtain ⟨m, hm⟩ : ∃ m, m = n - 16 * r := ⟨_, rfl⟩
      rw [← hm] at hc' hrd0 hrd ⊢
      have hm0 : 0 < m := by omega
      obtain ⟨k, hk⟩ : ∃ k, k = min m 16 := ⟨_, rfl⟩
      have hkm : min (m : Int) 16 = (k : Int) := by omega
      have hk16 : k ≤ 16 := by omega
      have hkle : k ≤ m := by omega
      obtain ⟨p, hp⟩ : ∃ p, p = blk b r := ⟨_, rfl⟩
      have hrp : Rd wr A' k (u8s p) := by
        have := hrd.take hkle
        rw [u8s_take] at this
        rw [hp, blk]
        have e : (b.drop (16 * r)).take k = (b.drop (16 * r)).take 16 := by
          have hld : (b.drop (16 * r)).length = m := by rw [List.length_drop]; omega
          rcases Nat.lt_or_ge m 16 with h | h
          · rw [List.take_of_length_le (by omega), List.take_of_length_le (by omega)]
          · congr 1; omega
        rwa [e] at this
      have hrn : Rd w (if c' = k then A' else A'.map (·.add k)) (m - k) (u8s (b.drop (16 * (r + 1)))) := by
        have := hrd0.cut hkle hc'
        rw [u8s_drop, List.drop_drop] at this
        rcases Nat.lt_or_ge m 16 with h | h
        · have e1 : b.drop (16 * r + k) = [] := List.drop_of_length_le (by omega)
          have e2 : b.drop (16 * (r + 1)) = [] := List.drop_of_length_le (by omega)
          rwa [e1, ← e2] at this
        · rwa [show 16 * r + k = 16 * (r + 1) by omega] at this
      obtain ⟨h, hh⟩ : ∃ h, h = hU R b r := ⟨_, rfl⟩
      have hhl : h.length = 5 := by rw [hh]; exact (hUl r).2
      obtain ⟨q, hq⟩ : ∃ q, q = partU p := ⟨_, rfl⟩
      have hql : q.length = 5 := by rw [hq]; rfl
      have hpart := fun w hr => part_any A' k c' p hk16 w hr
      rw [← hq] at hpart
      obtain ⟨s, hs⟩ : ∃ s, s = plusU h q := ⟨_, rfl⟩
      have hsl : s.length = 5 := by rw [hs]; simp [plusU, hhl]
      have hplus := fun w => plus_any h q hhl hql w
      rw [← hs] at hplus
      obtain ⟨u, hu⟩ : ∃ u, u = timesU s R := ⟨_, rfl⟩
      have hul : u.length = 5 := by rw [hu]; simp [timesU]
      have htimes := fun w => times_any s R hsl hRl w
      rw [← hu] at htimes
      have HU : Hid (hU R b (r + 1) = u) := by show _ = _; rw [hu, hs, hq, hp, hh]; rfl
      rw [← hh] at h10
      have HM := Lib.hid hm
      have HKK := Lib.hid hk
      clear hu hs hq hh hp hk hm hUl hcong
      go_wp2_with fail
      refine wp_region_putA (by kernel_rfl) [IsV (.agg (u64s h).toArray), IsV (.slice A' m c'), IsV (.int .i64 (k : Nat)), IsV (.slice A' k c'), IsV (.agg (u64s q).toArray), IsV (.agg (u64s s).toArray), IsV (.agg (u64s R).toArray), IsV (.agg (u64s u).toArray)] 8 _ rfl rfl rfl (by kernel_rfl) (by kernel_rfl) h10 64 (.tmp 10) (.tmp 46) rfl rfl (u64s u) (by simp [hhl, hul]) (info38 _ hul) (u64s_oneCell _) ?_ ?_ ?_ ?_
      · intro φ hφ v w1 w2 h hg
        simp only [List.mem_cons, List.not_mem_nil, or_false] at hφ
        rcases hφ with rfl | rfl | rfl | rfl | rfl | rfl | rfl | rfl
        all_goals first | exact h | exact RdV.gr h hg
      · refine ⟨?_, ?_, ?_, ?_, ?_, ?_, ?_, ?_, trivial⟩
        · intro a1 w1 hG hF
          have e10 : a1.eval (.tmp 10) = .pointer (some ⟨g10, 0, none⟩) := hF.ol 10 (by kernel_rfl)
          exact s_wp rfl (wants0 rfl) (wp_load_mid _ _ rfl g10 0 e10 (u64s h) _ (h10.gr ((Gr.drew wr).trans hG)).range Try.underlying64 rfl (info38 _ hhl) ⟨_, rfl, rfl, Gr.refl _⟩)
        · intro a1 w1 hG hF
          exact s_old rfl (wants0 rfl) (.tmp 1) (.inr rfl) (.slice A' m c') (hF.ol 1 (by kernel_rfl)) rfl
        · intro a1 w1 hG hF
          exact s_old rfl (wants0 rfl) (.tmp 11) (.inr rfl) (.int .i64 (k : Nat)) (hF.ol 11 (by kernel_rfl)) rfl
        · intro a1 w1 hG hF
          obtain ⟨_, e40, rfl⟩ := hF.dp 1 40 (by kernel_rfl)
          obtain ⟨_, e41, rfl⟩ := hF.dp 2 41 (by kernel_rfl)
          exact s_is rfl (wants0 rfl) _ rfl (by simp only [execOp, e40, e41, Option.map, Sem.run_bind, run_cutRdH (P := Try.prog) Try.underlying26 (by kernel_rfl) rfl hkle hc', Result.andThen_ok, Sem.run_pure])
        · intro a1 w1 hG hF
          obtain ⟨_, e42, rfl⟩ := hF.dp 3 42 (by kernel_rfl)
          exact s_call rfl (wants0 rfl) _ rfl _ _ (by simp only [execOp, resolve, invoke, List.map_toArray, List.map_cons, List.map_nil, e42]; go_simp) ((hpart w1 (Gr.rd ((Gr.drew wr).trans hG) hrp)).mono fun e w2 ⟨he, hb⟩ => ⟨_, he, rfl, hb⟩)
        · intro a1 w1 hG hF
          obtain ⟨_, e39, rfl⟩ := hF.dp 0 39 (by kernel_rfl)
          obtain ⟨_, e43, rfl⟩ := hF.dp 4 43 (by kernel_rfl)
          exact s_call rfl (wants0 rfl) _ rfl _ _ (by simp only [execOp, resolve, invoke, List.map_toArray, List.map_cons, List.map_nil, e39, e43]; go_simp) ((hplus w1).mono fun e w2 ⟨he, hb⟩ => ⟨_, he, rfl, hb⟩)
        · intro a1 w1 hG hF
          have e9 : a1.eval (.tmp 9) = .pointer (some ⟨g9, 0, none⟩) := hF.ol 9 (by kernel_rfl)
          exact s_wp rfl (wants0 rfl) (wp_load_mid _ _ rfl g9 0 e9 (u64s R) _ (h9.gr ((Gr.drew wr).trans hG)).range Try.underlying64 rfl (info38 _ hRl) ⟨_, rfl, rfl, Gr.refl _⟩)
        · intro a1 w1 hG hF
          obtain ⟨_, e44, rfl⟩ := hF.dp 5 44 (by kernel_rfl)
          obtain ⟨_, e45, rfl⟩ := hF.dp 6 45 (by kernel_rfl)
          exact s_call rfl (wants0 rfl) _ rfl _ _ (by simp only [execOp, resolve, invoke, List.map_toArray, List.map_cons, List.map_nil, e44, e45]; go_simp) ((htimes w1).mono fun e w2 ⟨he, hb⟩ => ⟨_, he, rfl, hb⟩)
      · intro a1 w1 hG hF
        have e10 : a1.eval (.tmp 10) = .pointer (some ⟨g10, 0, none⟩) := hF.ol 10 (by kernel_rfl)
        obtain ⟨_, e46, rfl⟩ := hF.dp 7 46 (by kernel_rfl)
        exact ⟨e10, e46⟩
      · intro vs w1 hA9 hB9 hO9
        simp only [List.take_succ_cons, List.take_zero, putAll, Nat.zero_add, Nat.reduceAdd]
        have h2' := hO9 _ _ _ (by omega) h2
        have h4' := hO9 _ _ _ (by omega) h4
        have h9' := hO9 _ _ _ (by omega) h9
        have hB' := hB.trans (hB9.mono (by omega))
        rw [← HU.out] at hA9
        have hcutl := fun w => run_cutRdK (P := Try.prog) Try.underlying26 (by kernel_rfl) (A := A') (c := c') (z := (k : Int)) rfl hkle w
        generalize w1 = W1 at h2' h4' h9' hA9 hB' ⊢
        generalize (if c' = k then A' else A'.map (·.add k)) = A2 at hcutl hrn ⊢
        clear h2 h4 h9 h10 hB hO9 hB9 hpart hplus htimes hrd hrd0 hrp
        go_simp
        go_wp2_with fail
        go_roundw
        case rel => 
          have hk := HKK.out
          have hm := HM.out
          refine ⟨r + 1, A2, c' - k, by omega, ?_, by omega, ?_, h2', h4', h9', hA9, hB'⟩
          · rw [show n - 16 * (r + 1) = m - k by omega]
          · rw [show n - 16 * (r + 1) = m - k by omega]; exact hrn
        case measure => simp [slLen]; omega
    · have hE := tag_is hK b
      obtain ⟨h, hh⟩ : ∃ h, h = hU R b r := ⟨_, rfl⟩
      have hhl : h.length = 5 := by rw [hh]; exact (hUl r).2
      have hhL : Lt64 h := by rw [hh]; exact (hUl r).1
      have hnr : r = nParts b.length := by unfold nParts; omega
      rw [← H2.out, ← H3.out, hcong, ← hnr, ← hh] at hE
      have hleast := fun w => least_any h hhl hhL w
      obtain ⟨q, hq⟩ : ∃ q, q = leastU h := ⟨_, rfl⟩
      have hqq := leastU_lt (b := b) hK r
      rw [hcong, ← hh, ← hq] at hqq
      rw [← hq] at hleast hE
      have hwords := fun w => words_any q hqq.2 hqq.1 w
      rw [← hh] at h10
      obtain ⟨lo, hlo⟩ : ∃ x, x = lowU q := ⟨_, rfl⟩
      obtain ⟨hi, hhi⟩ : ∃ x, x = highU q := ⟨_, rfl⟩
      rw [← hlo, ← hhi] at hwords
      obtain ⟨sm, hsm⟩ : ∃ x, x = (lo + (leNat k2)) % 18446744073709551616 := ⟨_, rfl⟩
      obtain ⟨hi1, hh1⟩ : ∃ x, x = (hi + 1) % 18446744073709551616 := ⟨_, rfl⟩
      obtain ⟨t1, ht1⟩ : ∃ x, x = ((if sm < lo then hi1 else hi) + (leNat k3)) % 18446744073709551616 := ⟨_, rfl⟩
      have hE2 : Hid (tagL K b = leBytes 8 sm ++ leBytes 8 t1) := by show _ = _; rw [← hE, tagU, ← hlo, ← hhi, ← hsm, ← hh1, ← ht1]
      have hsml : sm < 18446744073709551616 := by rw [hsm]; exact Nat.mod_lt _ (by omega)
      have ht1l : t1 < 18446744073709551616 := by rw [ht1]; exact Nat.mod_lt _ (by omega)
      have e0 := wrap_add64 lo (leNat k2)
      rw [← hsm] at e0
      have HH1 := Lib.hid hh1
      have HT1 := Lib.hid ht1
      simp only [show n - 16 * r = 0 by omega] at hrd0 hrd hc' ⊢
      clear hE hlo hhi hsm hh1 ht1 hq hh hUl hcong hqq hrd hrd0 hc' hnr
      have htl : (tagL K b).length = 16 := by simp [tagL]
      have mk : True := trivial
      by_cases hcmp : sm < lo
      · have e3 : IntKind.u64.wrap ((hi : Int) + 1) = (hi1 : Int) := by rw [HH1.out]; exact wrap_add64 hi 1
        have e4 : IntKind.u64.wrap ((hi1 : Int) + ((leNat k3 : Nat) : Int)) = (t1 : Int) := by rw [HT1.out, if_pos hcmp]; exact wrap_add64 hi1 (leNat k3)
        have hcmp' : ((sm : Int) < (lo : Int)) := by omega
        go_wp2_with first
          | (refine wpList_load_mid rfl 64 (.tmp 10) rfl g10 0 rfl (u64s h) _ h10.range Try.underlying64 rfl (info38 _ hhl) ?_)
          | (go_at_call 35; refine (hleast _).mono ?_; rintro e w5 ⟨rfl, hB5⟩; replace h2 := h2.gr hB5; replace h4 := h4.gr hB5; replace hB := hB.trans (hB5.mono hB.size); clear hB5)
          | (go_at_call 36; refine (hwords _).mono ?_; rintro e w6 ⟨rfl, hB6⟩; replace h2 := h2.gr hB6; replace h4 := h4.gr hB6; replace hB := hB.trans (hB6.mono hB.size); clear hB6; have r2 := h2.rd 16 8 (by simp [hK]); have r3 := h2.rd 24 8 (by simp [hK]); rw [u8s_drop, u8s_take, ← H2.out] at r2; rw [u8s_drop, u8s_take, List.take_of_length_le (by simp [hK]), ← H3.out] at r3)
          | (go_at_call 30; refine (low64_any _ _ _ _ (by first | exact r2 | exact r3)).mono ?_; rintro e w7 ⟨rfl, rfl⟩)
          | (go_at_call 21; clear mk; refine (putLow_k sm 8 hsml (by omega) _).mono ?_; rintro e w8 ⟨v8, rfl, ho8, hB8⟩; have z8 := hB8.size; have l4b := h4.lt; replace h4 := h4.gr hB8; replace hB := hB.trans (hB8.mono hB.size); clear r2 r3 h2)
          | (go_at_call 21; refine (putLow_k t1 8 ht1l (by omega) _).mono ?_; rintro e w9 ⟨v9, rfl, ho9, hB9⟩; have z9 := hB9.size; replace ho8 := Gr.own hB9 ho8; replace h4 := h4.gr hB9; replace hB := hB.trans (hB9.mono hB.size); obtain ⟨A9, c9, rfl, _, _⟩ := own_form ho9; have r9 := Rd.of_own ho9)
          | (at_builtin; go_must (refine wpList_app _ rfl (.tmp 75) (.tmp 79) 26 rfl _ 5 i0 (.int .u8 0) 1 Try.underlying26 hi0 hz0 hz1 hz2 rfl v8 8 _ rfl ho8 A9 8 c9 _ rfl r9 (u8s_oneCell _) (by omega) (by unfold maxLen; omega) (by omega) ?_; rintro v10 w10 hA10; have hB10 := hA10.below ho8 (by omega); replace h4 := h4.below hB10 l4b; replace hB := hB.trans (hB10.mono (by omega)); have ho10 := hA10.own; rw [← u8s_append, ← hE2.out] at ho10; obtain ⟨go, co, rfl, _, hgo, hgl⟩ := own_at ho10 (by omega); have hrg : w10.rangeAt go 0 (u8s (tagL K b)) := (fun j v hv => by have := ho10.cells (g := go) rfl j v hv; rw [add_row] at this; exact this); have ha := fun w => run_arrAt (P := Try.prog) Try.underlying38 (A := some ⟨go, 0, none⟩) (c := co) (Nat.le_refl 16) w; clear hA10 ho10 ho8 r9 ho9))
          | (refine wpList_load_mid rfl 38 (.tmp 82) rfl go 0 rfl (u8s (tagL K b)) _ hrg Try.underlying38 rfl (info16 _ htl) ?_)
          | (refine wpList_put h4 rfl 38 (.tmp 4) (.tmp 83) rfl (u8s (tagL K b)) rfl rfl (by simp [htl]) (info16 _ htl) (u8s_oneCell _) ?_; intro w11 hR11 hB11 hO11)
        refine bodyPost_ret (results_cell_row rfl _ _ (w.heap.size + 1) _ _ _ _ rfl hR11 Try.underlying38 rfl (by have := info16 _ htl; simpa using this)) rfl ?_
        exact ⟨rfl, hB.trans (hB11.mono (by omega))⟩
      · have e4 : IntKind.u64.wrap ((hi : Int) + ((leNat k3 : Nat) : Int)) = (t1 : Int) := by rw [HT1.out, if_neg hcmp]; exact wrap_add64 hi (leNat k3)
        have hcmp' : ¬ ((sm : Int) < (lo : Int)) := by omega
        go_wp2_with first
          | (refine wpList_load_mid rfl 64 (.tmp 10) rfl g10 0 rfl (u64s h) _ h10.range Try.underlying64 rfl (info38 _ hhl) ?_)
          | (go_at_call 35; refine (hleast _).mono ?_; rintro e w5 ⟨rfl, hB5⟩; replace h2 := h2.gr hB5; replace h4 := h4.gr hB5; replace hB := hB.trans (hB5.mono hB.size); clear hB5)
          | (go_at_call 36; refine (hwords _).mono ?_; rintro e w6 ⟨rfl, hB6⟩; replace h2 := h2.gr hB6; replace h4 := h4.gr hB6; replace hB := hB.trans (hB6.mono hB.size); clear hB6; have r2 := h2.rd 16 8 (by simp [hK]); have r3 := h2.rd 24 8 (by simp [hK]); rw [u8s_drop, u8s_take, ← H2.out] at r2; rw [u8s_drop, u8s_take, List.take_of_length_le (by simp [hK]), ← H3.out] at r3)
          | (go_at_call 30; refine (low64_any _ _ _ _ (by first | exact r2 | exact r3)).mono ?_; rintro e w7 ⟨rfl, rfl⟩)
          | (go_at_call 21; clear mk; refine (putLow_k sm 8 hsml (by omega) _).mono ?_; rintro e w8 ⟨v8, rfl, ho8, hB8⟩; have z8 := hB8.size; have l4b := h4.lt; replace h4 := h4.gr hB8; replace hB := hB.trans (hB8.mono hB.size); clear r2 r3 h2)
          | (go_at_call 21; refine (putLow_k t1 8 ht1l (by omega) _).mono ?_; rintro e w9 ⟨v9, rfl, ho9, hB9⟩; have z9 := hB9.size; replace ho8 := Gr.own hB9 ho8; replace h4 := h4.gr hB9; replace hB := hB.trans (hB9.mono hB.size); obtain ⟨A9, c9, rfl, _, _⟩ := own_form ho9; have r9 := Rd.of_own ho9)
          | (at_builtin; go_must (refine wpList_app _ rfl (.tmp 75) (.tmp 79) 26 rfl _ 5 i0 (.int .u8 0) 1 Try.underlying26 hi0 hz0 hz1 hz2 rfl v8 8 _ rfl ho8 A9 8 c9 _ rfl r9 (u8s_oneCell _) (by omega) (by unfold maxLen; omega) (by omega) ?_; rintro v10 w10 hA10; have hB10 := hA10.below ho8 (by omega); replace h4 := h4.below hB10 l4b; replace hB := hB.trans (hB10.mono (by omega)); have ho10 := hA10.own; rw [← u8s_append, ← hE2.out] at ho10; obtain ⟨go, co, rfl, _, hgo, hgl⟩ := own_at ho10 (by omega); have hrg : w10.rangeAt go 0 (u8s (tagL K b)) := (fun j v hv => by have := ho10.cells (g := go) rfl j v hv; rw [add_row] at this; exact this); have ha := fun w => run_arrAt (P := Try.prog) Try.underlying38 (A := some ⟨go, 0, none⟩) (c := co) (Nat.le_refl 16) w; clear hA10 ho10 ho8 r9 ho9))
          | (refine wpList_load_mid rfl 38 (.tmp 82) rfl go 0 rfl (u8s (tagL K b)) _ hrg Try.underlying38 rfl (info16 _ htl) ?_)
          | (refine wpList_put h4 rfl 38 (.tmp 4) (.tmp 83) rfl (u8s (tagL K b)) rfl rfl (by simp [htl]) (info16 _ htl) (u8s_oneCell _) ?_; intro w11 hR11 hB11 hO11)
        refine bodyPost_ret (results_cell_row rfl _ _ (w.heap.size + 1) _ _ _ _ rfl hR11 Try.underlying38 rfl (by have := info16 _ htl; simpa using this)) rfl ?_
        exact ⟨rfl, hB.trans (hB11.mono (by omega))⟩
end Go.Proofs.Ythffodfnnjejnaa

