/- The walks of the poly layer's numbers: load, words, plus, times, least. No condition. -/
import Derived.Test.YthffodfnnjejnaaPolN
namespace Go.Proofs.Ythffodfnnjejnaa
open Go.RowKit
section
variable {P : Program} {ev : Operand → Value} {d : Option Tmp} {t T U : TypeId} {s : String} {af : Array Edge} {gd : Option (Nat × Bool)} {w : World} {x y : Operand}
theorem run_add64 {a b : Nat} (h1 : ev x = .int .u64 a) (h2 : ev y = .int .u64 b) : (execOp ev ⟨d, .binOp .add T x y U, t, s, af, gd⟩).run P w = .ok (.value (.int .u64 (((a + b) % 18446744073709551616 : Nat) : Int))) w := by
  simp only [execOp, h1, h2]
  go_simp
  exact wrap_add64 a b
theorem run_mul64 {a b : Nat} (h1 : ev x = .int .u64 a) (h2 : ev y = .int .u64 b) : (execOp ev ⟨d, .binOp .mul T x y U, t, s, af, gd⟩).run P w = .ok (.value (.int .u64 ((a * b % 18446744073709551616 : Nat) : Int))) w := by
  simp only [execOp, h1, h2]
  go_simp
  exact wrap_mul64 a b
theorem run_shr26 {a : Nat} (h1 : ev x = .int .u64 a) (hc : ev y = .int .u64 26) : (execOp ev ⟨d, .binOp .shr T x y U, t, s, af, gd⟩).run P w = .ok (.value (.int .u64 ((a / 67108864 : Nat) : Int))) w := by
  simp only [execOp, h1, hc]
  go_simp
theorem run_inc {a : Nat} (h : a < 1000000) (h1 : ev x = .int .i64 a) (hc : ev y = .int .i64 1) : (execOp ev ⟨d, .binOp .add T x y U, t, s, af, gd⟩).run P w = .ok (.value (.int .i64 ((a + 1 : Nat) : Int))) w := by
  simp only [execOp, h1, hc]
  go_simp
  exact IntWalk.i64_in _ (by omega)
theorem wrap_mulK (a b : Nat) (z : Int) (hz : z = b) : IntKind.u64.wrap ((a : Int) * z) = (((a * b) % 18446744073709551616 : Nat) : Int) := by
  subst hz; exact wrap_mul64 a b
theorem or64 (a b : Nat) (ha : a < 18446744073709551616) (hb : b < 18446744073709551616) : ∃ q : Nat, q = (a ||| b) ∧ q < 18446744073709551616 ∧ bits .or .u64 (a : Int) (b : Int) = (q : Int) :=
  ⟨_, rfl, Nat.or_lt_two_pow (n := 64) ha hb, u64_or_nat _ _ ha hb⟩
end
set_option maxHeartbeats 4000000 in
theorem load_any (low high above : Nat) (hl : low < 18446744073709551616) (hh : high < 18446744073709551616) (w : World) :
    Calls Try.prog 31 #[.int .u64 low, .int .u64 high, .int .u64 above] w fun e w' => e = .returned (.agg (u64s (loadU low high above)).toArray) ∧ Below w.heap.size w w' := by
  obtain ⟨x0, hx0⟩ : ∃ v, v = low % 67108864 := ⟨_, rfl⟩
  have e1 : bits .and .u64 (low : Int) 67108863 = (x0 : Int) := by rw [hx0]; exact and26 low hl
  obtain ⟨x1, hx1⟩ : ∃ v, v = low / 67108864 % 67108864 := ⟨_, rfl⟩
  have e2 : bits .and .u64 ((low : Int) / 67108864) 67108863 = (x1 : Int) := by rw [hx1]; exact and26 (low / 67108864) (by omega)
  obtain ⟨p, hp⟩ : ∃ v, v = high * 4096 % 18446744073709551616 := ⟨_, rfl⟩
  have w1 : IntKind.u64.wrap ((high : Int) * 4096) = (p : Int) := by rw [hp]; exact wrap_mulK high 4096 4096 rfl
  obtain ⟨q, hq, hql, e3⟩ := or64 (low / 4503599627370496) p (by omega) (by rw [hp]; exact Nat.mod_lt _ (by omega))
  have e3' : bits .or .u64 ((low : Int) / 4503599627370496) (p : Int) = (q : Int) := e3
  obtain ⟨x2, hx2⟩ : ∃ v, v = q % 67108864 := ⟨_, rfl⟩
  have e4 : bits .and .u64 (q : Int) 67108863 = (x2 : Int) := by rw [hx2]; exact and26 q hql
  obtain ⟨x3, hx3⟩ : ∃ v, v = high / 16384 % 67108864 := ⟨_, rfl⟩
  have e5 : bits .and .u64 ((high : Int) / 16384) 67108863 = (x3 : Int) := by rw [hx3]; exact and26 (high / 16384) (by omega)
  obtain ⟨p2, hp2⟩ : ∃ v, v = above * 16777216 % 18446744073709551616 := ⟨_, rfl⟩
  have w2 : IntKind.u64.wrap ((above : Int) * 16777216) = (p2 : Int) := by rw [hp2]; exact wrap_mulK above 16777216 16777216 rfl
  obtain ⟨x4, hx4, _, e6⟩ := or64 (high / 1099511627776) p2 (by omega) (by rw [hp2]; exact Nat.mod_lt _ (by omega))
  have e6' : bits .or .u64 ((high : Int) / 1099511627776) (p2 : Int) = (x4 : Int) := e6
  have hE : loadU low high above = [x0, x1, x2, x3, x4] := by rw [hx0, hx1, hx2, hx3, hx4, hq, hp, hp2]; rfl
  rw [hE]
  clear hE hx0 hx1 hx2 hx3 hx4 hq hp hp2 e3 e6
  go_enter Try.func31, Try.ntmps31
  go_wp2_with fail
  refine bodyPost_ret (results_cell_row rfl _ _ w.heap.size _ _ _ _ rfl (Arr.newAt (l := u64s [x0, x1, x2, x3, x4]) rfl rfl) Try.underlying64 rfl (by kernel_rfl)) rfl ?_
  exact ⟨rfl, (Below.refl _ _).alloc (Nat.le_refl _) _⟩
set_option maxHeartbeats 4000000 in
theorem words_any (x : List Nat) (hx : x.length = 5) (hl : Lt64 x) (w : World) :
    Calls Try.prog 36 #[.agg (u64s x).toArray] w fun e w' => e = .returned (.tuple #[.int .u64 (lowU x : Nat), .int .u64 (highU x : Nat)]) ∧ Below w.heap.size w w' := by
  obtain ⟨a, b, c, d, e, rfl⟩ := five hx
  have la : a < 18446744073709551616 := hl 0
  have lb : b < 18446744073709551616 := hl 1
  have lc : c < 18446744073709551616 := hl 2
  obtain ⟨p1, hp1⟩ : ∃ v, v = b * 67108864 % 18446744073709551616 := ⟨_, rfl⟩
  have w1 : IntKind.u64.wrap ((b : Int) * 67108864) = (p1 : Int) := by rw [hp1]; exact wrap_mulK b 67108864 67108864 rfl
  obtain ⟨q1, hq1, lq1, e1⟩ := or64 a p1 la (by rw [hp1]; exact Nat.mod_lt _ (by omega))
  obtain ⟨p2, hp2⟩ : ∃ v, v = c * 4503599627370496 % 18446744073709551616 := ⟨_, rfl⟩
  have w2 : IntKind.u64.wrap ((c : Int) * 4503599627370496) = (p2 : Int) := by rw [hp2]; exact wrap_mulK c 4503599627370496 4503599627370496 rfl
  obtain ⟨q2, hq2, lq2, e2⟩ := or64 q1 p2 lq1 (by rw [hp2]; exact Nat.mod_lt _ (by omega))
  obtain ⟨p3, hp3⟩ : ∃ v, v = d * 16384 % 18446744073709551616 := ⟨_, rfl⟩
  have w3 : IntKind.u64.wrap ((d : Int) * 16384) = (p3 : Int) := by rw [hp3]; exact wrap_mulK d 16384 16384 rfl
  obtain ⟨q3, hq3, lq3, e3⟩ := or64 (c / 4096) p3 (by omega) (by rw [hp3]; exact Nat.mod_lt _ (by omega))
  have e3' : bits .or .u64 ((c : Int) / 4096) (p3 : Int) = (q3 : Int) := e3
  obtain ⟨p4, hp4⟩ : ∃ v, v = e * 1099511627776 % 18446744073709551616 := ⟨_, rfl⟩
  have w4 : IntKind.u64.wrap ((e : Int) * 1099511627776) = (p4 : Int) := by rw [hp4]; exact wrap_mulK e 1099511627776 1099511627776 rfl
  obtain ⟨q4, hq4, lq4, e4⟩ := or64 q3 p4 lq3 (by rw [hp4]; exact Nat.mod_lt _ (by omega))
  have hlow : lowU [a, b, c, d, e] = q2 := by rw [hq2, hq1, hp1, hp2]; rfl
  have hhigh : highU [a, b, c, d, e] = q4 := by rw [hq4, hq3, hp3, hp4]; rfl
  rw [hlow, hhigh]
  clear hlow hhigh hp1 hp2 hp3 hp4 hq1 hq2 hq3 hq4 e3 hl
  go_enter Try.func36, Try.ntmps36
  have hA : Arr (w.alloc (.cells (u64s [a, b, c, d, e]).toArray 64)) w.heap.size 64 (u64s [a, b, c, d, e]) := Arr.newAt rfl rfl
  have c0 := hA.cell (i := 0) rfl
  have c1 := hA.cell (i := 1) rfl
  have c2 := hA.cell (i := 2) rfl
  have c3 := hA.cell (i := 3) rfl
  have c4 := hA.cell (i := 4) rfl
  go_wp2_with fail
  go_ret2
  exact ⟨rfl, (Below.refl _ _).alloc (Nat.le_refl _) _⟩
theorem pAt_lt {x y : List Nat} (h : Lt64 x) (k : Nat) : Lt64 (pAt x y k) := by
  induction k with
  | zero => exact h
  | succ k ih => exact ih.set k (Nat.mod_lt _ (show 18446744073709551616 > 0 by omega))
set_option maxHeartbeats 4000000 in
theorem plus_any (x y : List Nat) (hx : x.length = 5) (hy : y.length = 5) (w : World) :
    Calls Try.prog 32 #[.agg (u64s x).toArray, .agg (u64s y).toArray] w fun e w' => e = .returned (.agg (u64s (plusU x y)).toArray) ∧ Below w.heap.size w w' := by
  go_enter Try.func32, Try.ntmps32
  go_wp2_with fail
  generalize hW : ((w.alloc _).alloc _).alloc _ = W
  have h2 : Arr W w.heap.size 64 (u64s x) := by rw [← hW]; exact ((Arr.newAt rfl rfl).alloc _).alloc _
  have h3 : Arr W (w.heap.size + 1) 64 (u64s y) := by rw [← hW]; exact (Arr.newAt (asz _ _) rfl).alloc _
  have h4 : Arr W (w.heap.size + 1 + 1) 64 (u64s (List.replicate 5 0)) := by rw [← hW]; exact Arr.newAt (by simp only [asz]) (by kernel_rfl)
  have hB : Below w.heap.size w W := by rw [← hW]; exact (((Below.refl _ _).alloc (by omega) _).alloc (by simp only [asz]; omega) _).alloc (by simp only [asz]; omega) _
  clear hW
  go_loopw [6] (fun i wr => ∃ r : Nat, r ≤ 5 ∧ i = .int .i64 r ∧ Arr wr w.heap.size 64 (u64s (pAt x y r)) ∧ Arr wr (w.heap.size + 1) 64 (u64s y) ∧ Arr wr (w.heap.size + 1 + 1) 64 (u64s (List.replicate 5 0)) ∧ Below w.heap.size w wr) (fun i _ => 5 - (intOf i).toNat)
  case atStart => exact ⟨0, by omega, rfl, h2, h3, h4, hB⟩
  case round =>
    obtain ⟨r, hr, rfl, h2, h3, h4, hB⟩ := hrel
    by_cases hlt : r < 5
    · obtain ⟨z, hz⟩ : ∃ z, z = pAt x y r := ⟨_, rfl⟩
      obtain ⟨a, ha⟩ : ∃ a, a = z.getD r 0 := ⟨_, rfl⟩
      obtain ⟨b, hb⟩ : ∃ b, b = y.getD r 0 := ⟨_, rfl⟩
      have hlz : z.length = 5 := by rw [hz]; simp [hx]
      have HP : Hid (pAt x y (r + 1) = z.set r ((a + b) % 18446744073709551616)) := by show _ = _; rw [ha, hb, hz]; rfl
      rw [← hz] at h2
      have c2 := h2.u64 (a := r) (by omega)
      have c3 := h3.u64 (a := r) (by omega)
      rw [← ha] at c2
      rw [← hb] at c3
      clear hz ha hb
      go_wp2_with fail
      refine wp_region_st (by kernel_rfl) [IsV (.int .i64 (r : Nat)), IsV (.pointer (some ⟨w.heap.size, r, none⟩)), IsV (.int .u64 ((a : Nat) : Int)), IsV (.int .i64 (r : Nat)), IsV (.pointer (some ⟨(w.heap.size + 1), r, none⟩)), IsV (.int .u64 ((b : Nat) : Int)), IsV (.int .u64 ((((a + b) % 18446744073709551616) : Nat) : Int)), IsV (.pointer (some ⟨w.heap.size, r, none⟩))] 8 _ rfl rfl rfl (by kernel_rfl) (by kernel_rfl) ?_ (⟨w.heap.size, r, none⟩ : Addr) (.int .u64 ((((a + b) % 18446744073709551616) : Nat) : Int)) ?_ ?_ ?_
      · intro φ hφ
        simp only [List.mem_cons, List.not_mem_nil, or_false] at hφ
        rcases hφ with rfl | rfl | rfl | rfl | rfl | rfl | rfl | rfl <;> exact ⟨_, rfl⟩
      · refine ⟨?_, ?_, ?_, ?_, ?_, ?_, ?_, ?_, trivial⟩
        · intro a1 w1 hG hF
          exact d_old rfl (wants0 rfl) (.tmp 5) (.inr rfl) (.int .i64 (r : Nat)) (hF.ol 5 (by kernel_rfl)) rfl
        · intro a1 w1 hG hF
          have e2 : a1.eval (.tmp 2) = .pointer (some ⟨w.heap.size, 0, none⟩) := hF.ol 2 (by kernel_rfl)
          obtain ⟨_, e9, rfl⟩ := hF.dp 0 9 (by kernel_rfl)
          exact d_is rfl (wants0 rfl) _ rfl (run_idx Try.underlying64 (by kernel_rfl) e2 e9 (by omega))
        · intro a1 w1 hG hF
          obtain ⟨_, e10, rfl⟩ := hF.dp 1 10 (by kernel_rfl)
          exact d_is rfl (wants0 rfl) _ rfl (run_load1 Try.underlying36 e10 ((hG.cell _).trans c2))
        · intro a1 w1 hG hF
          exact d_old rfl (wants0 rfl) (.tmp 5) (.inr rfl) (.int .i64 (r : Nat)) (hF.ol 5 (by kernel_rfl)) rfl
        · intro a1 w1 hG hF
          have e3 : a1.eval (.tmp 3) = .pointer (some ⟨(w.heap.size + 1), 0, none⟩) := hF.ol 3 (by kernel_rfl)
          obtain ⟨_, e12, rfl⟩ := hF.dp 3 12 (by kernel_rfl)
          exact d_is rfl (wants0 rfl) _ rfl (run_idx Try.underlying64 (by kernel_rfl) e3 e12 (by omega))
        · intro a1 w1 hG hF
          obtain ⟨_, e13, rfl⟩ := hF.dp 4 13 (by kernel_rfl)
          exact d_is rfl (wants0 rfl) _ rfl (run_load1 Try.underlying36 e13 ((hG.cell _).trans c3))
        · intro a1 w1 hG hF
          obtain ⟨_, e11, rfl⟩ := hF.dp 2 11 (by kernel_rfl)
          obtain ⟨_, e14, rfl⟩ := hF.dp 5 14 (by kernel_rfl)
          exact d_is rfl (wants0 rfl) _ rfl (run_add64 e11 e14)
        · intro a1 w1 hG hF
          have e2 : a1.eval (.tmp 2) = .pointer (some ⟨w.heap.size, 0, none⟩) := hF.ol 2 (by kernel_rfl)
          obtain ⟨_, e9, rfl⟩ := hF.dp 0 9 (by kernel_rfl)
          exact d_is rfl (wants0 rfl) _ rfl (run_idx Try.underlying64 (by kernel_rfl) e2 e9 (by omega))
      · intro a1 w1 hG hF
        obtain ⟨_, e16, rfl⟩ := hF.dp 7 16 (by kernel_rfl)
        obtain ⟨_, e15, rfl⟩ := hF.dp 6 15 (by kernel_rfl)
        exact ⟨wants0 rfl, run_store1 (by kernel_rfl) e16 e15 (by rw [hG.cell]; exact (Option.isSome_iff_exists.2 ⟨_, c2⟩)) (by rw [hG.frozen]; exact h2.frozen _)⟩
      intro vs k0 hf
      clear hf
      simp only [putAll, Nat.zero_add, Nat.reduceAdd]
      have h2' := (h2.dr ⟨k0, rfl⟩).set r (.int .u64 (((a + b) % 18446744073709551616 : Nat) : Int))
      rw [u64s_set] at h2'
      have h3' := (h3.dr ⟨k0, rfl⟩).other (a := ⟨w.heap.size, r, none⟩) (by simp only []; omega) (.int .u64 (((a + b) % 18446744073709551616 : Nat) : Int))
      have h4' := (h4.dr ⟨k0, rfl⟩).other (a := ⟨w.heap.size, r, none⟩) (by simp only []; omega) (.int .u64 (((a + b) % 18446744073709551616 : Nat) : Int))
      have hB' := hB.trans ((below_dr ⟨k0, rfl⟩).trans (below_setCell (a := ⟨w.heap.size, r, none⟩) (v := .int .u64 (((a + b) % 18446744073709551616 : Nat) : Int)) (Nat.le_refl w.heap.size)))
      rw [← HP.out] at h2'
      generalize ((wr.drewN k0).setCell _ _) = W1 at h2' h3' h4' hB' ⊢
      clear h2 h3 h4 hB c2 c3
      go_simp
      go_wp2_with fail
      go_roundw
      case rel => exact ⟨r + 1, by omega, by go_num, h2', h3', h4', hB'⟩
      case measure => simp [intOf]; omega
    · obtain rfl : r = 5 := by omega
      obtain ⟨z, hz⟩ : ∃ z, z = plusU x y := ⟨_, rfl⟩
      have hlz : z.length = 5 := by rw [hz]; simp [plusU, hx]
      rw [show pAt x y 5 = z from hz.symm] at h2
      have HZ := Lib.hid hz
      clear hz
      simp only [show ((5 : Nat) : Int) = 5 from rfl]
      go_wp2_with first
        | (refine wpList_load_mid rfl 64 (.tmp 2) rfl w.heap.size 0 rfl (u64s z) _ h2.range Try.underlying64 rfl (info38 _ hlz) ?_)
        | (refine wpList_put h4 rfl 64 (.tmp 4) (.tmp 18) rfl (u64s z) rfl rfl (by simp [hlz]) (info38 _ hlz) (u64s_oneCell _) ?_; intro w2 h42 hB2 hO2)
      refine bodyPost_ret (results_cell_row rfl _ _ (w.heap.size + 1 + 1) _ _ _ _ rfl h42 Try.underlying64 rfl (by have := info38 _ hlz; simpa using this)) rfl ?_
      rw [← HZ.out]
      exact ⟨rfl, hB.trans (hB2.mono (by omega))⟩
end Go.Proofs.Ythffodfnnjejnaa

