/- The walk of (*state).quarter. No condition. -/
import Derived.Test.YthffodfnnjejnaaChaP
import Derived.Test.YthffodfnnjejnaaKitA
namespace Go.Proofs.Ythffodfnnjejnaa
open Go.RowKit
def qAt (s : List UInt32) (a b c d : Nat) : Nat → List UInt32
  | 0 => s
  | 1 => halfQ s a b c d 16 12
  | _ => quarterL s a b c d
theorem qAt_length (s : List UInt32) (a b c d r : Nat) : (qAt s a b c d r).length = s.length := by
  unfold qAt; split <;> simp
set_option maxRecDepth 100000 in
set_option maxHeartbeats 4000000 in
theorem quarter_any (g : Nat) (a b c d : Nat) (ha : a < 16) (hb : b < 16) (hc : c < 16) (hd : d < 16) (s : List UInt32) (hs : s.length = 16) (w : World) (hA : Arr w g 58 (u32s s)) :
    Calls Try.prog 42 #[.pointer (some ⟨g, 0, none⟩), .int .i64 a, .int .i64 b, .int .i64 c, .int .i64 d] w fun e w' => (∃ v, e = .returned v) ∧ Arr w' g 58 (u32s (quarterL s a b c d)) ∧ Below g w w' := by
  have hx0 : ∀ w, (Instr.index 85 (.agg #[.int .i64 16, .int .i64 12, .int .i64 8, .int .i64 7]) (.int .i64 0)).run Try.prog w = .ok (.agg #[.int .i64 16, .int .i64 12]) w := fun w => by kernel_rfl
  have hx1 : ∀ w, (Instr.index 85 (.agg #[.int .i64 16, .int .i64 12, .int .i64 8, .int .i64 7]) (.int .i64 1)).run Try.prog w = .ok (.agg #[.int .i64 8, .int .i64 7]) w := fun w => by kernel_rfl
  go_enter Try.func42, Try.ntmps42
  go_wp2_with fail
  go_loopw [15] (fun i wr => ∃ r : Nat, r ≤ 2 ∧ i = .int .i64 r ∧ Arr wr g 58 (u32s (qAt s a b c d r)) ∧ Below g w wr) (fun i _ => 2 - (intOf i).toNat)
  case atStart => exact ⟨0, by omega, rfl, hA, Below.refl _ _⟩
  case round =>
    obtain ⟨r, hr, rfl, hAr, hBr⟩ := hrel
    obtain h0 | h1 | h2 : r = 0 ∨ r = 1 ∨ r = 2 := by omega
    · subst h0
      obtain ⟨s0, hs0⟩ : ∃ s0, s0 = qAt s a b c d 0 := ⟨_, rfl⟩
      have hl0 : s0.length = 16 := by rw [hs0, qAt_length, hs]
      rw [← hs0] at hAr
      have HS0 := Lib.hid hs0
      clear hs0
      go_wp2_with fail
      have hA0 := hAr.alloc (.cells #[.int .i64 16, .int .i64 12] 84)
      have hH0 : Arr (wr.alloc (.cells #[.int .i64 16, .int .i64 12] 84)) wr.heap.size 84 [.int .i64 16, .int .i64 12] := Arr.new wr _ _
      have hB0 : Below g w (wr.alloc (.cells #[.int .i64 16, .int .i64 12] 84)) := hBr.alloc (Nat.le_of_lt hAr.lt) _
      have hhg : wr.heap.size ≠ g := Nat.ne_of_gt hAr.lt
      generalize (wr.alloc (.cells #[.int .i64 16, .int .i64 12] 84)) = W0 at hA0 hH0 hB0 ⊢
      generalize wr.heap.size = h at hH0 hhg ⊢
      clear hAr hBr hx0 hx1 hA
      refine wp_region_st (by kernel_rfl) [IsV (.pointer (some ⟨g, 0, none⟩)), IsV (.int .i64 (a : Nat)), IsV (.pointer (some ⟨g, 0, none⟩)), IsV (.pointer (some ⟨g, a, none⟩)), IsV (.int .u32 (s0.getD a 0).toNat), IsV (.pointer (some ⟨g, 0, none⟩)), IsV (.int .i64 (b : Nat)), IsV (.pointer (some ⟨g, 0, none⟩)), IsV (.pointer (some ⟨g, b, none⟩)), IsV (.int .u32 (s0.getD b 0).toNat), IsV (.int .u32 ((s0.getD a 0 + s0.getD b 0)).toNat), IsV (.pointer (some ⟨g, 0, none⟩)), IsV (.pointer (some ⟨g, a, none⟩))] 13 _ rfl rfl rfl (by kernel_rfl) (by kernel_rfl) ?_ (⟨g, a, none⟩ : Addr) (.int .u32 ((s0.getD a 0 + s0.getD b 0)).toNat) ?_ ?_ ?_
      · intro φ hφ
        simp only [List.mem_cons, List.not_mem_nil, or_false] at hφ
        rcases hφ with rfl | rfl | rfl | rfl | rfl | rfl | rfl | rfl | rfl | rfl | rfl | rfl | rfl <;> exact ⟨_, rfl⟩
      · refine ⟨?_, ?_, ?_, ?_, ?_, ?_, ?_, ?_, ?_, ?_, ?_, ?_, ?_, trivial⟩
        · intro a1 w1 hG hF
          exact d_old rfl (wants0 rfl) (.tmp 0) (.inr rfl) (.pointer (some ⟨g, 0, none⟩)) (hF.ol 0 (by kernel_rfl)) rfl
        · intro a1 w1 hG hF
          exact d_old rfl (wants0 rfl) (.tmp 1) (.inr rfl) (.int .i64 (a : Nat)) (hF.ol 1 (by kernel_rfl)) rfl
        · intro a1 w1 hG hF
          obtain ⟨_, e18, rfl⟩ := hF.dp 0 18 (by kernel_rfl)
          exact d_is rfl (wants0 rfl) _ rfl (run_nil e18)
        · intro a1 w1 hG hF
          obtain ⟨_, e20, rfl⟩ := hF.dp 2 20 (by kernel_rfl)
          obtain ⟨_, e19, rfl⟩ := hF.dp 1 19 (by kernel_rfl)
          exact d_is rfl (wants0 rfl) _ rfl (run_idx Try.underlying58 (by kernel_rfl) e20 e19 (by omega))
        · intro a1 w1 hG hF
          obtain ⟨_, e21, rfl⟩ := hF.dp 3 21 (by kernel_rfl)
          exact d_is rfl (wants0 rfl) _ rfl (run_load1 Try.underlying43 e21 ((hG.cell _).trans (hA0.u32 (by omega))))
        · intro a1 w1 hG hF
          exact d_old rfl (wants0 rfl) (.tmp 0) (.inr rfl) (.pointer (some ⟨g, 0, none⟩)) (hF.ol 0 (by kernel_rfl)) rfl
        · intro a1 w1 hG hF
          exact d_old rfl (wants0 rfl) (.tmp 2) (.inr rfl) (.int .i64 (b : Nat)) (hF.ol 2 (by kernel_rfl)) rfl
        · intro a1 w1 hG hF
          obtain ⟨_, e23, rfl⟩ := hF.dp 5 23 (by kernel_rfl)
          exact d_is rfl (wants0 rfl) _ rfl (run_nil e23)
        · intro a1 w1 hG hF
          obtain ⟨_, e25, rfl⟩ := hF.dp 7 25 (by kernel_rfl)
          obtain ⟨_, e24, rfl⟩ := hF.dp 6 24 (by kernel_rfl)
          exact d_is rfl (wants0 rfl) _ rfl (run_idx Try.underlying58 (by kernel_rfl) e25 e24 (by omega))
        · intro a1 w1 hG hF
          obtain ⟨_, e26, rfl⟩ := hF.dp 8 26 (by kernel_rfl)
          exact d_is rfl (wants0 rfl) _ rfl (run_load1 Try.underlying43 e26 ((hG.cell _).trans (hA0.u32 (by omega))))
        · intro a1 w1 hG hF
          obtain ⟨_, e22, rfl⟩ := hF.dp 4 22 (by kernel_rfl)
          obtain ⟨_, e27, rfl⟩ := hF.dp 9 27 (by kernel_rfl)
          exact d_is rfl (wants0 rfl) _ rfl (run_add32 e22 e27)
        · intro a1 w1 hG hF
          obtain ⟨_, e18, rfl⟩ := hF.dp 0 18 (by kernel_rfl)
          exact d_is rfl (wants0 rfl) _ rfl (run_nil e18)
        · intro a1 w1 hG hF
          obtain ⟨_, e29, rfl⟩ := hF.dp 11 29 (by kernel_rfl)
          obtain ⟨_, e19, rfl⟩ := hF.dp 1 19 (by kernel_rfl)
          exact d_is rfl (wants0 rfl) _ rfl (run_idx Try.underlying58 (by kernel_rfl) e29 e19 (by omega))
      · intro a1 w1 hG hF
        obtain ⟨_, e30, rfl⟩ := hF.dp 12 30 (by kernel_rfl)
        obtain ⟨_, e28, rfl⟩ := hF.dp 10 28 (by kernel_rfl)
        exact ⟨wants0 rfl, run_store1 (by kernel_rfl) e30 e28 (by rw [hG.cell]; exact (Option.isSome_iff_exists.2 ⟨_, hA0.u32 (by omega)⟩)) (by rw [hG.frozen]; exact hA0.frozen _)⟩
      intro vs k0 hf
      clear hf
      simp only [putAll, Nat.zero_add, Nat.reduceAdd]
      have hA1 := (hA0.dr ⟨k0, rfl⟩).add a b
      have hH1 := (hH0.dr ⟨k0, rfl⟩).other (a := ⟨g, a, none⟩) hhg (.int .u32 (s0.getD a 0 + s0.getD b 0).toNat)
      have hB1 := hB0.trans ((below_dr ⟨k0, rfl⟩).trans (below_setCell (a := ⟨g, a, none⟩) (v := .int .u32 (s0.getD a 0 + s0.getD b 0).toNat) (Nat.le_refl g)))
      obtain ⟨s1, hs1⟩ : ∃ z, z = addS s0 a b := ⟨_, rfl⟩
      have hl1 : s1.length = 16 := by rw [hs1]; simp [hl0]
      rw [← hs1] at hA1
      have HS1 := Lib.hid hs1
      generalize ((W0.drewN k0).setCell _ _) = W1 at hA1 hH1 hB1 ⊢
      clear hs1 hA0 hH0 hB0
      go_simp
      go_wp2_with fail
      refine wp_region_st (by kernel_rfl) [IsV (.pointer (some ⟨g, 0, none⟩)), IsV (.int .i64 (d : Nat)), IsV (.pointer (some ⟨g, 0, none⟩)), IsV (.int .i64 (d : Nat)), IsV (.pointer (some ⟨g, 0, none⟩)), IsV (.pointer (some ⟨g, d, none⟩)), IsV (.int .u32 (s1.getD d 0).toNat), IsV (.pointer (some ⟨g, 0, none⟩)), IsV (.int .i64 (a : Nat)), IsV (.pointer (some ⟨g, 0, none⟩)), IsV (.pointer (some ⟨g, a, none⟩)), IsV (.int .u32 (s1.getD a 0).toNat), IsV (.int .u32 ((s1.getD d 0 ^^^ s1.getD a 0)).toNat), IsV (.pointer (some ⟨h, 0, none⟩)), IsV (.int .i64 (16)), IsV (.int .u32 (leftU (s1.getD d 0 ^^^ s1.getD a 0) 16).toNat), IsV (.pointer (some ⟨g, 0, none⟩)), IsV (.pointer (some ⟨g, d, none⟩))] 18 _ rfl rfl rfl (by kernel_rfl) (by kernel_rfl) ?_ (⟨g, d, none⟩ : Addr) (.int .u32 (leftU (s1.getD d 0 ^^^ s1.getD a 0) 16).toNat) ?_ ?_ ?_
      · intro φ hφ
        simp only [List.mem_cons, List.not_mem_nil, or_false] at hφ
        rcases hφ with rfl | rfl | rfl | rfl | rfl | rfl | rfl | rfl | rfl | rfl | rfl | rfl | rfl | rfl | rfl | rfl | rfl | rfl <;> exact ⟨_, rfl⟩
      · refine ⟨?_, ?_, ?_, ?_, ?_, ?_, ?_, ?_, ?_, ?_, ?_, ?_, ?_, ?_, ?_, ?_, ?_, ?_, trivial⟩
        · intro a1 w1 hG hF
          exact d_old rfl (wants0 rfl) (.tmp 0) (.inr rfl) (.pointer (some ⟨g, 0, none⟩)) (hF.ol 0 (by kernel_rfl)) rfl
        · intro a1 w1 hG hF
          exact d_old rfl (wants0 rfl) (.tmp 4) (.inr rfl) (.int .i64 (d : Nat)) (hF.ol 4 (by kernel_rfl)) rfl
        · intro a1 w1 hG hF
          exact d_old rfl (wants0 rfl) (.tmp 0) (.inr rfl) (.pointer (some ⟨g, 0, none⟩)) (hF.ol 0 (by kernel_rfl)) rfl
        · intro a1 w1 hG hF
          exact d_old rfl (wants0 rfl) (.tmp 4) (.inr rfl) (.int .i64 (d : Nat)) (hF.ol 4 (by kernel_rfl)) rfl
        · intro a1 w1 hG hF
          obtain ⟨_, e33, rfl⟩ := hF.dp 2 33 (by kernel_rfl)
          exact d_is rfl (wants0 rfl) _ rfl (run_nil e33)
        · intro a1 w1 hG hF
          obtain ⟨_, e35, rfl⟩ := hF.dp 4 35 (by kernel_rfl)
          obtain ⟨_, e34, rfl⟩ := hF.dp 3 34 (by kernel_rfl)
          exact d_is rfl (wants0 rfl) _ rfl (run_idx Try.underlying58 (by kernel_rfl) e35 e34 (by omega))
        · intro a1 w1 hG hF
          obtain ⟨_, e36, rfl⟩ := hF.dp 5 36 (by kernel_rfl)
          exact d_is rfl (wants0 rfl) _ rfl (run_load1 Try.underlying43 e36 ((hG.cell _).trans (hA1.u32 (by omega))))
        · intro a1 w1 hG hF
          exact d_old rfl (wants0 rfl) (.tmp 0) (.inr rfl) (.pointer (some ⟨g, 0, none⟩)) (hF.ol 0 (by kernel_rfl)) rfl
        · intro a1 w1 hG hF
          exact d_old rfl (wants0 rfl) (.tmp 1) (.inr rfl) (.int .i64 (a : Nat)) (hF.ol 1 (by kernel_rfl)) rfl
        · intro a1 w1 hG hF
          obtain ⟨_, e38, rfl⟩ := hF.dp 7 38 (by kernel_rfl)
          exact d_is rfl (wants0 rfl) _ rfl (run_nil e38)
        · intro a1 w1 hG hF
          obtain ⟨_, e40, rfl⟩ := hF.dp 9 40 (by kernel_rfl)
          obtain ⟨_, e39, rfl⟩ := hF.dp 8 39 (by kernel_rfl)
          exact d_is rfl (wants0 rfl) _ rfl (run_idx Try.underlying58 (by kernel_rfl) e40 e39 (by omega))
        · intro a1 w1 hG hF
          obtain ⟨_, e41, rfl⟩ := hF.dp 10 41 (by kernel_rfl)
          exact d_is rfl (wants0 rfl) _ rfl (run_load1 Try.underlying43 e41 ((hG.cell _).trans (hA1.u32 (by omega))))
        · intro a1 w1 hG hF
          obtain ⟨_, e37, rfl⟩ := hF.dp 6 37 (by kernel_rfl)
          obtain ⟨_, e42, rfl⟩ := hF.dp 11 42 (by kernel_rfl)
          exact d_is rfl (wants0 rfl) _ rfl (run_xor32 e37 e42)
        · intro a1 w1 hG hF
          have e11 : a1.eval (.tmp 11) = .pointer (some ⟨h, 0, none⟩) := hF.ol 11 (by kernel_rfl)
          exact d_is rfl (wants0 rfl) _ rfl (run_idx (i := 0) Try.underlying84 (by kernel_rfl) e11 rfl (by omega))
        · intro a1 w1 hG hF
          obtain ⟨_, e44, rfl⟩ := hF.dp 13 44 (by kernel_rfl)
          exact d_is rfl (wants0 rfl) _ rfl (run_load1 Try.underlying3 e44 ((hG.cell _).trans (hH1.cell rfl)))
        · intro a1 w1 hG hF
          obtain ⟨_, e43, rfl⟩ := hF.dp 12 43 (by kernel_rfl)
          obtain ⟨_, e45, rfl⟩ := hF.dp 14 45 (by kernel_rfl)
          exact d_call rfl (wants0 rfl) _ rfl _ _ (by simp only [execOp, resolve, invoke, List.map_toArray, List.map_cons, List.map_nil, e43, e45]; go_simp) ((left_any _ _ w1).mono fun e w2 ⟨he, hw⟩ => ⟨he, hw ▸ Dr.refl _⟩)
        · intro a1 w1 hG hF
          obtain ⟨_, e31, rfl⟩ := hF.dp 0 31 (by kernel_rfl)
          exact d_is rfl (wants0 rfl) _ rfl (run_nil e31)
        · intro a1 w1 hG hF
          obtain ⟨_, e47, rfl⟩ := hF.dp 16 47 (by kernel_rfl)
          obtain ⟨_, e32, rfl⟩ := hF.dp 1 32 (by kernel_rfl)
          exact d_is rfl (wants0 rfl) _ rfl (run_idx Try.underlying58 (by kernel_rfl) e47 e32 (by omega))
      · intro a1 w1 hG hF
        obtain ⟨_, e48, rfl⟩ := hF.dp 17 48 (by kernel_rfl)
        obtain ⟨_, e46, rfl⟩ := hF.dp 15 46 (by kernel_rfl)
        exact ⟨wants0 rfl, run_store1 (by kernel_rfl) e48 e46 (by rw [hG.cell]; exact (Option.isSome_iff_exists.2 ⟨_, hA1.u32 (by omega)⟩)) (by rw [hG.frozen]; exact hA1.frozen _)⟩
      intro vs k1 hf
      clear hf
      simp only [putAll, Nat.zero_add, Nat.reduceAdd]
      have hA2 := (hA1.dr ⟨k1, rfl⟩).xor d a 16
      have hH2 := (hH1.dr ⟨k1, rfl⟩).other (a := ⟨g, d, none⟩) hhg (.int .u32 (leftU (s1.getD d 0 ^^^ s1.getD a 0) 16).toNat)
      have hB2 := hB1.trans ((below_dr ⟨k1, rfl⟩).trans (below_setCell (a := ⟨g, d, none⟩) (v := .int .u32 (leftU (s1.getD d 0 ^^^ s1.getD a 0) 16).toNat) (Nat.le_refl g)))
      obtain ⟨s2, hs2⟩ : ∃ z, z = xorS s1 d a 16 := ⟨_, rfl⟩
      have hl2 : s2.length = 16 := by rw [hs2]; simp [hl1]
      rw [← hs2] at hA2
      have HS2 := Lib.hid hs2
      generalize ((W1.drewN k1).setCell _ _) = W2 at hA2 hH2 hB2 ⊢
      clear hs2 hA1 hH1 hB1
      go_simp
      go_wp2_with fail
      refine wp_region_st (by kernel_rfl) [IsV (.pointer (some ⟨g, 0, none⟩)), IsV (.int .i64 (c : Nat)), IsV (.pointer (some ⟨g, 0, none⟩)), IsV (.pointer (some ⟨g, c, none⟩)), IsV (.int .u32 (s2.getD c 0).toNat), IsV (.pointer (some ⟨g, 0, none⟩)), IsV (.int .i64 (d : Nat)), IsV (.pointer (some ⟨g, 0, none⟩)), IsV (.pointer (some ⟨g, d, none⟩)), IsV (.int .u32 (s2.getD d 0).toNat), IsV (.int .u32 ((s2.getD c 0 + s2.getD d 0)).toNat), IsV (.pointer (some ⟨g, 0, none⟩)), IsV (.pointer (some ⟨g, c, none⟩))] 13 _ rfl rfl rfl (by kernel_rfl) (by kernel_rfl) ?_ (⟨g, c, none⟩ : Addr) (.int .u32 ((s2.getD c 0 + s2.getD d 0)).toNat) ?_ ?_ ?_
      · intro φ hφ
        simp only [List.mem_cons, List.not_mem_nil, or_false] at hφ
        rcases hφ with rfl | rfl | rfl | rfl | rfl | rfl | rfl | rfl | rfl | rfl | rfl | rfl | rfl <;> exact ⟨_, rfl⟩
      · refine ⟨?_, ?_, ?_, ?_, ?_, ?_, ?_, ?_, ?_, ?_, ?_, ?_, ?_, trivial⟩
        · intro a1 w1 hG hF
          exact d_old rfl (wants0 rfl) (.tmp 0) (.inr rfl) (.pointer (some ⟨g, 0, none⟩)) (hF.ol 0 (by kernel_rfl)) rfl
        · intro a1 w1 hG hF
          exact d_old rfl (wants0 rfl) (.tmp 3) (.inr rfl) (.int .i64 (c : Nat)) (hF.ol 3 (by kernel_rfl)) rfl
        · intro a1 w1 hG hF
          obtain ⟨_, e49, rfl⟩ := hF.dp 0 49 (by kernel_rfl)
          exact d_is rfl (wants0 rfl) _ rfl (run_nil e49)
        · intro a1 w1 hG hF
          obtain ⟨_, e51, rfl⟩ := hF.dp 2 51 (by kernel_rfl)
          obtain ⟨_, e50, rfl⟩ := hF.dp 1 50 (by kernel_rfl)
          exact d_is rfl (wants0 rfl) _ rfl (run_idx Try.underlying58 (by kernel_rfl) e51 e50 (by omega))
        · intro a1 w1 hG hF
          obtain ⟨_, e52, rfl⟩ := hF.dp 3 52 (by kernel_rfl)
          exact d_is rfl (wants0 rfl) _ rfl (run_load1 Try.underlying43 e52 ((hG.cell _).trans (hA2.u32 (by omega))))
        · intro a1 w1 hG hF
          exact d_old rfl (wants0 rfl) (.tmp 0) (.inr rfl) (.pointer (some ⟨g, 0, none⟩)) (hF.ol 0 (by kernel_rfl)) rfl
        · intro a1 w1 hG hF
          exact d_old rfl (wants0 rfl) (.tmp 4) (.inr rfl) (.int .i64 (d : Nat)) (hF.ol 4 (by kernel_rfl)) rfl
        · intro a1 w1 hG hF
          obtain ⟨_, e54, rfl⟩ := hF.dp 5 54 (by kernel_rfl)
          exact d_is rfl (wants0 rfl) _ rfl (run_nil e54)
        · intro a1 w1 hG hF
          obtain ⟨_, e56, rfl⟩ := hF.dp 7 56 (by kernel_rfl)
          obtain ⟨_, e55, rfl⟩ := hF.dp 6 55 (by kernel_rfl)
          exact d_is rfl (wants0 rfl) _ rfl (run_idx Try.underlying58 (by kernel_rfl) e56 e55 (by omega))
        · intro a1 w1 hG hF
          obtain ⟨_, e57, rfl⟩ := hF.dp 8 57 (by kernel_rfl)
          exact d_is rfl (wants0 rfl) _ rfl (run_load1 Try.underlying43 e57 ((hG.cell _).trans (hA2.u32 (by omega))))
        · intro a1 w1 hG hF
          obtain ⟨_, e53, rfl⟩ := hF.dp 4 53 (by kernel_rfl)
          obtain ⟨_, e58, rfl⟩ := hF.dp 9 58 (by kernel_rfl)
          exact d_is rfl (wants0 rfl) _ rfl (run_add32 e53 e58)
        · intro a1 w1 hG hF
          obtain ⟨_, e49, rfl⟩ := hF.dp 0 49 (by kernel_rfl)
          exact d_is rfl (wants0 rfl) _ rfl (run_nil e49)
        · intro a1 w1 hG hF
          obtain ⟨_, e60, rfl⟩ := hF.dp 11 60 (by kernel_rfl)
          obtain ⟨_, e50, rfl⟩ := hF.dp 1 50 (by kernel_rfl)
          exact d_is rfl (wants0 rfl) _ rfl (run_idx Try.underlying58 (by kernel_rfl) e60 e50 (by omega))
      · intro a1 w1 hG hF
        obtain ⟨_, e61, rfl⟩ := hF.dp 12 61 (by kernel_rfl)
        obtain ⟨_, e59, rfl⟩ := hF.dp 10 59 (by kernel_rfl)
        exact ⟨wants0 rfl, run_store1 (by kernel_rfl) e61 e59 (by rw [hG.cell]; exact (Option.isSome_iff_exists.2 ⟨_, hA2.u32 (by omega)⟩)) (by rw [hG.frozen]; exact hA2.frozen _)⟩
      intro vs k2 hf
      clear hf
      simp only [putAll, Nat.zero_add, Nat.reduceAdd]
      have hA3 := (hA2.dr ⟨k2, rfl⟩).add c d
      have hH3 := (hH2.dr ⟨k2, rfl⟩).other (a := ⟨g, c, none⟩) hhg (.int .u32 (s2.getD c 0 + s2.getD d 0).toNat)
      have hB3 := hB2.trans ((below_dr ⟨k2, rfl⟩).trans (below_setCell (a := ⟨g, c, none⟩) (v := .int .u32 (s2.getD c 0 + s2.getD d 0).toNat) (Nat.le_refl g)))
      obtain ⟨s3, hs3⟩ : ∃ z, z = addS s2 c d := ⟨_, rfl⟩
      have hl3 : s3.length = 16 := by rw [hs3]; simp [hl2]
      rw [← hs3] at hA3
      have HS3 := Lib.hid hs3
      generalize ((W2.drewN k2).setCell _ _) = W3 at hA3 hH3 hB3 ⊢
      clear hs3 hA2 hH2 hB2
      go_simp
      go_wp2_with fail
      refine wp_region_st (by kernel_rfl) [IsV (.pointer (some ⟨g, 0, none⟩)), IsV (.int .i64 (b : Nat)), IsV (.pointer (some ⟨g, 0, none⟩)), IsV (.int .i64 (b : Nat)), IsV (.pointer (some ⟨g, 0, none⟩)), IsV (.pointer (some ⟨g, b, none⟩)), IsV (.int .u32 (s3.getD b 0).toNat), IsV (.pointer (some ⟨g, 0, none⟩)), IsV (.int .i64 (c : Nat)), IsV (.pointer (some ⟨g, 0, none⟩)), IsV (.pointer (some ⟨g, c, none⟩)), IsV (.int .u32 (s3.getD c 0).toNat), IsV (.int .u32 ((s3.getD b 0 ^^^ s3.getD c 0)).toNat), IsV (.pointer (some ⟨h, 1, none⟩)), IsV (.int .i64 (12)), IsV (.int .u32 (leftU (s3.getD b 0 ^^^ s3.getD c 0) 12).toNat), IsV (.pointer (some ⟨g, 0, none⟩)), IsV (.pointer (some ⟨g, b, none⟩))] 18 _ rfl rfl rfl (by kernel_rfl) (by kernel_rfl) ?_ (⟨g, b, none⟩ : Addr) (.int .u32 (leftU (s3.getD b 0 ^^^ s3.getD c 0) 12).toNat) ?_ ?_ ?_
      · intro φ hφ
        simp only [List.mem_cons, List.not_mem_nil, or_false] at hφ
        rcases hφ with rfl | rfl | rfl | rfl | rfl | rfl | rfl | rfl | rfl | rfl | rfl | rfl | rfl | rfl | rfl | rfl | rfl | rfl <;> exact ⟨_, rfl⟩
      · refine ⟨?_, ?_, ?_, ?_, ?_, ?_, ?_, ?_, ?_, ?_, ?_, ?_, ?_, ?_, ?_, ?_, ?_, ?_, trivial⟩
        · intro a1 w1 hG hF
          exact d_old rfl (wants0 rfl) (.tmp 0) (.inr rfl) (.pointer (some ⟨g, 0, none⟩)) (hF.ol 0 (by kernel_rfl)) rfl
        · intro a1 w1 hG hF
          exact d_old rfl (wants0 rfl) (.tmp 2) (.inr rfl) (.int .i64 (b : Nat)) (hF.ol 2 (by kernel_rfl)) rfl
        · intro a1 w1 hG hF
          exact d_old rfl (wants0 rfl) (.tmp 0) (.inr rfl) (.pointer (some ⟨g, 0, none⟩)) (hF.ol 0 (by kernel_rfl)) rfl
        · intro a1 w1 hG hF
          exact d_old rfl (wants0 rfl) (.tmp 2) (.inr rfl) (.int .i64 (b : Nat)) (hF.ol 2 (by kernel_rfl)) rfl
        · intro a1 w1 hG hF
          obtain ⟨_, e64, rfl⟩ := hF.dp 2 64 (by kernel_rfl)
          exact d_is rfl (wants0 rfl) _ rfl (run_nil e64)
        · intro a1 w1 hG hF
          obtain ⟨_, e66, rfl⟩ := hF.dp 4 66 (by kernel_rfl)
          obtain ⟨_, e65, rfl⟩ := hF.dp 3 65 (by kernel_rfl)
          exact d_is rfl (wants0 rfl) _ rfl (run_idx Try.underlying58 (by kernel_rfl) e66 e65 (by omega))
        · intro a1 w1 hG hF
          obtain ⟨_, e67, rfl⟩ := hF.dp 5 67 (by kernel_rfl)
          exact d_is rfl (wants0 rfl) _ rfl (run_load1 Try.underlying43 e67 ((hG.cell _).trans (hA3.u32 (by omega))))
        · intro a1 w1 hG hF
          exact d_old rfl (wants0 rfl) (.tmp 0) (.inr rfl) (.pointer (some ⟨g, 0, none⟩)) (hF.ol 0 (by kernel_rfl)) rfl
        · intro a1 w1 hG hF
          exact d_old rfl (wants0 rfl) (.tmp 3) (.inr rfl) (.int .i64 (c : Nat)) (hF.ol 3 (by kernel_rfl)) rfl
        · intro a1 w1 hG hF
          obtain ⟨_, e69, rfl⟩ := hF.dp 7 69 (by kernel_rfl)
          exact d_is rfl (wants0 rfl) _ rfl (run_nil e69)
        · intro a1 w1 hG hF
          obtain ⟨_, e71, rfl⟩ := hF.dp 9 71 (by kernel_rfl)
          obtain ⟨_, e70, rfl⟩ := hF.dp 8 70 (by kernel_rfl)
          exact d_is rfl (wants0 rfl) _ rfl (run_idx Try.underlying58 (by kernel_rfl) e71 e70 (by omega))
        · intro a1 w1 hG hF
          obtain ⟨_, e72, rfl⟩ := hF.dp 10 72 (by kernel_rfl)
          exact d_is rfl (wants0 rfl) _ rfl (run_load1 Try.underlying43 e72 ((hG.cell _).trans (hA3.u32 (by omega))))
        · intro a1 w1 hG hF
          obtain ⟨_, e68, rfl⟩ := hF.dp 6 68 (by kernel_rfl)
          obtain ⟨_, e73, rfl⟩ := hF.dp 11 73 (by kernel_rfl)
          exact d_is rfl (wants0 rfl) _ rfl (run_xor32 e68 e73)
        · intro a1 w1 hG hF
          have e11 : a1.eval (.tmp 11) = .pointer (some ⟨h, 0, none⟩) := hF.ol 11 (by kernel_rfl)
          exact d_is rfl (wants0 rfl) _ rfl (run_idx (i := 1) Try.underlying84 (by kernel_rfl) e11 rfl (by omega))
        · intro a1 w1 hG hF
          obtain ⟨_, e75, rfl⟩ := hF.dp 13 75 (by kernel_rfl)
          exact d_is rfl (wants0 rfl) _ rfl (run_load1 Try.underlying3 e75 ((hG.cell _).trans (hH3.cell rfl)))
        · intro a1 w1 hG hF
          obtain ⟨_, e74, rfl⟩ := hF.dp 12 74 (by kernel_rfl)
          obtain ⟨_, e76, rfl⟩ := hF.dp 14 76 (by kernel_rfl)
          exact d_call rfl (wants0 rfl) _ rfl _ _ (by simp only [execOp, resolve, invoke, List.map_toArray, List.map_cons, List.map_nil, e74, e76]; go_simp) ((left_any _ _ w1).mono fun e w2 ⟨he, hw⟩ => ⟨he, hw ▸ Dr.refl _⟩)
        · intro a1 w1 hG hF
          obtain ⟨_, e62, rfl⟩ := hF.dp 0 62 (by kernel_rfl)
          exact d_is rfl (wants0 rfl) _ rfl (run_nil e62)
        · intro a1 w1 hG hF
          obtain ⟨_, e78, rfl⟩ := hF.dp 16 78 (by kernel_rfl)
          obtain ⟨_, e63, rfl⟩ := hF.dp 1 63 (by kernel_rfl)
          exact d_is rfl (wants0 rfl) _ rfl (run_idx Try.underlying58 (by kernel_rfl) e78 e63 (by omega))
      · intro a1 w1 hG hF
        obtain ⟨_, e79, rfl⟩ := hF.dp 17 79 (by kernel_rfl)
        obtain ⟨_, e77, rfl⟩ := hF.dp 15 77 (by kernel_rfl)
        exact ⟨wants0 rfl, run_store1 (by kernel_rfl) e79 e77 (by rw [hG.cell]; exact (Option.isSome_iff_exists.2 ⟨_, hA3.u32 (by omega)⟩)) (by rw [hG.frozen]; exact hA3.frozen _)⟩
      intro vs k3 hf
      clear hf
      simp only [putAll, Nat.zero_add, Nat.reduceAdd]
      have hA4 := (hA3.dr ⟨k3, rfl⟩).xor b c 12
      have hH4 := (hH3.dr ⟨k3, rfl⟩).other (a := ⟨g, b, none⟩) hhg (.int .u32 (leftU (s3.getD b 0 ^^^ s3.getD c 0) 12).toNat)
      have hB4 := hB3.trans ((below_dr ⟨k3, rfl⟩).trans (below_setCell (a := ⟨g, b, none⟩) (v := .int .u32 (leftU (s3.getD b 0 ^^^ s3.getD c 0) 12).toNat) (Nat.le_refl g)))
      obtain ⟨s4, hs4⟩ : ∃ z, z = xorS s3 b c 12 := ⟨_, rfl⟩
      have hl4 : s4.length = 16 := by rw [hs4]; simp [hl3]
      rw [← hs4] at hA4
      have HS4 := Lib.hid hs4
      generalize ((W3.drewN k3).setCell _ _) = W4 at hA4 hH4 hB4 ⊢
      clear hs4 hA3 hH3 hB3
      go_simp
      go_wp2_with fail
      have he : qAt s a b c d 1 = s4 := by rw [HS4.out, HS3.out, HS2.out, HS1.out, HS0.out]; rfl
      exact ⟨⟨1, by omega, rfl, he ▸ hA4, hB4⟩, by simp [intOf]⟩
    · subst h1
      obtain ⟨s0, hs0⟩ : ∃ s0, s0 = qAt s a b c d 1 := ⟨_, rfl⟩
      have hl0 : s0.length = 16 := by rw [hs0, qAt_length, hs]
      rw [← hs0] at hAr
      have HS0 := Lib.hid hs0
      clear hs0
      go_wp2_with fail
      have hA0 := hAr.alloc (.cells #[.int .i64 8, .int .i64 7] 84)
      have hH0 : Arr (wr.alloc (.cells #[.int .i64 8, .int .i64 7] 84)) wr.heap.size 84 [.int .i64 8, .int .i64 7] := Arr.new wr _ _
      have hB0 : Below g w (wr.alloc (.cells #[.int .i64 8, .int .i64 7] 84)) := hBr.alloc (Nat.le_of_lt hAr.lt) _
      have hhg : wr.heap.size ≠ g := Nat.ne_of_gt hAr.lt
      generalize (wr.alloc (.cells #[.int .i64 8, .int .i64 7] 84)) = W0 at hA0 hH0 hB0 ⊢
      generalize wr.heap.size = h at hH0 hhg ⊢
      clear hAr hBr hx0 hx1 hA
      refine wp_region_st (by kernel_rfl) [IsV (.pointer (some ⟨g, 0, none⟩)), IsV (.int .i64 (a : Nat)), IsV (.pointer (some ⟨g, 0, none⟩)), IsV (.pointer (some ⟨g, a, none⟩)), IsV (.int .u32 (s0.getD a 0).toNat), IsV (.pointer (some ⟨g, 0, none⟩)), IsV (.int .i64 (b : Nat)), IsV (.pointer (some ⟨g, 0, none⟩)), IsV (.pointer (some ⟨g, b, none⟩)), IsV (.int .u32 (s0.getD b 0).toNat), IsV (.int .u32 ((s0.getD a 0 + s0.getD b 0)).toNat), IsV (.pointer (some ⟨g, 0, none⟩)), IsV (.pointer (some ⟨g, a, none⟩))] 13 _ rfl rfl rfl (by kernel_rfl) (by kernel_rfl) ?_ (⟨g, a, none⟩ : Addr) (.int .u32 ((s0.getD a 0 + s0.getD b 0)).toNat) ?_ ?_ ?_
      · intro φ hφ
        simp only [List.mem_cons, List.not_mem_nil, or_false] at hφ
        rcases hφ with rfl | rfl | rfl | rfl | rfl | rfl | rfl | rfl | rfl | rfl | rfl | rfl | rfl <;> exact ⟨_, rfl⟩
      · refine ⟨?_, ?_, ?_, ?_, ?_, ?_, ?_, ?_, ?_, ?_, ?_, ?_, ?_, trivial⟩
        · intro a1 w1 hG hF
          exact d_old rfl (wants0 rfl) (.tmp 0) (.inr rfl) (.pointer (some ⟨g, 0, none⟩)) (hF.ol 0 (by kernel_rfl)) rfl
        · intro a1 w1 hG hF
          exact d_old rfl (wants0 rfl) (.tmp 1) (.inr rfl) (.int .i64 (a : Nat)) (hF.ol 1 (by kernel_rfl)) rfl
        · intro a1 w1 hG hF
          obtain ⟨_, e18, rfl⟩ := hF.dp 0 18 (by kernel_rfl)
          exact d_is rfl (wants0 rfl) _ rfl (run_nil e18)
        · intro a1 w1 hG hF
          obtain ⟨_, e20, rfl⟩ := hF.dp 2 20 (by kernel_rfl)
          obtain ⟨_, e19, rfl⟩ := hF.dp 1 19 (by kernel_rfl)
          exact d_is rfl (wants0 rfl) _ rfl (run_idx Try.underlying58 (by kernel_rfl) e20 e19 (by omega))
        · intro a1 w1 hG hF
          obtain ⟨_, e21, rfl⟩ := hF.dp 3 21 (by kernel_rfl)
          exact d_is rfl (wants0 rfl) _ rfl (run_load1 Try.underlying43 e21 ((hG.cell _).trans (hA0.u32 (by omega))))
        · intro a1 w1 hG hF
          exact d_old rfl (wants0 rfl) (.tmp 0) (.inr rfl) (.pointer (some ⟨g, 0, none⟩)) (hF.ol 0 (by kernel_rfl)) rfl
        · intro a1 w1 hG hF
          exact d_old rfl (wants0 rfl) (.tmp 2) (.inr rfl) (.int .i64 (b : Nat)) (hF.ol 2 (by kernel_rfl)) rfl
        · intro a1 w1 hG hF
          obtain ⟨_, e23, rfl⟩ := hF.dp 5 23 (by kernel_rfl)
          exact d_is rfl (wants0 rfl) _ rfl (run_nil e23)
        · intro a1 w1 hG hF
          obtain ⟨_, e25, rfl⟩ := hF.dp 7 25 (by kernel_rfl)
          obtain ⟨_, e24, rfl⟩ := hF.dp 6 24 (by kernel_rfl)
          exact d_is rfl (wants0 rfl) _ rfl (run_idx Try.underlying58 (by kernel_rfl) e25 e24 (by omega))
        · intro a1 w1 hG hF
          obtain ⟨_, e26, rfl⟩ := hF.dp 8 26 (by kernel_rfl)
          exact d_is rfl (wants0 rfl) _ rfl (run_load1 Try.underlying43 e26 ((hG.cell _).trans (hA0.u32 (by omega))))
        · intro a1 w1 hG hF
          obtain ⟨_, e22, rfl⟩ := hF.dp 4 22 (by kernel_rfl)
          obtain ⟨_, e27, rfl⟩ := hF.dp 9 27 (by kernel_rfl)
          exact d_is rfl (wants0 rfl) _ rfl (run_add32 e22 e27)
        · intro a1 w1 hG hF
          obtain ⟨_, e18, rfl⟩ := hF.dp 0 18 (by kernel_rfl)
          exact d_is rfl (wants0 rfl) _ rfl (run_nil e18)
        · intro a1 w1 hG hF
          obtain ⟨_, e29, rfl⟩ := hF.dp 11 29 (by kernel_rfl)
          obtain ⟨_, e19, rfl⟩ := hF.dp 1 19 (by kernel_rfl)
          exact d_is rfl (wants0 rfl) _ rfl (run_idx Try.underlying58 (by kernel_rfl) e29 e19 (by omega))
      · intro a1 w1 hG hF
        obtain ⟨_, e30, rfl⟩ := hF.dp 12 30 (by kernel_rfl)
        obtain ⟨_, e28, rfl⟩ := hF.dp 10 28 (by kernel_rfl)
        exact ⟨wants0 rfl, run_store1 (by kernel_rfl) e30 e28 (by rw [hG.cell]; exact (Option.isSome_iff_exists.2 ⟨_, hA0.u32 (by omega)⟩)) (by rw [hG.frozen]; exact hA0.frozen _)⟩
      intro vs k0 hf
      clear hf
      simp only [putAll, Nat.zero_add, Nat.reduceAdd]
      have hA1 := (hA0.dr ⟨k0, rfl⟩).add a b
      have hH1 := (hH0.dr ⟨k0, rfl⟩).other (a := ⟨g, a, none⟩) hhg (.int .u32 (s0.getD a 0 + s0.getD b 0).toNat)
      have hB1 := hB0.trans ((below_dr ⟨k0, rfl⟩).trans (below_setCell (a := ⟨g, a, none⟩) (v := .int .u32 (s0.getD a 0 + s0.getD b 0).toNat) (Nat.le_refl g)))
      obtain ⟨s1, hs1⟩ : ∃ z, z = addS s0 a b := ⟨_, rfl⟩
      have hl1 : s1.length = 16 := by rw [hs1]; simp [hl0]
      rw [← hs1] at hA1
      have HS1 := Lib.hid hs1
      generalize ((W0.drewN k0).setCell _ _) = W1 at hA1 hH1 hB1 ⊢
      clear hs1 hA0 hH0 hB0
      go_simp
      go_wp2_with fail
      refine wp_region_st (by kernel_rfl) [IsV (.pointer (some ⟨g, 0, none⟩)), IsV (.int .i64 (d : Nat)), IsV (.pointer (some ⟨g, 0, none⟩)), IsV (.int .i64 (d : Nat)), IsV (.pointer (some ⟨g, 0, none⟩)), IsV (.pointer (some ⟨g, d, none⟩)), IsV (.int .u32 (s1.getD d 0).toNat), IsV (.pointer (some ⟨g, 0, none⟩)), IsV (.int .i64 (a : Nat)), IsV (.pointer (some ⟨g, 0, none⟩)), IsV (.pointer (some ⟨g, a, none⟩)), IsV (.int .u32 (s1.getD a 0).toNat), IsV (.int .u32 ((s1.getD d 0 ^^^ s1.getD a 0)).toNat), IsV (.pointer (some ⟨h, 0, none⟩)), IsV (.int .i64 (8)), IsV (.int .u32 (leftU (s1.getD d 0 ^^^ s1.getD a 0) 8).toNat), IsV (.pointer (some ⟨g, 0, none⟩)), IsV (.pointer (some ⟨g, d, none⟩))] 18 _ rfl rfl rfl (by kernel_rfl) (by kernel_rfl) ?_ (⟨g, d, none⟩ : Addr) (.int .u32 (leftU (s1.getD d 0 ^^^ s1.getD a 0) 8).toNat) ?_ ?_ ?_
      · intro φ hφ
        simp only [List.mem_cons, List.not_mem_nil, or_false] at hφ
        rcases hφ with rfl | rfl | rfl | rfl | rfl | rfl | rfl | rfl | rfl | rfl | rfl | rfl | rfl | rfl | rfl | rfl | rfl | rfl <;> exact ⟨_, rfl⟩
      · refine ⟨?_, ?_, ?_, ?_, ?_, ?_, ?_, ?_, ?_, ?_, ?_, ?_, ?_, ?_, ?_, ?_, ?_, ?_, trivial⟩
        · intro a1 w1 hG hF
          exact d_old rfl (wants0 rfl) (.tmp 0) (.inr rfl) (.pointer (some ⟨g, 0, none⟩)) (hF.ol 0 (by kernel_rfl)) rfl
        · intro a1 w1 hG hF
          exact d_old rfl (wants0 rfl) (.tmp 4) (.inr rfl) (.int .i64 (d : Nat)) (hF.ol 4 (by kernel_rfl)) rfl
        · intro a1 w1 hG hF
          exact d_old rfl (wants0 rfl) (.tmp 0) (.inr rfl) (.pointer (some ⟨g, 0, none⟩)) (hF.ol 0 (by kernel_rfl)) rfl
        · intro a1 w1 hG hF
          exact d_old rfl (wants0 rfl) (.tmp 4) (.inr rfl) (.int .i64 (d : Nat)) (hF.ol 4 (by kernel_rfl)) rfl
        · intro a1 w1 hG hF
          obtain ⟨_, e33, rfl⟩ := hF.dp 2 33 (by kernel_rfl)
          exact d_is rfl (wants0 rfl) _ rfl (run_nil e33)
        · intro a1 w1 hG hF
          obtain ⟨_, e35, rfl⟩ := hF.dp 4 35 (by kernel_rfl)
          obtain ⟨_, e34, rfl⟩ := hF.dp 3 34 (by kernel_rfl)
          exact d_is rfl (wants0 rfl) _ rfl (run_idx Try.underlying58 (by kernel_rfl) e35 e34 (by omega))
        · intro a1 w1 hG hF
          obtain ⟨_, e36, rfl⟩ := hF.dp 5 36 (by kernel_rfl)
          exact d_is rfl (wants0 rfl) _ rfl (run_load1 Try.underlying43 e36 ((hG.cell _).trans (hA1.u32 (by omega))))
        · intro a1 w1 hG hF
          exact d_old rfl (wants0 rfl) (.tmp 0) (.inr rfl) (.pointer (some ⟨g, 0, none⟩)) (hF.ol 0 (by kernel_rfl)) rfl
        · intro a1 w1 hG hF
          exact d_old rfl (wants0 rfl) (.tmp 1) (.inr rfl) (.int .i64 (a : Nat)) (hF.ol 1 (by kernel_rfl)) rfl
        · intro a1 w1 hG hF
          obtain ⟨_, e38, rfl⟩ := hF.dp 7 38 (by kernel_rfl)
          exact d_is rfl (wants0 rfl) _ rfl (run_nil e38)
        · intro a1 w1 hG hF
          obtain ⟨_, e40, rfl⟩ := hF.dp 9 40 (by kernel_rfl)
          obtain ⟨_, e39, rfl⟩ := hF.dp 8 39 (by kernel_rfl)
          exact d_is rfl (wants0 rfl) _ rfl (run_idx Try.underlying58 (by kernel_rfl) e40 e39 (by omega))
        · intro a1 w1 hG hF
          obtain ⟨_, e41, rfl⟩ := hF.dp 10 41 (by kernel_rfl)
          exact d_is rfl (wants0 rfl) _ rfl (run_load1 Try.underlying43 e41 ((hG.cell _).trans (hA1.u32 (by omega))))
        · intro a1 w1 hG hF
          obtain ⟨_, e37, rfl⟩ := hF.dp 6 37 (by kernel_rfl)
          obtain ⟨_, e42, rfl⟩ := hF.dp 11 42 (by kernel_rfl)
          exact d_is rfl (wants0 rfl) _ rfl (run_xor32 e37 e42)
        · intro a1 w1 hG hF
          have e11 : a1.eval (.tmp 11) = .pointer (some ⟨h, 0, none⟩) := hF.ol 11 (by kernel_rfl)
          exact d_is rfl (wants0 rfl) _ rfl (run_idx (i := 0) Try.underlying84 (by kernel_rfl) e11 rfl (by omega))
        · intro a1 w1 hG hF
          obtain ⟨_, e44, rfl⟩ := hF.dp 13 44 (by kernel_rfl)
          exact d_is rfl (wants0 rfl) _ rfl (run_load1 Try.underlying3 e44 ((hG.cell _).trans (hH1.cell rfl)))
        · intro a1 w1 hG hF
          obtain ⟨_, e43, rfl⟩ := hF.dp 12 43 (by kernel_rfl)
          obtain ⟨_, e45, rfl⟩ := hF.dp 14 45 (by kernel_rfl)
          exact d_call rfl (wants0 rfl) _ rfl _ _ (by simp only [execOp, resolve, invoke, List.map_toArray, List.map_cons, List.map_nil, e43, e45]; go_simp) ((left_any _ _ w1).mono fun e w2 ⟨he, hw⟩ => ⟨he, hw ▸ Dr.refl _⟩)
        · intro a1 w1 hG hF
          obtain ⟨_, e31, rfl⟩ := hF.dp 0 31 (by kernel_rfl)
          exact d_is rfl (wants0 rfl) _ rfl (run_nil e31)
        · intro a1 w1 hG hF
          obtain ⟨_, e47, rfl⟩ := hF.dp 16 47 (by kernel_rfl)
          obtain ⟨_, e32, rfl⟩ := hF.dp 1 32 (by kernel_rfl)
          exact d_is rfl (wants0 rfl) _ rfl (run_idx Try.underlying58 (by kernel_rfl) e47 e32 (by omega))
      · intro a1 w1 hG hF
        obtain ⟨_, e48, rfl⟩ := hF.dp 17 48 (by kernel_rfl)
        obtain ⟨_, e46, rfl⟩ := hF.dp 15 46 (by kernel_rfl)
        exact ⟨wants0 rfl, run_store1 (by kernel_rfl) e48 e46 (by rw [hG.cell]; exact (Option.isSome_iff_exists.2 ⟨_, hA1.u32 (by omega)⟩)) (by rw [hG.frozen]; exact hA1.frozen _)⟩
      intro vs k1 hf
      clear hf
      simp only [putAll, Nat.zero_add, Nat.reduceAdd]
      have hA2 := (hA1.dr ⟨k1, rfl⟩).xor d a 8
      have hH2 := (hH1.dr ⟨k1, rfl⟩).other (a := ⟨g, d, none⟩) hhg (.int .u32 (leftU (s1.getD d 0 ^^^ s1.getD a 0) 8).toNat)
      have hB2 := hB1.trans ((below_dr ⟨k1, rfl⟩).trans (below_setCell (a := ⟨g, d, none⟩) (v := .int .u32 (leftU (s1.getD d 0 ^^^ s1.getD a 0) 8).toNat) (Nat.le_refl g)))
      obtain ⟨s2, hs2⟩ : ∃ z, z = xorS s1 d a 8 := ⟨_, rfl⟩
      have hl2 : s2.length = 16 := by rw [hs2]; simp [hl1]
      rw [← hs2] at hA2
      have HS2 := Lib.hid hs2
      generalize ((W1.drewN k1).setCell _ _) = W2 at hA2 hH2 hB2 ⊢
      clear hs2 hA1 hH1 hB1
      go_simp
      go_wp2_with fail
      refine wp_region_st (by kernel_rfl) [IsV (.pointer (some ⟨g, 0, none⟩)), IsV (.int .i64 (c : Nat)), IsV (.pointer (some ⟨g, 0, none⟩)), IsV (.pointer (some ⟨g, c, none⟩)), IsV (.int .u32 (s2.getD c 0).toNat), IsV (.pointer (some ⟨g, 0, none⟩)), IsV (.int .i64 (d : Nat)), IsV (.pointer (some ⟨g, 0, none⟩)), IsV (.pointer (some ⟨g, d, none⟩)), IsV (.int .u32 (s2.getD d 0).toNat), IsV (.int .u32 ((s2.getD c 0 + s2.getD d 0)).toNat), IsV (.pointer (some ⟨g, 0, none⟩)), IsV (.pointer (some ⟨g, c, none⟩))] 13 _ rfl rfl rfl (by kernel_rfl) (by kernel_rfl) ?_ (⟨g, c, none⟩ : Addr) (.int .u32 ((s2.getD c 0 + s2.getD d 0)).toNat) ?_ ?_ ?_
      · intro φ hφ
        simp only [List.mem_cons, List.not_mem_nil, or_false] at hφ
        rcases hφ with rfl | rfl | rfl | rfl | rfl | rfl | rfl | rfl | rfl | rfl | rfl | rfl | rfl <;> exact ⟨_, rfl⟩
      · refine ⟨?_, ?_, ?_, ?_, ?_, ?_, ?_, ?_, ?_, ?_, ?_, ?_, ?_, trivial⟩
        · intro a1 w1 hG hF
          exact d_old rfl (wants0 rfl) (.tmp 0) (.inr rfl) (.pointer (some ⟨g, 0, none⟩)) (hF.ol 0 (by kernel_rfl)) rfl
        · intro a1 w1 hG hF
          exact d_old rfl (wants0 rfl) (.tmp 3) (.inr rfl) (.int .i64 (c : Nat)) (hF.ol 3 (by kernel_rfl)) rfl
        · intro a1 w1 hG hF
          obtain ⟨_, e49, rfl⟩ := hF.dp 0 49 (by kernel_rfl)
          exact d_is rfl (wants0 rfl) _ rfl (run_nil e49)
        · intro a1 w1 hG hF
          obtain ⟨_, e51, rfl⟩ := hF.dp 2 51 (by kernel_rfl)
          obtain ⟨_, e50, rfl⟩ := hF.dp 1 50 (by kernel_rfl)
          exact d_is rfl (wants0 rfl) _ rfl (run_idx Try.underlying58 (by kernel_rfl) e51 e50 (by omega))
        · intro a1 w1 hG hF
          obtain ⟨_, e52, rfl⟩ := hF.dp 3 52 (by kernel_rfl)
          exact d_is rfl (wants0 rfl) _ rfl (run_load1 Try.underlying43 e52 ((hG.cell _).trans (hA2.u32 (by omega))))
        · intro a1 w1 hG hF
          exact d_old rfl (wants0 rfl) (.tmp 0) (.inr rfl) (.pointer (some ⟨g, 0, none⟩)) (hF.ol 0 (by kernel_rfl)) rfl
        · intro a1 w1 hG hF
          exact d_old rfl (wants0 rfl) (.tmp 4) (.inr rfl) (.int .i64 (d : Nat)) (hF.ol 4 (by kernel_rfl)) rfl
        · intro a1 w1 hG hF
          obtain ⟨_, e54, rfl⟩ := hF.dp 5 54 (by kernel_rfl)
          exact d_is rfl (wants0 rfl) _ rfl (run_nil e54)
        · intro a1 w1 hG hF
          obtain ⟨_, e56, rfl⟩ := hF.dp 7 56 (by kernel_rfl)
          obtain ⟨_, e55, rfl⟩ := hF.dp 6 55 (by kernel_rfl)
          exact d_is rfl (wants0 rfl) _ rfl (run_idx Try.underlying58 (by kernel_rfl) e56 e55 (by omega))
        · intro a1 w1 hG hF
          obtain ⟨_, e57, rfl⟩ := hF.dp 8 57 (by kernel_rfl)
          exact d_is rfl (wants0 rfl) _ rfl (run_load1 Try.underlying43 e57 ((hG.cell _).trans (hA2.u32 (by omega))))
        · intro a1 w1 hG hF
          obtain ⟨_, e53, rfl⟩ := hF.dp 4 53 (by kernel_rfl)
          obtain ⟨_, e58, rfl⟩ := hF.dp 9 58 (by kernel_rfl)
          exact d_is rfl (wants0 rfl) _ rfl (run_add32 e53 e58)
        · intro a1 w1 hG hF
          obtain ⟨_, e49, rfl⟩ := hF.dp 0 49 (by kernel_rfl)
          exact d_is rfl (wants0 rfl) _ rfl (run_nil e49)
        · intro a1 w1 hG hF
          obtain ⟨_, e60, rfl⟩ := hF.dp 11 60 (by kernel_rfl)
          obtain ⟨_, e50, rfl⟩ := hF.dp 1 50 (by kernel_rfl)
          exact d_is rfl (wants0 rfl) _ rfl (run_idx Try.underlying58 (by kernel_rfl) e60 e50 (by omega))
      · intro a1 w1 hG hF
        obtain ⟨_, e61, rfl⟩ := hF.dp 12 61 (by kernel_rfl)
        obtain ⟨_, e59, rfl⟩ := hF.dp 10 59 (by kernel_rfl)
        exact ⟨wants0 rfl, run_store1 (by kernel_rfl) e61 e59 (by rw [hG.cell]; exact (Option.isSome_iff_exists.2 ⟨_, hA2.u32 (by omega)⟩)) (by rw [hG.frozen]; exact hA2.frozen _)⟩
      intro vs k2 hf
      clear hf
      simp only [putAll, Nat.zero_add, Nat.reduceAdd]
      have hA3 := (hA2.dr ⟨k2, rfl⟩).add c d
      have hH3 := (hH2.dr ⟨k2, rfl⟩).other (a := ⟨g, c, none⟩) hhg (.int .u32 (s2.getD c 0 + s2.getD d 0).toNat)
      have hB3 := hB2.trans ((below_dr ⟨k2, rfl⟩).trans (below_setCell (a := ⟨g, c, none⟩) (v := .int .u32 (s2.getD c 0 + s2.getD d 0).toNat) (Nat.le_refl g)))
      obtain ⟨s3, hs3⟩ : ∃ z, z = addS s2 c d := ⟨_, rfl⟩
      have hl3 : s3.length = 16 := by rw [hs3]; simp [hl2]
      rw [← hs3] at hA3
      have HS3 := Lib.hid hs3
      generalize ((W2.drewN k2).setCell _ _) = W3 at hA3 hH3 hB3 ⊢
      clear hs3 hA2 hH2 hB2
      go_simp
      go_wp2_with fail
      refine wp_region_st (by kernel_rfl) [IsV (.pointer (some ⟨g, 0, none⟩)), IsV (.int .i64 (b : Nat)), IsV (.pointer (some ⟨g, 0, none⟩)), IsV (.int .i64 (b : Nat)), IsV (.pointer (some ⟨g, 0, none⟩)), IsV (.pointer (some ⟨g, b, none⟩)), IsV (.int .u32 (s3.getD b 0).toNat), IsV (.pointer (some ⟨g, 0, none⟩)), IsV (.int .i64 (c : Nat)), IsV (.pointer (some ⟨g, 0, none⟩)), IsV (.pointer (some ⟨g, c, none⟩)), IsV (.int .u32 (s3.getD c 0).toNat), IsV (.int .u32 ((s3.getD b 0 ^^^ s3.getD c 0)).toNat), IsV (.pointer (some ⟨h, 1, none⟩)), IsV (.int .i64 (7)), IsV (.int .u32 (leftU (s3.getD b 0 ^^^ s3.getD c 0) 7).toNat), IsV (.pointer (some ⟨g, 0, none⟩)), IsV (.pointer (some ⟨g, b, none⟩))] 18 _ rfl rfl rfl (by kernel_rfl) (by kernel_rfl) ?_ (⟨g, b, none⟩ : Addr) (.int .u32 (leftU (s3.getD b 0 ^^^ s3.getD c 0) 7).toNat) ?_ ?_ ?_
      · intro φ hφ
        simp only [List.mem_cons, List.not_mem_nil, or_false] at hφ
        rcases hφ with rfl | rfl | rfl | rfl | rfl | rfl | rfl | rfl | rfl | rfl | rfl | rfl | rfl | rfl | rfl | rfl | rfl | rfl <;> exact ⟨_, rfl⟩
      · refine ⟨?_, ?_, ?_, ?_, ?_, ?_, ?_, ?_, ?_, ?_, ?_, ?_, ?_, ?_, ?_, ?_, ?_, ?_, trivial⟩
        · intro a1 w1 hG hF
          exact d_old rfl (wants0 rfl) (.tmp 0) (.inr rfl) (.pointer (some ⟨g, 0, none⟩)) (hF.ol 0 (by kernel_rfl)) rfl
        · intro a1 w1 hG hF
          exact d_old rfl (wants0 rfl) (.tmp 2) (.inr rfl) (.int .i64 (b : Nat)) (hF.ol 2 (by kernel_rfl)) rfl
        · intro a1 w1 hG hF
          exact d_old rfl (wants0 rfl) (.tmp 0) (.inr rfl) (.pointer (some ⟨g, 0, none⟩)) (hF.ol 0 (by kernel_rfl)) rfl
        · intro a1 w1 hG hF
          exact d_old rfl (wants0 rfl) (.tmp 2) (.inr rfl) (.int .i64 (b : Nat)) (hF.ol 2 (by kernel_rfl)) rfl
        · intro a1 w1 hG hF
          obtain ⟨_, e64, rfl⟩ := hF.dp 2 64 (by kernel_rfl)
          exact d_is rfl (wants0 rfl) _ rfl (run_nil e64)
        · intro a1 w1 hG hF
          obtain ⟨_, e66, rfl⟩ := hF.dp 4 66 (by kernel_rfl)
          obtain ⟨_, e65, rfl⟩ := hF.dp 3 65 (by kernel_rfl)
          exact d_is rfl (wants0 rfl) _ rfl (run_idx Try.underlying58 (by kernel_rfl) e66 e65 (by omega))
        · intro a1 w1 hG hF
          obtain ⟨_, e67, rfl⟩ := hF.dp 5 67 (by kernel_rfl)
          exact d_is rfl (wants0 rfl) _ rfl (run_load1 Try.underlying43 e67 ((hG.cell _).trans (hA3.u32 (by omega))))
        · intro a1 w1 hG hF
          exact d_old rfl (wants0 rfl) (.tmp 0) (.inr rfl) (.pointer (some ⟨g, 0, none⟩)) (hF.ol 0 (by kernel_rfl)) rfl
        · intro a1 w1 hG hF
          exact d_old rfl (wants0 rfl) (.tmp 3) (.inr rfl) (.int .i64 (c : Nat)) (hF.ol 3 (by kernel_rfl)) rfl
        · intro a1 w1 hG hF
          obtain ⟨_, e69, rfl⟩ := hF.dp 7 69 (by kernel_rfl)
          exact d_is rfl (wants0 rfl) _ rfl (run_nil e69)
        · intro a1 w1 hG hF
          obtain ⟨_, e71, rfl⟩ := hF.dp 9 71 (by kernel_rfl)
          obtain ⟨_, e70, rfl⟩ := hF.dp 8 70 (by kernel_rfl)
          exact d_is rfl (wants0 rfl) _ rfl (run_idx Try.underlying58 (by kernel_rfl) e71 e70 (by omega))
        · intro a1 w1 hG hF
          obtain ⟨_, e72, rfl⟩ := hF.dp 10 72 (by kernel_rfl)
          exact d_is rfl (wants0 rfl) _ rfl (run_load1 Try.underlying43 e72 ((hG.cell _).trans (hA3.u32 (by omega))))
        · intro a1 w1 hG hF
          obtain ⟨_, e68, rfl⟩ := hF.dp 6 68 (by kernel_rfl)
          obtain ⟨_, e73, rfl⟩ := hF.dp 11 73 (by kernel_rfl)
          exact d_is rfl (wants0 rfl) _ rfl (run_xor32 e68 e73)
        · intro a1 w1 hG hF
          have e11 : a1.eval (.tmp 11) = .pointer (some ⟨h, 0, none⟩) := hF.ol 11 (by kernel_rfl)
          exact d_is rfl (wants0 rfl) _ rfl (run_idx (i := 1) Try.underlying84 (by kernel_rfl) e11 rfl (by omega))
        · intro a1 w1 hG hF
          obtain ⟨_, e75, rfl⟩ := hF.dp 13 75 (by kernel_rfl)
          exact d_is rfl (wants0 rfl) _ rfl (run_load1 Try.underlying3 e75 ((hG.cell _).trans (hH3.cell rfl)))
        · intro a1 w1 hG hF
          obtain ⟨_, e74, rfl⟩ := hF.dp 12 74 (by kernel_rfl)
          obtain ⟨_, e76, rfl⟩ := hF.dp 14 76 (by kernel_rfl)
          exact d_call rfl (wants0 rfl) _ rfl _ _ (by simp only [execOp, resolve, invoke, List.map_toArray, List.map_cons, List.map_nil, e74, e76]; go_simp) ((left_any _ _ w1).mono fun e w2 ⟨he, hw⟩ => ⟨he, hw ▸ Dr.refl _⟩)
        · intro a1 w1 hG hF
          obtain ⟨_, e62, rfl⟩ := hF.dp 0 62 (by kernel_rfl)
          exact d_is rfl (wants0 rfl) _ rfl (run_nil e62)
        · intro a1 w1 hG hF
          obtain ⟨_, e78, rfl⟩ := hF.dp 16 78 (by kernel_rfl)
          obtain ⟨_, e63, rfl⟩ := hF.dp 1 63 (by kernel_rfl)
          exact d_is rfl (wants0 rfl) _ rfl (run_idx Try.underlying58 (by kernel_rfl) e78 e63 (by omega))
      · intro a1 w1 hG hF
        obtain ⟨_, e79, rfl⟩ := hF.dp 17 79 (by kernel_rfl)
        obtain ⟨_, e77, rfl⟩ := hF.dp 15 77 (by kernel_rfl)
        exact ⟨wants0 rfl, run_store1 (by kernel_rfl) e79 e77 (by rw [hG.cell]; exact (Option.isSome_iff_exists.2 ⟨_, hA3.u32 (by omega)⟩)) (by rw [hG.frozen]; exact hA3.frozen _)⟩
      intro vs k3 hf
      clear hf
      simp only [putAll, Nat.zero_add, Nat.reduceAdd]
      have hA4 := (hA3.dr ⟨k3, rfl⟩).xor b c 7
      have hH4 := (hH3.dr ⟨k3, rfl⟩).other (a := ⟨g, b, none⟩) hhg (.int .u32 (leftU (s3.getD b 0 ^^^ s3.getD c 0) 7).toNat)
      have hB4 := hB3.trans ((below_dr ⟨k3, rfl⟩).trans (below_setCell (a := ⟨g, b, none⟩) (v := .int .u32 (leftU (s3.getD b 0 ^^^ s3.getD c 0) 7).toNat) (Nat.le_refl g)))
      obtain ⟨s4, hs4⟩ : ∃ z, z = xorS s3 b c 7 := ⟨_, rfl⟩
      have hl4 : s4.length = 16 := by rw [hs4]; simp [hl3]
      rw [← hs4] at hA4
      have HS4 := Lib.hid hs4
      generalize ((W3.drewN k3).setCell _ _) = W4 at hA4 hH4 hB4 ⊢
      clear hs4 hA3 hH3 hB3
      go_simp
      go_wp2_with fail
      have he : qAt s a b c d 2 = s4 := by rw [HS4.out, HS3.out, HS2.out, HS1.out, HS0.out]; rfl
      exact ⟨⟨2, by omega, rfl, he ▸ hA4, hB4⟩, by simp [intOf]⟩
    · subst h2
      clear hx0 hx1 hA
      go_wp2_with fail
      go_end0
      exact ⟨⟨_, rfl⟩, hAr, hBr⟩
end Go.Proofs.Ythffodfnnjejnaa
