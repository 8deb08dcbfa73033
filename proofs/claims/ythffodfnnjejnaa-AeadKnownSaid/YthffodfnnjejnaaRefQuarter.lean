/- The walk of the document's quarter. No condition. -/
import Derived.Test.YthffodfnnjejnaaKitA
import Derived.Test.YthffodfnnjejnaaChaP
namespace Go.Proofs.Ythffodfnnjejnaa
open Go.RowKit
set_option maxRecDepth 100000 in
set_option maxHeartbeats 4000000 in
theorem refQuarter_any (a b c d : Nat) (ha : a < 16) (hb : b < 16) (hc : c < 16) (hd : d < 16) (s : List UInt32) (hs : s.length = 16) (w : World) :
    Calls Try.prog 38 #[.agg (u32s s).toArray, .int .i64 a, .int .i64 b, .int .i64 c, .int .i64 d] w fun e w' => e = .returned (.agg (u32s (quarterL s a b c d)).toArray) ∧ Below w.heap.size w w' := by
  go_enter Try.func38, Try.ntmps38
  obtain ⟨s0, hs0⟩ : ∃ z, z = s := ⟨_, rfl⟩
  have hl0 : s0.length = 16 := by rw [hs0]; exact hs
  rw [← hs0]
  have HS0 := Lib.hid hs0
  clear hs0 hs
  go_wp2_with fail
  have hA0 : Arr ((w.alloc (.cells (u32s s0).toArray 57)).alloc (.cells (u32s (List.replicate 16 0)).toArray 57)) w.heap.size 57 (u32s s0) := (Arr.newAt rfl rfl).alloc _
  have hH0 : Arr ((w.alloc (.cells (u32s s0).toArray 57)).alloc (.cells (u32s (List.replicate 16 0)).toArray 57)) (w.heap.size + 1) 57 (u32s (List.replicate 16 0)) := Arr.newAt (asz _ _) rfl
  have hB0 : Below w.heap.size w ((w.alloc (.cells (u32s s0).toArray 57)).alloc (.cells (u32s (List.replicate 16 0)).toArray 57)) := ((Below.refl _ _).alloc (Nat.le_refl _) _).alloc (by rw [asz]; omega) _
  change Code.wp _ _ _ _ ((w.alloc (.cells (u32s s0).toArray 57)).alloc (.cells (u32s (List.replicate 16 0)).toArray 57))
  generalize ((w.alloc (.cells (u32s s0).toArray 57)).alloc (.cells (u32s (List.replicate 16 0)).toArray 57)) = W0 at hA0 hH0 hB0 ⊢
  obtain ⟨h, hh⟩ : ∃ h, h = w.heap.size + 1 := ⟨_, rfl⟩
  have hhg : h ≠ w.heap.size := by omega
  have hgh : w.heap.size ≤ h := by omega
  rw [← hh] at hH0
  rw [← hh]
  obtain ⟨g, hg⟩ : ∃ g, g = w.heap.size := ⟨_, rfl⟩
  rw [← hg] at hA0 hB0 hhg hgh
  rw [← hg]
  have HG := Lib.hid hg
  clear hg hh
  refine wp_region_st (by kernel_rfl) [IsV (.int .i64 (a : Nat)), IsV (.int .i64 (a : Nat)), IsV (.pointer (some ⟨g, a, none⟩)), IsV (.int .u32 (s0.getD a 0).toNat), IsV (.int .i64 (b : Nat)), IsV (.pointer (some ⟨g, b, none⟩)), IsV (.int .u32 (s0.getD b 0).toNat), IsV (.int .u32 ((s0.getD a 0 + s0.getD b 0)).toNat), IsV (.pointer (some ⟨g, a, none⟩))] 9 _ rfl rfl rfl (by kernel_rfl) (by kernel_rfl) ?_ (⟨g, a, none⟩ : Addr) (.int .u32 ((s0.getD a 0 + s0.getD b 0)).toNat) ?_ ?_ ?_
  · intro φ hφ
    simp only [List.mem_cons, List.not_mem_nil, or_false] at hφ
    rcases hφ with rfl | rfl | rfl | rfl | rfl | rfl | rfl | rfl | rfl <;> exact ⟨_, rfl⟩
  · refine ⟨?_, ?_, ?_, ?_, ?_, ?_, ?_, ?_, ?_, trivial⟩
    · intro a1 w1 hG hF
      exact d_old rfl (wants0 rfl) (.tmp 1) (.inr rfl) (.int .i64 (a : Nat)) (hF.ol 1 (by kernel_rfl)) rfl
    · intro a1 w1 hG hF
      exact d_old rfl (wants0 rfl) (.tmp 1) (.inr rfl) (.int .i64 (a : Nat)) (hF.ol 1 (by kernel_rfl)) rfl
    · intro a1 w1 hG hF
      have e5 : a1.eval (.tmp 5) = .pointer (some ⟨g, 0, none⟩) := hF.ol 5 (by kernel_rfl)
      obtain ⟨_, e12, rfl⟩ := hF.dp 1 12 (by kernel_rfl)
      exact d_is rfl (wants0 rfl) _ rfl (run_idx Try.underlying57 (by kernel_rfl) e5 e12 (by omega))
    · intro a1 w1 hG hF
      obtain ⟨_, e13, rfl⟩ := hF.dp 2 13 (by kernel_rfl)
      exact d_is rfl (wants0 rfl) _ rfl (run_load1 Try.underlying43 e13 ((hG.cell _).trans (hA0.u32 (by omega))))
    · intro a1 w1 hG hF
      exact d_old rfl (wants0 rfl) (.tmp 2) (.inr rfl) (.int .i64 (b : Nat)) (hF.ol 2 (by kernel_rfl)) rfl
    · intro a1 w1 hG hF
      have e5 : a1.eval (.tmp 5) = .pointer (some ⟨g, 0, none⟩) := hF.ol 5 (by kernel_rfl)
      obtain ⟨_, e15, rfl⟩ := hF.dp 4 15 (by kernel_rfl)
      exact d_is rfl (wants0 rfl) _ rfl (run_idx Try.underlying57 (by kernel_rfl) e5 e15 (by omega))
    · intro a1 w1 hG hF
      obtain ⟨_, e16, rfl⟩ := hF.dp 5 16 (by kernel_rfl)
      exact d_is rfl (wants0 rfl) _ rfl (run_load1 Try.underlying43 e16 ((hG.cell _).trans (hA0.u32 (by omega))))
    · intro a1 w1 hG hF
      obtain ⟨_, e14, rfl⟩ := hF.dp 3 14 (by kernel_rfl)
      obtain ⟨_, e17, rfl⟩ := hF.dp 6 17 (by kernel_rfl)
      exact d_is rfl (wants0 rfl) _ rfl (run_add32 e14 e17)
    · intro a1 w1 hG hF
      have e5 : a1.eval (.tmp 5) = .pointer (some ⟨g, 0, none⟩) := hF.ol 5 (by kernel_rfl)
      obtain ⟨_, e11, rfl⟩ := hF.dp 0 11 (by kernel_rfl)
      exact d_is rfl (wants0 rfl) _ rfl (run_idx Try.underlying57 (by kernel_rfl) e5 e11 (by omega))
  · intro a1 w1 hG hF
    obtain ⟨_, e19, rfl⟩ := hF.dp 8 19 (by kernel_rfl)
    obtain ⟨_, e18, rfl⟩ := hF.dp 7 18 (by kernel_rfl)
    exact ⟨wants0 rfl, run_store1 (by kernel_rfl) e19 e18 (by rw [hG.cell]; exact (Option.isSome_iff_exists.2 ⟨_, hA0.u32 (by omega)⟩)) (by rw [hG.frozen]; exact hA0.frozen _)⟩
  intro vs k0 hf
  clear hf
  simp only [putAll, Nat.zero_add, Nat.reduceAdd]
  have hA1 := (hA0.dr ⟨k0, rfl⟩).add a b
  have hH1 := (hH0.dr ⟨k0, rfl⟩).other (a := ⟨g, a, none⟩) hhg (.int .u32 (s0.getD a 0 + s0.getD b 0).toNat)
  have hB1 := hB0.trans ((below_dr ⟨k0, rfl⟩).trans (below_setCell (a := ⟨g, a, none⟩) (v := .int .u32 (s0.getD a 0 + s0.getD b 0).toNat) (Nat.le_refl g)))
  obtain ⟨s1, hs1⟩ : ∃ z, z = addS s0 a b := ⟨_, rfl⟩
  have hl1 : s1.length = 16 := by rw [hs1]; simp [hl0]
  rw [← hs1] at hA1
  have HS1 := Lib.hid hs1
  generalize ((W0.drewN k0).setCell _ _) = W1 at hA1 hH1 hB1 ⊢
  clear hs1 hA0 hH0 hB0
  go_simp
  go_wp2_with fail
  refine wp_region_st (by kernel_rfl) [IsV (.int .i64 (d : Nat)), IsV (.int .i64 (d : Nat)), IsV (.pointer (some ⟨g, d, none⟩)), IsV (.int .u32 (s1.getD d 0).toNat), IsV (.int .i64 (a : Nat)), IsV (.pointer (some ⟨g, a, none⟩)), IsV (.int .u32 (s1.getD a 0).toNat), IsV (.int .u32 ((s1.getD d 0 ^^^ s1.getD a 0)).toNat), IsV (.int .u32 (leftU (s1.getD d 0 ^^^ s1.getD a 0) 16).toNat), IsV (.pointer (some ⟨g, d, none⟩))] 10 _ rfl rfl rfl (by kernel_rfl) (by kernel_rfl) ?_ (⟨g, d, none⟩ : Addr) (.int .u32 (leftU (s1.getD d 0 ^^^ s1.getD a 0) 16).toNat) ?_ ?_ ?_
  · intro φ hφ
    simp only [List.mem_cons, List.not_mem_nil, or_false] at hφ
    rcases hφ with rfl | rfl | rfl | rfl | rfl | rfl | rfl | rfl | rfl | rfl <;> exact ⟨_, rfl⟩
  · refine ⟨?_, ?_, ?_, ?_, ?_, ?_, ?_, ?_, ?_, ?_, trivial⟩
    · intro a1 w1 hG hF
      exact d_old rfl (wants0 rfl) (.tmp 4) (.inr rfl) (.int .i64 (d : Nat)) (hF.ol 4 (by kernel_rfl)) rfl
    · intro a1 w1 hG hF
      exact d_old rfl (wants0 rfl) (.tmp 4) (.inr rfl) (.int .i64 (d : Nat)) (hF.ol 4 (by kernel_rfl)) rfl
    · intro a1 w1 hG hF
      have e5 : a1.eval (.tmp 5) = .pointer (some ⟨g, 0, none⟩) := hF.ol 5 (by kernel_rfl)
      obtain ⟨_, e21, rfl⟩ := hF.dp 1 21 (by kernel_rfl)
      exact d_is rfl (wants0 rfl) _ rfl (run_idx Try.underlying57 (by kernel_rfl) e5 e21 (by omega))
    · intro a1 w1 hG hF
      obtain ⟨_, e22, rfl⟩ := hF.dp 2 22 (by kernel_rfl)
      exact d_is rfl (wants0 rfl) _ rfl (run_load1 Try.underlying43 e22 ((hG.cell _).trans (hA1.u32 (by omega))))
    · intro a1 w1 hG hF
      exact d_old rfl (wants0 rfl) (.tmp 1) (.inr rfl) (.int .i64 (a : Nat)) (hF.ol 1 (by kernel_rfl)) rfl
    · intro a1 w1 hG hF
      have e5 : a1.eval (.tmp 5) = .pointer (some ⟨g, 0, none⟩) := hF.ol 5 (by kernel_rfl)
      obtain ⟨_, e24, rfl⟩ := hF.dp 4 24 (by kernel_rfl)
      exact d_is rfl (wants0 rfl) _ rfl (run_idx Try.underlying57 (by kernel_rfl) e5 e24 (by omega))
    · intro a1 w1 hG hF
      obtain ⟨_, e25, rfl⟩ := hF.dp 5 25 (by kernel_rfl)
      exact d_is rfl (wants0 rfl) _ rfl (run_load1 Try.underlying43 e25 ((hG.cell _).trans (hA1.u32 (by omega))))
    · intro a1 w1 hG hF
      obtain ⟨_, e23, rfl⟩ := hF.dp 3 23 (by kernel_rfl)
      obtain ⟨_, e26, rfl⟩ := hF.dp 6 26 (by kernel_rfl)
      exact d_is rfl (wants0 rfl) _ rfl (run_xor32 e23 e26)
    · intro a1 w1 hG hF
      obtain ⟨_, e27, rfl⟩ := hF.dp 7 27 (by kernel_rfl)
      exact d_call rfl (wants0 rfl) _ rfl _ _ (by simp only [execOp, resolve, invoke, List.map_toArray, List.map_cons, List.map_nil, e27]; go_simp) ((refLeft_any _ _ w1).mono fun e w2 ⟨he, hw⟩ => ⟨he, hw ▸ Dr.refl _⟩)
    · intro a1 w1 hG hF
      have e5 : a1.eval (.tmp 5) = .pointer (some ⟨g, 0, none⟩) := hF.ol 5 (by kernel_rfl)
      obtain ⟨_, e20, rfl⟩ := hF.dp 0 20 (by kernel_rfl)
      exact d_is rfl (wants0 rfl) _ rfl (run_idx Try.underlying57 (by kernel_rfl) e5 e20 (by omega))
  · intro a1 w1 hG hF
    obtain ⟨_, e29, rfl⟩ := hF.dp 9 29 (by kernel_rfl)
    obtain ⟨_, e28, rfl⟩ := hF.dp 8 28 (by kernel_rfl)
    exact ⟨wants0 rfl, run_store1 (by kernel_rfl) e29 e28 (by rw [hG.cell]; exact (Option.isSome_iff_exists.2 ⟨_, hA1.u32 (by omega)⟩)) (by rw [hG.frozen]; exact hA1.frozen _)⟩
  intro vs k1 hf
  clear hf
  simp only [putAll, Nat.zero_add, Nat.reduceAdd]
  have hA2 := (hA1.dr ⟨k1, rfl⟩).xor d a 16
  have hH2 := (hH1.dr ⟨k1, rfl⟩).other (a := ⟨g, d, none⟩) hhg (.int .u32 (leftU (s1.getD d 0 ^^^ s1.getD a 0) 16).toNat)
  have hB2 := hB1.trans ((below_dr ⟨k1, rfl⟩).trans (below_setCell (a := ⟨g, d, none⟩) (v := .int .u32 (leftU (s1.getD d 0 ^^^ s1.getD a 0) 16).toNat) (Nat.le_refl g)))
  obtain ⟨s2, hs2⟩ : ∃ z, z = xorS s1 d a 16 := ⟨_, rfl⟩
  have hl2 : s2.length = 16 := by rw [hs2]; simp [hl1]
  rw [← hs2] at hA2
  have HS2 := Lib.hid hs2
  generalize ((W1.drewN k1).setCell _ _) = W2 at hA2 hH2 hB2 ⊢
  clear hs2 hA1 hH1 hB1
  go_simp
  go_wp2_with fail
  refine wp_region_st (by kernel_rfl) [IsV (.int .i64 (c : Nat)), IsV (.int .i64 (c : Nat)), IsV (.pointer (some ⟨g, c, none⟩)), IsV (.int .u32 (s2.getD c 0).toNat), IsV (.int .i64 (d : Nat)), IsV (.pointer (some ⟨g, d, none⟩)), IsV (.int .u32 (s2.getD d 0).toNat), IsV (.int .u32 ((s2.getD c 0 + s2.getD d 0)).toNat), IsV (.pointer (some ⟨g, c, none⟩))] 9 _ rfl rfl rfl (by kernel_rfl) (by kernel_rfl) ?_ (⟨g, c, none⟩ : Addr) (.int .u32 ((s2.getD c 0 + s2.getD d 0)).toNat) ?_ ?_ ?_
  · intro φ hφ
    simp only [List.mem_cons, List.not_mem_nil, or_false] at hφ
    rcases hφ with rfl | rfl | rfl | rfl | rfl | rfl | rfl | rfl | rfl <;> exact ⟨_, rfl⟩
  · refine ⟨?_, ?_, ?_, ?_, ?_, ?_, ?_, ?_, ?_, trivial⟩
    · intro a1 w1 hG hF
      exact d_old rfl (wants0 rfl) (.tmp 3) (.inr rfl) (.int .i64 (c : Nat)) (hF.ol 3 (by kernel_rfl)) rfl
    · intro a1 w1 hG hF
      exact d_old rfl (wants0 rfl) (.tmp 3) (.inr rfl) (.int .i64 (c : Nat)) (hF.ol 3 (by kernel_rfl)) rfl
    · intro a1 w1 hG hF
      have e5 : a1.eval (.tmp 5) = .pointer (some ⟨g, 0, none⟩) := hF.ol 5 (by kernel_rfl)
      obtain ⟨_, e31, rfl⟩ := hF.dp 1 31 (by kernel_rfl)
      exact d_is rfl (wants0 rfl) _ rfl (run_idx Try.underlying57 (by kernel_rfl) e5 e31 (by omega))
    · intro a1 w1 hG hF
      obtain ⟨_, e32, rfl⟩ := hF.dp 2 32 (by kernel_rfl)
      exact d_is rfl (wants0 rfl) _ rfl (run_load1 Try.underlying43 e32 ((hG.cell _).trans (hA2.u32 (by omega))))
    · intro a1 w1 hG hF
      exact d_old rfl (wants0 rfl) (.tmp 4) (.inr rfl) (.int .i64 (d : Nat)) (hF.ol 4 (by kernel_rfl)) rfl
    · intro a1 w1 hG hF
      have e5 : a1.eval (.tmp 5) = .pointer (some ⟨g, 0, none⟩) := hF.ol 5 (by kernel_rfl)
      obtain ⟨_, e34, rfl⟩ := hF.dp 4 34 (by kernel_rfl)
      exact d_is rfl (wants0 rfl) _ rfl (run_idx Try.underlying57 (by kernel_rfl) e5 e34 (by omega))
    · intro a1 w1 hG hF
      obtain ⟨_, e35, rfl⟩ := hF.dp 5 35 (by kernel_rfl)
      exact d_is rfl (wants0 rfl) _ rfl (run_load1 Try.underlying43 e35 ((hG.cell _).trans (hA2.u32 (by omega))))
    · intro a1 w1 hG hF
      obtain ⟨_, e33, rfl⟩ := hF.dp 3 33 (by kernel_rfl)
      obtain ⟨_, e36, rfl⟩ := hF.dp 6 36 (by kernel_rfl)
      exact d_is rfl (wants0 rfl) _ rfl (run_add32 e33 e36)
    · intro a1 w1 hG hF
      have e5 : a1.eval (.tmp 5) = .pointer (some ⟨g, 0, none⟩) := hF.ol 5 (by kernel_rfl)
      obtain ⟨_, e30, rfl⟩ := hF.dp 0 30 (by kernel_rfl)
      exact d_is rfl (wants0 rfl) _ rfl (run_idx Try.underlying57 (by kernel_rfl) e5 e30 (by omega))
  · intro a1 w1 hG hF
    obtain ⟨_, e38, rfl⟩ := hF.dp 8 38 (by kernel_rfl)
    obtain ⟨_, e37, rfl⟩ := hF.dp 7 37 (by kernel_rfl)
    exact ⟨wants0 rfl, run_store1 (by kernel_rfl) e38 e37 (by rw [hG.cell]; exact (Option.isSome_iff_exists.2 ⟨_, hA2.u32 (by omega)⟩)) (by rw [hG.frozen]; exact hA2.frozen _)⟩
  intro vs k2 hf
  clear hf
  simp only [putAll, Nat.zero_add, Nat.reduceAdd]
  have hA3 := (hA2.dr ⟨k2, rfl⟩).add c d
  have hH3 := (hH2.dr ⟨k2, rfl⟩).other (a := ⟨g, c, none⟩) hhg (.int .u32 (s2.getD c 0 + s2.getD d 0).toNat)
  have hB3 := hB2.trans ((below_dr ⟨k2, rfl⟩).trans (below_setCell (a := ⟨g, c, none⟩) (v := .int .u32 (s2.getD c 0 + s2.getD d 0).toNat) (Nat.le_refl g)))
  obtain ⟨s3, hs3⟩ : ∃ z, z = addS s2 c d := ⟨_, rfl⟩
  have hl3 : s3.length = 16 := by rw [hs3]; simp [hl2]
  rw [← hs3] at hA3
  have HS3 := Lib.hid hs3
  generalize ((W2.drewN k2).setCell _ _) = W3 at hA3 hH3 hB3 ⊢
  clear hs3 hA2 hH2 hB2
  go_simp
  go_wp2_with fail
  refine wp_region_st (by kernel_rfl) [IsV (.int .i64 (b : Nat)), IsV (.int .i64 (b : Nat)), IsV (.pointer (some ⟨g, b, none⟩)), IsV (.int .u32 (s3.getD b 0).toNat), IsV (.int .i64 (c : Nat)), IsV (.pointer (some ⟨g, c, none⟩)), IsV (.int .u32 (s3.getD c 0).toNat), IsV (.int .u32 ((s3.getD b 0 ^^^ s3.getD c 0)).toNat), IsV (.int .u32 (leftU (s3.getD b 0 ^^^ s3.getD c 0) 12).toNat), IsV (.pointer (some ⟨g, b, none⟩))] 10 _ rfl rfl rfl (by kernel_rfl) (by kernel_rfl) ?_ (⟨g, b, none⟩ : Addr) (.int .u32 (leftU (s3.getD b 0 ^^^ s3.getD c 0) 12).toNat) ?_ ?_ ?_
  · intro φ hφ
    simp only [List.mem_cons, List.not_mem_nil, or_false] at hφ
    rcases hφ with rfl | rfl | rfl | rfl | rfl | rfl | rfl | rfl | rfl | rfl <;> exact ⟨_, rfl⟩
  · refine ⟨?_, ?_, ?_, ?_, ?_, ?_, ?_, ?_, ?_, ?_, trivial⟩
    · intro a1 w1 hG hF
      exact d_old rfl (wants0 rfl) (.tmp 2) (.inr rfl) (.int .i64 (b : Nat)) (hF.ol 2 (by kernel_rfl)) rfl
    · intro a1 w1 hG hF
      exact d_old rfl (wants0 rfl) (.tmp 2) (.inr rfl) (.int .i64 (b : Nat)) (hF.ol 2 (by kernel_rfl)) rfl
    · intro a1 w1 hG hF
      have e5 : a1.eval (.tmp 5) = .pointer (some ⟨g, 0, none⟩) := hF.ol 5 (by kernel_rfl)
      obtain ⟨_, e40, rfl⟩ := hF.dp 1 40 (by kernel_rfl)
      exact d_is rfl (wants0 rfl) _ rfl (run_idx Try.underlying57 (by kernel_rfl) e5 e40 (by omega))
    · intro a1 w1 hG hF
      obtain ⟨_, e41, rfl⟩ := hF.dp 2 41 (by kernel_rfl)
      exact d_is rfl (wants0 rfl) _ rfl (run_load1 Try.underlying43 e41 ((hG.cell _).trans (hA3.u32 (by omega))))
    · intro a1 w1 hG hF
      exact d_old rfl (wants0 rfl) (.tmp 3) (.inr rfl) (.int .i64 (c : Nat)) (hF.ol 3 (by kernel_rfl)) rfl
    · intro a1 w1 hG hF
      have e5 : a1.eval (.tmp 5) = .pointer (some ⟨g, 0, none⟩) := hF.ol 5 (by kernel_rfl)
      obtain ⟨_, e43, rfl⟩ := hF.dp 4 43 (by kernel_rfl)
      exact d_is rfl (wants0 rfl) _ rfl (run_idx Try.underlying57 (by kernel_rfl) e5 e43 (by omega))
    · intro a1 w1 hG hF
      obtain ⟨_, e44, rfl⟩ := hF.dp 5 44 (by kernel_rfl)
      exact d_is rfl (wants0 rfl) _ rfl (run_load1 Try.underlying43 e44 ((hG.cell _).trans (hA3.u32 (by omega))))
    · intro a1 w1 hG hF
      obtain ⟨_, e42, rfl⟩ := hF.dp 3 42 (by kernel_rfl)
      obtain ⟨_, e45, rfl⟩ := hF.dp 6 45 (by kernel_rfl)
      exact d_is rfl (wants0 rfl) _ rfl (run_xor32 e42 e45)
    · intro a1 w1 hG hF
      obtain ⟨_, e46, rfl⟩ := hF.dp 7 46 (by kernel_rfl)
      exact d_call rfl (wants0 rfl) _ rfl _ _ (by simp only [execOp, resolve, invoke, List.map_toArray, List.map_cons, List.map_nil, e46]; go_simp) ((refLeft_any _ _ w1).mono fun e w2 ⟨he, hw⟩ => ⟨he, hw ▸ Dr.refl _⟩)
    · intro a1 w1 hG hF
      have e5 : a1.eval (.tmp 5) = .pointer (some ⟨g, 0, none⟩) := hF.ol 5 (by kernel_rfl)
      obtain ⟨_, e39, rfl⟩ := hF.dp 0 39 (by kernel_rfl)
      exact d_is rfl (wants0 rfl) _ rfl (run_idx Try.underlying57 (by kernel_rfl) e5 e39 (by omega))
  · intro a1 w1 hG hF
    obtain ⟨_, e48, rfl⟩ := hF.dp 9 48 (by kernel_rfl)
    obtain ⟨_, e47, rfl⟩ := hF.dp 8 47 (by kernel_rfl)
    exact ⟨wants0 rfl, run_store1 (by kernel_rfl) e48 e47 (by rw [hG.cell]; exact (Option.isSome_iff_exists.2 ⟨_, hA3.u32 (by omega)⟩)) (by rw [hG.frozen]; exact hA3.frozen _)⟩
  intro vs k3 hf
  clear hf
  simp only [putAll, Nat.zero_add, Nat.reduceAdd]
  have hA4 := (hA3.dr ⟨k3, rfl⟩).xor b c 12
  have hH4 := (hH3.dr ⟨k3, rfl⟩).other (a := ⟨g, b, none⟩) hhg (.int .u32 (leftU (s3.getD b 0 ^^^ s3.getD c 0) 12).toNat)
  have hB4 := hB3.trans ((below_dr ⟨k3, rfl⟩).trans (below_setCell (a := ⟨g, b, none⟩) (v := .int .u32 (leftU (s3.getD b 0 ^^^ s3.getD c 0) 12).toNat) (Nat.le_refl g)))
  obtain ⟨s4, hs4⟩ : ∃ z, z = xorS s3 b c 12 := ⟨_, rfl⟩
  have hl4 : s4.length = 16 := by rw [hs4]; simp [hl3]
  rw [← hs4] at hA4
  have HS4 := Lib.hid hs4
  generalize ((W3.drewN k3).setCell _ _) = W4 at hA4 hH4 hB4 ⊢
  clear hs4 hA3 hH3 hB3
  go_simp
  go_wp2_with fail
  refine wp_region_st (by kernel_rfl) [IsV (.int .i64 (a : Nat)), IsV (.int .i64 (a : Nat)), IsV (.pointer (some ⟨g, a, none⟩)), IsV (.int .u32 (s4.getD a 0).toNat), IsV (.int .i64 (b : Nat)), IsV (.pointer (some ⟨g, b, none⟩)), IsV (.int .u32 (s4.getD b 0).toNat), IsV (.int .u32 ((s4.getD a 0 + s4.getD b 0)).toNat), IsV (.pointer (some ⟨g, a, none⟩))] 9 _ rfl rfl rfl (by kernel_rfl) (by kernel_rfl) ?_ (⟨g, a, none⟩ : Addr) (.int .u32 ((s4.getD a 0 + s4.getD b 0)).toNat) ?_ ?_ ?_
  · intro φ hφ
    simp only [List.mem_cons, List.not_mem_nil, or_false] at hφ
    rcases hφ with rfl | rfl | rfl | rfl | rfl | rfl | rfl | rfl | rfl <;> exact ⟨_, rfl⟩
  · refine ⟨?_, ?_, ?_, ?_, ?_, ?_, ?_, ?_, ?_, trivial⟩
    · intro a1 w1 hG hF
      exact d_old rfl (wants0 rfl) (.tmp 1) (.inr rfl) (.int .i64 (a : Nat)) (hF.ol 1 (by kernel_rfl)) rfl
    · intro a1 w1 hG hF
      exact d_old rfl (wants0 rfl) (.tmp 1) (.inr rfl) (.int .i64 (a : Nat)) (hF.ol 1 (by kernel_rfl)) rfl
    · intro a1 w1 hG hF
      have e5 : a1.eval (.tmp 5) = .pointer (some ⟨g, 0, none⟩) := hF.ol 5 (by kernel_rfl)
      obtain ⟨_, e50, rfl⟩ := hF.dp 1 50 (by kernel_rfl)
      exact d_is rfl (wants0 rfl) _ rfl (run_idx Try.underlying57 (by kernel_rfl) e5 e50 (by omega))
    · intro a1 w1 hG hF
      obtain ⟨_, e51, rfl⟩ := hF.dp 2 51 (by kernel_rfl)
      exact d_is rfl (wants0 rfl) _ rfl (run_load1 Try.underlying43 e51 ((hG.cell _).trans (hA4.u32 (by omega))))
    · intro a1 w1 hG hF
      exact d_old rfl (wants0 rfl) (.tmp 2) (.inr rfl) (.int .i64 (b : Nat)) (hF.ol 2 (by kernel_rfl)) rfl
    · intro a1 w1 hG hF
      have e5 : a1.eval (.tmp 5) = .pointer (some ⟨g, 0, none⟩) := hF.ol 5 (by kernel_rfl)
      obtain ⟨_, e53, rfl⟩ := hF.dp 4 53 (by kernel_rfl)
      exact d_is rfl (wants0 rfl) _ rfl (run_idx Try.underlying57 (by kernel_rfl) e5 e53 (by omega))
    · intro a1 w1 hG hF
      obtain ⟨_, e54, rfl⟩ := hF.dp 5 54 (by kernel_rfl)
      exact d_is rfl (wants0 rfl) _ rfl (run_load1 Try.underlying43 e54 ((hG.cell _).trans (hA4.u32 (by omega))))
    · intro a1 w1 hG hF
      obtain ⟨_, e52, rfl⟩ := hF.dp 3 52 (by kernel_rfl)
      obtain ⟨_, e55, rfl⟩ := hF.dp 6 55 (by kernel_rfl)
      exact d_is rfl (wants0 rfl) _ rfl (run_add32 e52 e55)
    · intro a1 w1 hG hF
      have e5 : a1.eval (.tmp 5) = .pointer (some ⟨g, 0, none⟩) := hF.ol 5 (by kernel_rfl)
      obtain ⟨_, e49, rfl⟩ := hF.dp 0 49 (by kernel_rfl)
      exact d_is rfl (wants0 rfl) _ rfl (run_idx Try.underlying57 (by kernel_rfl) e5 e49 (by omega))
  · intro a1 w1 hG hF
    obtain ⟨_, e57, rfl⟩ := hF.dp 8 57 (by kernel_rfl)
    obtain ⟨_, e56, rfl⟩ := hF.dp 7 56 (by kernel_rfl)
    exact ⟨wants0 rfl, run_store1 (by kernel_rfl) e57 e56 (by rw [hG.cell]; exact (Option.isSome_iff_exists.2 ⟨_, hA4.u32 (by omega)⟩)) (by rw [hG.frozen]; exact hA4.frozen _)⟩
  intro vs k4 hf
  clear hf
  simp only [putAll, Nat.zero_add, Nat.reduceAdd]
  have hA5 := (hA4.dr ⟨k4, rfl⟩).add a b
  have hH5 := (hH4.dr ⟨k4, rfl⟩).other (a := ⟨g, a, none⟩) hhg (.int .u32 (s4.getD a 0 + s4.getD b 0).toNat)
  have hB5 := hB4.trans ((below_dr ⟨k4, rfl⟩).trans (below_setCell (a := ⟨g, a, none⟩) (v := .int .u32 (s4.getD a 0 + s4.getD b 0).toNat) (Nat.le_refl g)))
  obtain ⟨s5, hs5⟩ : ∃ z, z = addS s4 a b := ⟨_, rfl⟩
  have hl5 : s5.length = 16 := by rw [hs5]; simp [hl4]
  rw [← hs5] at hA5
  have HS5 := Lib.hid hs5
  generalize ((W4.drewN k4).setCell _ _) = W5 at hA5 hH5 hB5 ⊢
  clear hs5 hA4 hH4 hB4
  go_simp
  go_wp2_with fail
  refine wp_region_st (by kernel_rfl) [IsV (.int .i64 (d : Nat)), IsV (.int .i64 (d : Nat)), IsV (.pointer (some ⟨g, d, none⟩)), IsV (.int .u32 (s5.getD d 0).toNat), IsV (.int .i64 (a : Nat)), IsV (.pointer (some ⟨g, a, none⟩)), IsV (.int .u32 (s5.getD a 0).toNat), IsV (.int .u32 ((s5.getD d 0 ^^^ s5.getD a 0)).toNat), IsV (.int .u32 (leftU (s5.getD d 0 ^^^ s5.getD a 0) 8).toNat), IsV (.pointer (some ⟨g, d, none⟩))] 10 _ rfl rfl rfl (by kernel_rfl) (by kernel_rfl) ?_ (⟨g, d, none⟩ : Addr) (.int .u32 (leftU (s5.getD d 0 ^^^ s5.getD a 0) 8).toNat) ?_ ?_ ?_
  · intro φ hφ
    simp only [List.mem_cons, List.not_mem_nil, or_false] at hφ
    rcases hφ with rfl | rfl | rfl | rfl | rfl | rfl | rfl | rfl | rfl | rfl <;> exact ⟨_, rfl⟩
  · refine ⟨?_, ?_, ?_, ?_, ?_, ?_, ?_, ?_, ?_, ?_, trivial⟩
    · intro a1 w1 hG hF
      exact d_old rfl (wants0 rfl) (.tmp 4) (.inr rfl) (.int .i64 (d : Nat)) (hF.ol 4 (by kernel_rfl)) rfl
    · intro a1 w1 hG hF
      exact d_old rfl (wants0 rfl) (.tmp 4) (.inr rfl) (.int .i64 (d : Nat)) (hF.ol 4 (by kernel_rfl)) rfl
    · intro a1 w1 hG hF
      have e5 : a1.eval (.tmp 5) = .pointer (some ⟨g, 0, none⟩) := hF.ol 5 (by kernel_rfl)
      obtain ⟨_, e59, rfl⟩ := hF.dp 1 59 (by kernel_rfl)
      exact d_is rfl (wants0 rfl) _ rfl (run_idx Try.underlying57 (by kernel_rfl) e5 e59 (by omega))
    · intro a1 w1 hG hF
      obtain ⟨_, e60, rfl⟩ := hF.dp 2 60 (by kernel_rfl)
      exact d_is rfl (wants0 rfl) _ rfl (run_load1 Try.underlying43 e60 ((hG.cell _).trans (hA5.u32 (by omega))))
    · intro a1 w1 hG hF
      exact d_old rfl (wants0 rfl) (.tmp 1) (.inr rfl) (.int .i64 (a : Nat)) (hF.ol 1 (by kernel_rfl)) rfl
    · intro a1 w1 hG hF
      have e5 : a1.eval (.tmp 5) = .pointer (some ⟨g, 0, none⟩) := hF.ol 5 (by kernel_rfl)
      obtain ⟨_, e62, rfl⟩ := hF.dp 4 62 (by kernel_rfl)
      exact d_is rfl (wants0 rfl) _ rfl (run_idx Try.underlying57 (by kernel_rfl) e5 e62 (by omega))
    · intro a1 w1 hG hF
      obtain ⟨_, e63, rfl⟩ := hF.dp 5 63 (by kernel_rfl)
      exact d_is rfl (wants0 rfl) _ rfl (run_load1 Try.underlying43 e63 ((hG.cell _).trans (hA5.u32 (by omega))))
    · intro a1 w1 hG hF
      obtain ⟨_, e61, rfl⟩ := hF.dp 3 61 (by kernel_rfl)
      obtain ⟨_, e64, rfl⟩ := hF.dp 6 64 (by kernel_rfl)
      exact d_is rfl (wants0 rfl) _ rfl (run_xor32 e61 e64)
    · intro a1 w1 hG hF
      obtain ⟨_, e65, rfl⟩ := hF.dp 7 65 (by kernel_rfl)
      exact d_call rfl (wants0 rfl) _ rfl _ _ (by simp only [execOp, resolve, invoke, List.map_toArray, List.map_cons, List.map_nil, e65]; go_simp) ((refLeft_any _ _ w1).mono fun e w2 ⟨he, hw⟩ => ⟨he, hw ▸ Dr.refl _⟩)
    · intro a1 w1 hG hF
      have e5 : a1.eval (.tmp 5) = .pointer (some ⟨g, 0, none⟩) := hF.ol 5 (by kernel_rfl)
      obtain ⟨_, e58, rfl⟩ := hF.dp 0 58 (by kernel_rfl)
      exact d_is rfl (wants0 rfl) _ rfl (run_idx Try.underlying57 (by kernel_rfl) e5 e58 (by omega))
  · intro a1 w1 hG hF
    obtain ⟨_, e67, rfl⟩ := hF.dp 9 67 (by kernel_rfl)
    obtain ⟨_, e66, rfl⟩ := hF.dp 8 66 (by kernel_rfl)
    exact ⟨wants0 rfl, run_store1 (by kernel_rfl) e67 e66 (by rw [hG.cell]; exact (Option.isSome_iff_exists.2 ⟨_, hA5.u32 (by omega)⟩)) (by rw [hG.frozen]; exact hA5.frozen _)⟩
  intro vs k5 hf
  clear hf
  simp only [putAll, Nat.zero_add, Nat.reduceAdd]
  have hA6 := (hA5.dr ⟨k5, rfl⟩).xor d a 8
  have hH6 := (hH5.dr ⟨k5, rfl⟩).other (a := ⟨g, d, none⟩) hhg (.int .u32 (leftU (s5.getD d 0 ^^^ s5.getD a 0) 8).toNat)
  have hB6 := hB5.trans ((below_dr ⟨k5, rfl⟩).trans (below_setCell (a := ⟨g, d, none⟩) (v := .int .u32 (leftU (s5.getD d 0 ^^^ s5.getD a 0) 8).toNat) (Nat.le_refl g)))
  obtain ⟨s6, hs6⟩ : ∃ z, z = xorS s5 d a 8 := ⟨_, rfl⟩
  have hl6 : s6.length = 16 := by rw [hs6]; simp [hl5]
  rw [← hs6] at hA6
  have HS6 := Lib.hid hs6
  generalize ((W5.drewN k5).setCell _ _) = W6 at hA6 hH6 hB6 ⊢
  clear hs6 hA5 hH5 hB5
  go_simp
  go_wp2_with fail
  refine wp_region_st (by kernel_rfl) [IsV (.int .i64 (c : Nat)), IsV (.int .i64 (c : Nat)), IsV (.pointer (some ⟨g, c, none⟩)), IsV (.int .u32 (s6.getD c 0).toNat), IsV (.int .i64 (d : Nat)), IsV (.pointer (some ⟨g, d, none⟩)), IsV (.int .u32 (s6.getD d 0).toNat), IsV (.int .u32 ((s6.getD c 0 + s6.getD d 0)).toNat), IsV (.pointer (some ⟨g, c, none⟩))] 9 _ rfl rfl rfl (by kernel_rfl) (by kernel_rfl) ?_ (⟨g, c, none⟩ : Addr) (.int .u32 ((s6.getD c 0 + s6.getD d 0)).toNat) ?_ ?_ ?_
  · intro φ hφ
    simp only [List.mem_cons, List.not_mem_nil, or_false] at hφ
    rcases hφ with rfl | rfl | rfl | rfl | rfl | rfl | rfl | rfl | rfl <;> exact ⟨_, rfl⟩
  · refine ⟨?_, ?_, ?_, ?_, ?_, ?_, ?_, ?_, ?_, trivial⟩
    · intro a1 w1 hG hF
      exact d_old rfl (wants0 rfl) (.tmp 3) (.inr rfl) (.int .i64 (c : Nat)) (hF.ol 3 (by kernel_rfl)) rfl
    · intro a1 w1 hG hF
      exact d_old rfl (wants0 rfl) (.tmp 3) (.inr rfl) (.int .i64 (c : Nat)) (hF.ol 3 (by kernel_rfl)) rfl
    · intro a1 w1 hG hF
      have e5 : a1.eval (.tmp 5) = .pointer (some ⟨g, 0, none⟩) := hF.ol 5 (by kernel_rfl)
      obtain ⟨_, e69, rfl⟩ := hF.dp 1 69 (by kernel_rfl)
      exact d_is rfl (wants0 rfl) _ rfl (run_idx Try.underlying57 (by kernel_rfl) e5 e69 (by omega))
    · intro a1 w1 hG hF
      obtain ⟨_, e70, rfl⟩ := hF.dp 2 70 (by kernel_rfl)
      exact d_is rfl (wants0 rfl) _ rfl (run_load1 Try.underlying43 e70 ((hG.cell _).trans (hA6.u32 (by omega))))
    · intro a1 w1 hG hF
      exact d_old rfl (wants0 rfl) (.tmp 4) (.inr rfl) (.int .i64 (d : Nat)) (hF.ol 4 (by kernel_rfl)) rfl
    · intro a1 w1 hG hF
      have e5 : a1.eval (.tmp 5) = .pointer (some ⟨g, 0, none⟩) := hF.ol 5 (by kernel_rfl)
      obtain ⟨_, e72, rfl⟩ := hF.dp 4 72 (by kernel_rfl)
      exact d_is rfl (wants0 rfl) _ rfl (run_idx Try.underlying57 (by kernel_rfl) e5 e72 (by omega))
    · intro a1 w1 hG hF
      obtain ⟨_, e73, rfl⟩ := hF.dp 5 73 (by kernel_rfl)
      exact d_is rfl (wants0 rfl) _ rfl (run_load1 Try.underlying43 e73 ((hG.cell _).trans (hA6.u32 (by omega))))
    · intro a1 w1 hG hF
      obtain ⟨_, e71, rfl⟩ := hF.dp 3 71 (by kernel_rfl)
      obtain ⟨_, e74, rfl⟩ := hF.dp 6 74 (by kernel_rfl)
      exact d_is rfl (wants0 rfl) _ rfl (run_add32 e71 e74)
    · intro a1 w1 hG hF
      have e5 : a1.eval (.tmp 5) = .pointer (some ⟨g, 0, none⟩) := hF.ol 5 (by kernel_rfl)
      obtain ⟨_, e68, rfl⟩ := hF.dp 0 68 (by kernel_rfl)
      exact d_is rfl (wants0 rfl) _ rfl (run_idx Try.underlying57 (by kernel_rfl) e5 e68 (by omega))
  · intro a1 w1 hG hF
    obtain ⟨_, e76, rfl⟩ := hF.dp 8 76 (by kernel_rfl)
    obtain ⟨_, e75, rfl⟩ := hF.dp 7 75 (by kernel_rfl)
    exact ⟨wants0 rfl, run_store1 (by kernel_rfl) e76 e75 (by rw [hG.cell]; exact (Option.isSome_iff_exists.2 ⟨_, hA6.u32 (by omega)⟩)) (by rw [hG.frozen]; exact hA6.frozen _)⟩
  intro vs k6 hf
  clear hf
  simp only [putAll, Nat.zero_add, Nat.reduceAdd]
  have hA7 := (hA6.dr ⟨k6, rfl⟩).add c d
  have hH7 := (hH6.dr ⟨k6, rfl⟩).other (a := ⟨g, c, none⟩) hhg (.int .u32 (s6.getD c 0 + s6.getD d 0).toNat)
  have hB7 := hB6.trans ((below_dr ⟨k6, rfl⟩).trans (below_setCell (a := ⟨g, c, none⟩) (v := .int .u32 (s6.getD c 0 + s6.getD d 0).toNat) (Nat.le_refl g)))
  obtain ⟨s7, hs7⟩ : ∃ z, z = addS s6 c d := ⟨_, rfl⟩
  have hl7 : s7.length = 16 := by rw [hs7]; simp [hl6]
  rw [← hs7] at hA7
  have HS7 := Lib.hid hs7
  generalize ((W6.drewN k6).setCell _ _) = W7 at hA7 hH7 hB7 ⊢
  clear hs7 hA6 hH6 hB6
  go_simp
  go_wp2_with fail
  refine wp_region_st (by kernel_rfl) [IsV (.int .i64 (b : Nat)), IsV (.int .i64 (b : Nat)), IsV (.pointer (some ⟨g, b, none⟩)), IsV (.int .u32 (s7.getD b 0).toNat), IsV (.int .i64 (c : Nat)), IsV (.pointer (some ⟨g, c, none⟩)), IsV (.int .u32 (s7.getD c 0).toNat), IsV (.int .u32 ((s7.getD b 0 ^^^ s7.getD c 0)).toNat), IsV (.int .u32 (leftU (s7.getD b 0 ^^^ s7.getD c 0) 7).toNat), IsV (.pointer (some ⟨g, b, none⟩))] 10 _ rfl rfl rfl (by kernel_rfl) (by kernel_rfl) ?_ (⟨g, b, none⟩ : Addr) (.int .u32 (leftU (s7.getD b 0 ^^^ s7.getD c 0) 7).toNat) ?_ ?_ ?_
  · intro φ hφ
    simp only [List.mem_cons, List.not_mem_nil, or_false] at hφ
    rcases hφ with rfl | rfl | rfl | rfl | rfl | rfl | rfl | rfl | rfl | rfl <;> exact ⟨_, rfl⟩
  · refine ⟨?_, ?_, ?_, ?_, ?_, ?_, ?_, ?_, ?_, ?_, trivial⟩
    · intro a1 w1 hG hF
      exact d_old rfl (wants0 rfl) (.tmp 2) (.inr rfl) (.int .i64 (b : Nat)) (hF.ol 2 (by kernel_rfl)) rfl
    · intro a1 w1 hG hF
      exact d_old rfl (wants0 rfl) (.tmp 2) (.inr rfl) (.int .i64 (b : Nat)) (hF.ol 2 (by kernel_rfl)) rfl
    · intro a1 w1 hG hF
      have e5 : a1.eval (.tmp 5) = .pointer (some ⟨g, 0, none⟩) := hF.ol 5 (by kernel_rfl)
      obtain ⟨_, e78, rfl⟩ := hF.dp 1 78 (by kernel_rfl)
      exact d_is rfl (wants0 rfl) _ rfl (run_idx Try.underlying57 (by kernel_rfl) e5 e78 (by omega))
    · intro a1 w1 hG hF
      obtain ⟨_, e79, rfl⟩ := hF.dp 2 79 (by kernel_rfl)
      exact d_is rfl (wants0 rfl) _ rfl (run_load1 Try.underlying43 e79 ((hG.cell _).trans (hA7.u32 (by omega))))
    · intro a1 w1 hG hF
      exact d_old rfl (wants0 rfl) (.tmp 3) (.inr rfl) (.int .i64 (c : Nat)) (hF.ol 3 (by kernel_rfl)) rfl
    · intro a1 w1 hG hF
      have e5 : a1.eval (.tmp 5) = .pointer (some ⟨g, 0, none⟩) := hF.ol 5 (by kernel_rfl)
      obtain ⟨_, e81, rfl⟩ := hF.dp 4 81 (by kernel_rfl)
      exact d_is rfl (wants0 rfl) _ rfl (run_idx Try.underlying57 (by kernel_rfl) e5 e81 (by omega))
    · intro a1 w1 hG hF
      obtain ⟨_, e82, rfl⟩ := hF.dp 5 82 (by kernel_rfl)
      exact d_is rfl (wants0 rfl) _ rfl (run_load1 Try.underlying43 e82 ((hG.cell _).trans (hA7.u32 (by omega))))
    · intro a1 w1 hG hF
      obtain ⟨_, e80, rfl⟩ := hF.dp 3 80 (by kernel_rfl)
      obtain ⟨_, e83, rfl⟩ := hF.dp 6 83 (by kernel_rfl)
      exact d_is rfl (wants0 rfl) _ rfl (run_xor32 e80 e83)
    · intro a1 w1 hG hF
      obtain ⟨_, e84, rfl⟩ := hF.dp 7 84 (by kernel_rfl)
      exact d_call rfl (wants0 rfl) _ rfl _ _ (by simp only [execOp, resolve, invoke, List.map_toArray, List.map_cons, List.map_nil, e84]; go_simp) ((refLeft_any _ _ w1).mono fun e w2 ⟨he, hw⟩ => ⟨he, hw ▸ Dr.refl _⟩)
    · intro a1 w1 hG hF
      have e5 : a1.eval (.tmp 5) = .pointer (some ⟨g, 0, none⟩) := hF.ol 5 (by kernel_rfl)
      obtain ⟨_, e77, rfl⟩ := hF.dp 0 77 (by kernel_rfl)
      exact d_is rfl (wants0 rfl) _ rfl (run_idx Try.underlying57 (by kernel_rfl) e5 e77 (by omega))
  · intro a1 w1 hG hF
    obtain ⟨_, e86, rfl⟩ := hF.dp 9 86 (by kernel_rfl)
    obtain ⟨_, e85, rfl⟩ := hF.dp 8 85 (by kernel_rfl)
    exact ⟨wants0 rfl, run_store1 (by kernel_rfl) e86 e85 (by rw [hG.cell]; exact (Option.isSome_iff_exists.2 ⟨_, hA7.u32 (by omega)⟩)) (by rw [hG.frozen]; exact hA7.frozen _)⟩
  intro vs k7 hf
  clear hf
  simp only [putAll, Nat.zero_add, Nat.reduceAdd]
  have hA8 := (hA7.dr ⟨k7, rfl⟩).xor b c 7
  have hH8 := (hH7.dr ⟨k7, rfl⟩).other (a := ⟨g, b, none⟩) hhg (.int .u32 (leftU (s7.getD b 0 ^^^ s7.getD c 0) 7).toNat)
  have hB8 := hB7.trans ((below_dr ⟨k7, rfl⟩).trans (below_setCell (a := ⟨g, b, none⟩) (v := .int .u32 (leftU (s7.getD b 0 ^^^ s7.getD c 0) 7).toNat) (Nat.le_refl g)))
  obtain ⟨s8, hs8⟩ : ∃ z, z = xorS s7 b c 7 := ⟨_, rfl⟩
  have hl8 : s8.length = 16 := by rw [hs8]; simp [hl7]
  rw [← hs8] at hA8
  have HS8 := Lib.hid hs8
  generalize ((W7.drewN k7).setCell _ _) = W8 at hA8 hH8 hB8 ⊢
  clear hs8 hA7 hH7 hB7
  go_simp
  have i1 : (Try.prog.info? 57).map (·.size) = some (u32s s8).length := by simp only [u32s_length, hl8]; kernel_rfl
  have i2 : (Try.prog.info? 57).map (·.size) = some (u32s s8).toArray.size := by simp only [List.size_toArray, u32s_length, hl8]; kernel_rfl
  have t2 : W8.there h 0 (u32s s8).toArray.size := by have := hH8.there; simpa [hl8] using this
  have HI1 := Lib.hid i1
  have HI2 := Lib.hid i2
  have HT2 := Lib.hid t2
  clear i1 i2 t2
  go_wp2_with first
    | (refine wpList_load_mid rfl 57 (.tmp 5) rfl g 0 rfl (u32s s8) _ hA8.range Try.underlying57 rfl HI1.out ?_)
    | (refine wpList_store_mid rfl 57 (.tmp 10) (.tmp 87) rfl h 0 (u32s s8).toArray rfl rfl HT2.out HI2.out (all_oneCell_toArray (u32s_oneCell s8)) ?_)
  have hr' := hH8.setAll (u32s s8) (by simp [hl8])
  have he : s8 = quarterL s0 a b c d := by rw [HS8.out, HS7.out, HS6.out, HS5.out, HS4.out, HS3.out, HS2.out, HS1.out]; rfl
  refine bodyPost_ret (results_cell_row rfl _ _ h _ _ _ _ rfl hr' Try.underlying57 rfl HI2.out) rfl ?_
  rw [← he, ← HG.out]
  exact ⟨rfl, hB8.trans (below_setCells hgh _ _ _)⟩
end Go.Proofs.Ythffodfnnjejnaa
