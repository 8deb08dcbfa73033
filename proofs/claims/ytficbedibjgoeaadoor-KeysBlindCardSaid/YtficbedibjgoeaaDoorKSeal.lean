/- The walk of the law KeysSeal. No condition. -/
import Derived.Test.YtficbedibjgoeaaDoorKeysS
import Derived.Test.YtficbedibjgoeaaDoorSsaN
namespace Go.Proofs.YtficbedibjgoeaaDoor
open Go.RowKit
set_option maxHeartbeats 1000000 in
theorem epoch_yes (z : Int) (h1 : 1 ≤ z) (h2 : z ≤ 1048576) (w : World) : Calls Tryd.prog 16 #[.int .i64 z] w fun e w' => e = .returned (.bool true) ∧ w = w' := by
  have g1 : z ≥ 1 := h1
  go_enter Tryd.func16, Tryd.ntmps16
  go_wp2_with fail
  go_ret
  exact ⟨rfl, rfl⟩
set_option maxHeartbeats 1000000 in
theorem epoch_no (z : Int) (h : z < 1 ∨ 1048576 < z) (w : World) : Calls Tryd.prog 16 #[.int .i64 z] w fun e w' => e = .returned (.bool false) ∧ w = w' := by
  by_cases h1 : z < 1
  · have g1 : ¬ 1 ≤ z := by omega
    go_enter Tryd.func16, Tryd.ntmps16
    go_wp2_with fail
    go_ret
    exact ⟨rfl, rfl⟩
  · have g1 : 1 ≤ z := by omega
    have g2 : ¬ z ≤ 1048576 := by omega
    go_enter Tryd.func16, Tryd.ntmps16
    go_wp2_with fail
    go_ret
    exact ⟨rfl, rfl⟩
set_option maxRecDepth 100000 in
set_option maxHeartbeats 8000000 in
theorem law_kseal (M : List UInt8) (hM : M.length = 32) (z : Int) (w : World) (gw : Glob w) :
    Calls Tryd.prog 6 #[.agg (u8s M).toArray, .int .i64 z] w fun e w' => e = .returned (.bool true) ∧ Below w.heap.size w w' := by
  have h2 : Arr (w.alloc (.cells (u8s M).toArray 22)) w.heap.size 22 (u8s M) := Arr.newAt rfl rfl
  have G0 : Gr w (w.alloc (.cells (u8s M).toArray 22)) := Gr.alloc _ _
  go_enter Tryd.func6, Tryd.ntmps6
  go_upto_region 1 with fail
  change Code.wp _ _ _ _ (w.alloc (.cells (u8s M).toArray 22))
  generalize w.alloc (.cells (u8s M).toArray 22) = w0 at h2 G0 ⊢
  obtain ⟨g2, hg2⟩ : ∃ g, g = w.heap.size := ⟨_, rfl⟩
  rw [← hg2] at h2
  simp only [← hg2]
  clear hg2
  have gw0 := gw.gr G0
  by_cases hz : 1 ≤ z ∧ z ≤ 1048576
  · obtain ⟨hz1, hz2⟩ := hz
    obtain ⟨e, rfl⟩ : ∃ e : Nat, z = (e : Int) := ⟨z.toNat, by omega⟩
    obtain ⟨X, hX⟩ : ∃ X, X = sealKL M e := ⟨_, rfl⟩
    have hXl : X.length = 32 := by rw [hX]; simp
    have HK : Hid (∀ w, Glob w → Calls Tryd.prog 15 #[.agg (u8s M).toArray, .int .i64 (e : Int)] w fun r w' => r = .returned (.tuple #[.agg (u8s X).toArray, .int .i64 0]) ∧ Below w.heap.size w w') := by
      intro w gw
      rw [hX]
      exact sealK_any M hM e (by omega) (by omega) w gw
    have HR : Hid (∀ w, Calls Tryd.prog 17 #[.string ⟨M.toArray⟩, .int .i64 (e : Int)] w fun r w' => r = .returned (.string ⟨X.toArray⟩) ∧ Below w.heap.size w w') := by
      intro w
      rw [hX]
      exact refSealK_any M hM e (by omega) w
    have HE := Lib.hid (epoch_yes e hz1 hz2)
    clear hX hz1 hz2
    go_wp2_with first
      | (refine wpList_load_mid rfl 22 (.tmp 2) rfl g2 0 rfl (u8s M) _ h2.range Tryd.underlying22 rfl (infoU8_32 M hM) ?_)
    refine (HK.out w0 gw0).mono ?_
    rintro r w1 ⟨rfl, hB1⟩
    have h21 := h2.gr hB1
    go_wp2_with (refine wpList_new rfl 22 (.tmp 5) (.tmp 11) rfl _ (u8s X) rfl rfl rfl (by simp only [u8s_length, hXl]; rfl) (infoU8_32 X hXl) (u8s_oneCell _) ?_; intro w2 h5 hG2)
    have h22 := h21.gr hG2
    have G2 : Gr w w2 := G0.trans (Gr.trans hB1 hG2)
    generalize w1.heap.size = g5 at h5 ⊢
    clear h2 h21 hB1 hG2 G0 gw0
    refine (HE.out w2).mono ?_
    rintro r _ ⟨rfl, rfl⟩
    go_upto_region 4 with fail
    have hr2 := h22.rdAll hM
    have hr5 := h5.rdAll hXl
    refine wp_region_ssaL (by kernel_rfl) [IsV (.bool true), IsV (.bool true), IsV (.int .i64 ((0 : Nat) : Int)), IsV (.bool true), IsV (.bool true), IsV (.bool true), IsV (.slice (some ⟨g5, 0, none⟩) 32 32), IsV (.string ⟨(X).toArray⟩), IsV (.slice (some ⟨g2, 0, none⟩) 32 32), IsV (.string ⟨(M).toArray⟩), IsV (.int .i64 ((e : Nat) : Int)), IsV (.string ⟨(X).toArray⟩), IsV (.bool true), IsV (.bool true), IsV (.bool true)] (by kernel_rfl) ?_ ?_ ?_
    · intro φ hφ v w1 w2 h hg
      simp only [List.mem_cons, List.not_mem_nil, or_false] at hφ
      rcases hφ with rfl | rfl | rfl | rfl | rfl | rfl | rfl | rfl | rfl | rfl | rfl | rfl | rfl | rfl | rfl
      all_goals first | exact h | exact RdV.gr h hg
    · refine ⟨?_, ?_, ?_, ?_, ?_, ?_, ?_, ?_, ?_, ?_, ?_, ?_, ?_, ?_, ?_, trivial⟩
      · intro a1 w1 hG hF
        exact s_call rfl (wants0 rfl) _ rfl _ _ (by simp only [execOp, resolve, invoke, List.map_toArray, List.map_nil]; go_simp) ((hides_any w1).mono fun e w2 ⟨he, hb⟩ => ⟨_, he, rfl, hb⟩)
      · intro a1 w1 hG hF
        exact s_same rfl (wants0 rfl) (.tmp 26) (.inr rfl) (hF.dp 0 26 (by kernel_rfl))
      · intro a1 w1 hG hF
        exact s_old rfl (wantsG hF 1 27 true rfl (by kernel_rfl) rfl) (.tmp 6) (.inr rfl) (.int .i64 ((0 : Nat) : Int)) (hF.ol 6 (by kernel_rfl)) rfl
      · intro a1 w1 hG hF
        obtain ⟨_, e28, rfl⟩ := hF.dp 2 28 (by kernel_rfl)
        exact s_is rfl (wantsG hF 1 27 true rfl (by kernel_rfl) rfl) _ rfl (by simp only [execOp, e28]; go_simp)
      · intro a1 w1 hG hF
        obtain ⟨_, e27, rfl⟩ := hF.dp 1 27 (by kernel_rfl)
        obtain ⟨_, e29, rfl⟩ := hF.dp 3 29 (by kernel_rfl)
        exact s_pick rfl (wants0 rfl) (.tmp 27) (.tmp 29) _ rfl e27 _ e29 rfl
      · intro a1 w1 hG hF
        exact s_same rfl (wants0 rfl) (.tmp 30) (.inr rfl) (hF.dp 4 30 (by kernel_rfl))
      · intro a1 w1 hG hF
        have e5 : a1.eval (.tmp 5) = .pointer (some ⟨g5, 0, none⟩) := hF.ol 5 (by kernel_rfl)
        exact s_is rfl (wantsG hF 5 31 true rfl (by kernel_rfl) rfl) _ rfl (by simp only [execOp, e5, Option.map, Sem.run_bind, run_cutAll (P := Tryd.prog) Tryd.underlying22 (by kernel_rfl), Result.andThen_ok, Sem.run_pure])
      · intro a1 w1 hG hF
        obtain ⟨_, e32, rfl⟩ := hF.dp 6 32 (by kernel_rfl)
        exact s_str rfl (wantsG hF 5 31 true rfl (by kernel_rfl) rfl) 23 9 5 (.tmp 32) rfl Tryd.underlying23 Tryd.underlying5 Tryd.underlying9 _ _ _ (X) e32 (((Gr.drew w2).trans hG).rd hr5) rfl
      · intro a1 w1 hG hF
        have e2 : a1.eval (.tmp 2) = .pointer (some ⟨g2, 0, none⟩) := hF.ol 2 (by kernel_rfl)
        exact s_is rfl (wantsG hF 5 31 true rfl (by kernel_rfl) rfl) _ rfl (by simp only [execOp, e2, Option.map, Sem.run_bind, run_cutAll (P := Tryd.prog) Tryd.underlying22 (by kernel_rfl), Result.andThen_ok, Sem.run_pure])
      · intro a1 w1 hG hF
        obtain ⟨_, e34, rfl⟩ := hF.dp 8 34 (by kernel_rfl)
        exact s_str rfl (wantsG hF 5 31 true rfl (by kernel_rfl) rfl) 23 9 5 (.tmp 34) rfl Tryd.underlying23 Tryd.underlying5 Tryd.underlying9 _ _ _ (M) e34 (((Gr.drew w2).trans hG).rd hr2) rfl
      · intro a1 w1 hG hF
        exact s_old rfl (wantsG hF 5 31 true rfl (by kernel_rfl) rfl) (.tmp 1) (.inr rfl) (.int .i64 ((e : Nat) : Int)) (hF.ol 1 (by kernel_rfl)) rfl
      · intro a1 w1 hG hF
        obtain ⟨_, e35, rfl⟩ := hF.dp 9 35 (by kernel_rfl)
        obtain ⟨_, e36, rfl⟩ := hF.dp 10 36 (by kernel_rfl)
        exact s_call rfl (wantsG hF 5 31 true rfl (by kernel_rfl) rfl) _ rfl _ _ (by simp only [execOp, resolve, invoke, List.map_toArray, List.map_cons, List.map_nil, e35, e36]; go_simp) ((HR.out w1).mono fun e w2 ⟨he, hb⟩ => ⟨_, he, rfl, hb⟩)
      · intro a1 w1 hG hF
        obtain ⟨_, e33, rfl⟩ := hF.dp 7 33 (by kernel_rfl)
        obtain ⟨_, e37, rfl⟩ := hF.dp 11 37 (by kernel_rfl)
        exact s_is rfl (wantsG hF 5 31 true rfl (by kernel_rfl) rfl) _ rfl (by simp only [execOp, e33, e37]; go_simp)
      · intro a1 w1 hG hF
        obtain ⟨_, e31, rfl⟩ := hF.dp 5 31 (by kernel_rfl)
        obtain ⟨_, e38, rfl⟩ := hF.dp 12 38 (by kernel_rfl)
        exact s_pick rfl (wants0 rfl) (.tmp 31) (.tmp 38) _ rfl e31 _ e38 rfl
      · intro a1 w1 hG hF
        exact s_same rfl (wants0 rfl) (.tmp 39) (.inl rfl) (hF.dp 13 39 (by kernel_rfl))
    · intro vs w1 hG hf
      have z4 : vs 14 = .bool true := hf.2.2.2.2.2.2.2.2.2.2.2.2.2.2.1
      clear hf
      simp only [putAll, Nat.zero_add, Nat.reduceAdd, z4]
      go_simp
      go_wp2_with fail
      go_ret
      exact ⟨rfl, Gr.trans G2 ((Gr.drew w2).trans hG)⟩
  · have hz' : z < 1 ∨ 1048576 < z := by omega
    obtain ⟨Z, hZ⟩ : ∃ Z : List UInt8, Z = List.replicate 32 0 := ⟨_, rfl⟩
    have hZl : Z.length = 32 := by rw [hZ]; rfl
    have HK : Hid (∀ w, Calls Tryd.prog 15 #[.agg (u8s M).toArray, .int .i64 z] w fun r w' => r = .returned (.tuple #[.agg (u8s Z).toArray, .int .i64 1]) ∧ Below w.heap.size w w') := by
      intro w
      rw [hZ]
      exact sealK_no M z hz' w
    have HQ : Hid (∀ w, (Op.equalIn 10000 22 (.agg (u8s Z).toArray) (.agg #[.int .u8 0, .int .u8 0, .int .u8 0, .int .u8 0, .int .u8 0, .int .u8 0, .int .u8 0, .int .u8 0, .int .u8 0, .int .u8 0, .int .u8 0, .int .u8 0, .int .u8 0, .int .u8 0, .int .u8 0, .int .u8 0, .int .u8 0, .int .u8 0, .int .u8 0, .int .u8 0, .int .u8 0, .int .u8 0, .int .u8 0, .int .u8 0, .int .u8 0, .int .u8 0, .int .u8 0, .int .u8 0, .int .u8 0, .int .u8 0, .int .u8 0, .int .u8 0])).run Tryd.prog w = .ok true w) := by
      intro w
      rw [hZ]
      exact eqA32 (List.replicate 32 0) rfl w
    have HE := Lib.hid (epoch_no z hz')
    have HH := Lib.hid hides_any
    clear hz hz' hZ
    go_wp2_with first
      | (refine wpList_load_mid rfl 22 (.tmp 2) rfl g2 0 rfl (u8s M) _ h2.range Tryd.underlying22 rfl (infoU8_32 M hM) ?_)
    refine (HK.out w0).mono ?_
    rintro r w1 ⟨rfl, hB1⟩
    go_wp2_with (refine wpList_new rfl 22 (.tmp 5) (.tmp 11) rfl _ (u8s Z) rfl rfl rfl (by simp only [u8s_length, hZl]; rfl) (infoU8_32 Z hZl) (u8s_oneCell _) ?_; intro w2 h5 hG2)
    have G2 : Gr w w2 := G0.trans (Gr.trans hB1 hG2)
    generalize w1.heap.size = g5 at h5 ⊢
    clear hB1 hG2 G0
    refine (HE.out w2).mono ?_
    rintro r _ ⟨rfl, rfl⟩
    go_wp2_with fail
    refine (HH.out w2).mono ?_
    rintro r w3 ⟨rfl, hB3⟩
    have h53 := h5.gr hB3
    have G3 := G2.trans hB3
    have heq := HQ.out w3
    clear h5 hB3 G2
    go_wp2_with first
      | (refine wpList_loadW rfl 22 (.tmp 5) rfl rfl h53 ⟨_, _, Tryd.underlying22⟩ (infoU8_32 Z hZl) ?_)
    go_ret
    exact ⟨rfl, G3⟩
end Go.Proofs.YtficbedibjgoeaaDoor

