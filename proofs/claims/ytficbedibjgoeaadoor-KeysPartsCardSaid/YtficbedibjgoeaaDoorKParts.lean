/- The walk of the law KeysParts. No condition. -/
import Derived.Test.YtficbedibjgoeaaDoorKeysN
namespace Go.Proofs.YtficbedibjgoeaaDoor
open Go.RowKit
set_option maxRecDepth 100000 in
set_option maxHeartbeats 8000000 in
theorem law_kparts (zc za zb : Int) (w : World) :
    Calls Tryd.prog 5 #[.int .i64 zc, .int .i64 za, .int .i64 zb] w fun e w' => e = .returned (.bool true) ∧ Below w.heap.size w w' := by
  obtain ⟨qc, hqc, ec⟩ := wrap_remB zc 16 (by omega) (by omega)
  obtain ⟨qa, hqa, ea⟩ := wrap_remB za 4611686018427387904 (by omega) (by omega)
  obtain ⟨qb, hqb, eb⟩ := wrap_remB zb 4611686018427387904 (by omega) (by omega)
  obtain ⟨c, hc⟩ : ∃ c, c = 1 + qc := ⟨_, rfl⟩
  obtain ⟨a, ha⟩ : ∃ c, c = 1 + qa := ⟨_, rfl⟩
  obtain ⟨b, hb⟩ : ∃ c, c = 1 + qb := ⟨_, rfl⟩
  have EC : Hid (wrap64 ((IntKind.u64.wrap zc).tmod 16) = (qc : Int)) := ec
  have EA : Hid (wrap64 ((IntKind.u64.wrap za).tmod 4611686018427387904) = (qa : Int)) := ea
  have EB : Hid (wrap64 ((IntKind.u64.wrap zb).tmod 4611686018427387904) = (qb : Int)) := eb
  have SC : Hid (wrap64 (1 + (qc : Int)) = (c : Int)) := by show _ = _; rw [IntWalk.wrap64_in _ (by omega)]; omega
  have SA : Hid (wrap64 (1 + (qa : Int)) = (a : Int)) := by show _ = _; rw [IntWalk.wrap64_in _ (by omega)]; omega
  have SB : Hid (wrap64 (1 + (qb : Int)) = (b : Int)) := by show _ = _; rw [IntWalk.wrap64_in _ (by omega)]; omega
  have hc16 : c ≤ 16 := by omega
  have ha62 : a ≤ 4611686018427387904 := by omega
  have hb62 : b ≤ 4611686018427387904 := by omega
  obtain ⟨X, hX⟩ : ∃ X, X = nonceL c a := ⟨_, rfl⟩
  obtain ⟨Y, hY⟩ : ∃ X, X = nonceL c b := ⟨_, rfl⟩
  have hXl : X.length = 12 := by rw [hX]; simp
  have hYl : Y.length = 12 := by rw [hY]; simp
  have HX : Hid (∀ w, Calls Tryd.prog 11 #[.int .i64 (c : Int), .int .i64 (a : Int)] w fun e w' => e = .returned (.tuple #[.agg (u8s X).toArray, .int .i64 0]) ∧ Below w.heap.size w w') := by
    intro w
    rw [hX]
    exact nonce_any c a (by omega) hc16 (by omega) ha62 w
  have HY : Hid (∀ w, Calls Tryd.prog 11 #[.int .i64 (c : Int), .int .i64 (b : Int)] w fun e w' => e = .returned (.tuple #[.agg (u8s Y).toArray, .int .i64 0]) ∧ Below w.heap.size w w') := by
    intro w
    rw [hY]
    exact nonce_any c b (by omega) hc16 (by omega) hb62 w
  have HL : Hid (Op.bytesLess X Y = decide (a < b)) := by
    show _ = _
    rw [hX, hY]
    exact nonceL_less (by omega) (by omega)
  have hX3 : X[3]? = some (UInt8.ofNat c) := by rw [hX]; exact nonceL_client
  have hY3 : Y[3]? = some (UInt8.ofNat c) := by rw [hY]; exact nonceL_client
  clear hX hY ec ea eb hc ha hb hqc hqa hqb
  go_enter Tryd.func5, Tryd.ntmps5
  go_upto_region 2 with fail
  simp only [EC.out, SC.out]
  go_upto_region 3 with fail
  simp only [EA.out, SA.out, EB.out, SB.out]
  go_wp2_with fail
  refine (HX.out w).mono ?_
  rintro e w1 ⟨rfl, hB1⟩
  go_upto_region 4 with (refine wpList_new rfl 33 (.tmp 7) (.tmp 30) rfl _ (u8s X) rfl rfl rfl (by simp only [u8s_length, hXl]; rfl) (info12 X hXl) (u8s_oneCell _) ?_; intro w2 h7 hG2)
  have hB2 := hB1.trans (hG2.mono hB1.size)
  generalize w1.heap.size = g7 at h7 ⊢
  clear hB1 hG2
  go_wp2_with fail
  refine (HY.out w2).mono ?_
  rintro e w3 ⟨rfl, hB3⟩
  have h73 := h7.gr hB3
  have hB4 := hB2.trans (hB3.mono hB2.size)
  clear hB2 hB3 h7
  go_upto_region 5 with (refine wpList_new rfl 33 (.tmp 9) (.tmp 36) rfl _ (u8s Y) rfl rfl rfl (by simp only [u8s_length, hYl]; rfl) (info12 Y hYl) (u8s_oneCell _) ?_; intro w4 h9 hG4)
  have h74 := h73.gr hG4
  have hB5 := hB4.trans (hG4.mono hB4.size)
  generalize w3.heap.size = g9 at h9 ⊢
  have hr7 := h74.rdAll hXl
  have hr9 := h9.rdAll hYl
  have c7 := h74.cell (i := 3) (u8s_at hX3)
  have c9 := h9.cell (i := 3) (u8s_at hY3)
  clear h73 hB4 hG4
  refine wp_region_ssaL (by kernel_rfl) [IsV (.bool true), IsV (.bool true), IsV (.int .i64 ((0 : Nat) : Int)), IsV (.bool true), IsV (.bool true), IsV (.bool true), IsV (.int .i64 ((0 : Nat) : Int)), IsV (.bool true), IsV (.bool true), IsV (.bool true), IsV (.slice (some ⟨g7, 0, none⟩) 12 12), IsV (.string ⟨(X).toArray⟩), IsV (.slice (some ⟨g9, 0, none⟩) 12 12), IsV (.string ⟨(Y).toArray⟩), IsV (.bool (decide (a < b))), IsV (.int .i64 ((a : Nat) : Int)), IsV (.int .i64 ((b : Nat) : Int)), IsV (.bool (decide (a < b))), IsV (.bool true), IsV (.bool true), IsV (.bool true), IsV (.pointer (some ⟨g7, 3, none⟩)), IsV (.int .u8 (((UInt8.ofNat c)).toNat : Int)), IsV (.int .i64 ((c : Nat) : Int)), IsV (.int .u8 (((UInt8.ofNat c)).toNat : Int)), IsV (.bool true), IsV (.bool true), IsV (.bool true), IsV (.pointer (some ⟨g9, 3, none⟩)), IsV (.int .u8 (((UInt8.ofNat c)).toNat : Int)), IsV (.int .i64 ((c : Nat) : Int)), IsV (.int .u8 (((UInt8.ofNat c)).toNat : Int)), IsV (.bool true), IsV (.bool true), IsV (.bool true)] (by kernel_rfl) ?_ ?_ ?_
  · intro φ hφ v w1 w2 h hg
    simp only [List.mem_cons, List.not_mem_nil, or_false] at hφ
    rcases hφ with rfl | rfl | rfl | rfl | rfl | rfl | rfl | rfl | rfl | rfl | rfl | rfl | rfl | rfl | rfl | rfl | rfl | rfl | rfl | rfl | rfl | rfl | rfl | rfl | rfl | rfl | rfl | rfl | rfl | rfl | rfl | rfl | rfl | rfl | rfl
    all_goals first | exact h | exact RdV.gr h hg
  · refine ⟨?_, ?_, ?_, ?_, ?_, ?_, ?_, ?_, ?_, ?_, ?_, ?_, ?_, ?_, ?_, ?_, ?_, ?_, ?_, ?_, ?_, ?_, ?_, ?_, ?_, ?_, ?_, ?_, ?_, ?_, ?_, ?_, ?_, ?_, ?_, trivial⟩
    · intro a1 w1 hG hF
      exact s_call rfl (wants0 rfl) _ rfl _ _ (by simp only [execOp, resolve, invoke, List.map_toArray, List.map_nil]; go_simp) ((hides_any w1).mono fun e w2 ⟨he, hb⟩ => ⟨_, he, rfl, hb⟩)
    · intro a1 w1 hG hF
      exact s_same rfl (wants0 rfl) (.tmp 38) (.inr rfl) (hF.dp 0 38 (by kernel_rfl))
    · intro a1 w1 hG hF
      exact s_old rfl (wantsG hF 1 39 true rfl (by kernel_rfl) rfl) (.tmp 8) (.inr rfl) (.int .i64 ((0 : Nat) : Int)) (hF.ol 8 (by kernel_rfl)) rfl
    · intro a1 w1 hG hF
      obtain ⟨_, e40, rfl⟩ := hF.dp 2 40 (by kernel_rfl)
      exact s_is rfl (wantsG hF 1 39 true rfl (by kernel_rfl) rfl) _ rfl (by simp only [execOp, e40]; go_simp)
    · intro a1 w1 hG hF
      obtain ⟨_, e39, rfl⟩ := hF.dp 1 39 (by kernel_rfl)
      obtain ⟨_, e41, rfl⟩ := hF.dp 3 41 (by kernel_rfl)
      exact s_pick rfl (wants0 rfl) (.tmp 39) (.tmp 41) _ rfl e39 _ e41 rfl
    · intro a1 w1 hG hF
      exact s_same rfl (wants0 rfl) (.tmp 42) (.inr rfl) (hF.dp 4 42 (by kernel_rfl))
    · intro a1 w1 hG hF
      exact s_old rfl (wantsG hF 5 43 true rfl (by kernel_rfl) rfl) (.tmp 10) (.inr rfl) (.int .i64 ((0 : Nat) : Int)) (hF.ol 10 (by kernel_rfl)) rfl
    · intro a1 w1 hG hF
      obtain ⟨_, e44, rfl⟩ := hF.dp 6 44 (by kernel_rfl)
      exact s_is rfl (wantsG hF 5 43 true rfl (by kernel_rfl) rfl) _ rfl (by simp only [execOp, e44]; go_simp)
    · intro a1 w1 hG hF
      obtain ⟨_, e43, rfl⟩ := hF.dp 5 43 (by kernel_rfl)
      obtain ⟨_, e45, rfl⟩ := hF.dp 7 45 (by kernel_rfl)
      exact s_pick rfl (wants0 rfl) (.tmp 43) (.tmp 45) _ rfl e43 _ e45 rfl
    · intro a1 w1 hG hF
      exact s_same rfl (wants0 rfl) (.tmp 46) (.inr rfl) (hF.dp 8 46 (by kernel_rfl))
    · intro a1 w1 hG hF
      have e7 : a1.eval (.tmp 7) = .pointer (some ⟨g7, 0, none⟩) := hF.ol 7 (by kernel_rfl)
      exact s_is rfl (wantsG hF 9 47 true rfl (by kernel_rfl) rfl) _ rfl (by simp only [execOp, e7, Option.map, Sem.run_bind, run_cutAll (P := Tryd.prog) Tryd.underlying33 (by kernel_rfl), Result.andThen_ok, Sem.run_pure])
    · intro a1 w1 hG hF
      obtain ⟨_, e48, rfl⟩ := hF.dp 10 48 (by kernel_rfl)
      exact s_str rfl (wantsG hF 9 47 true rfl (by kernel_rfl) rfl) 23 9 5 (.tmp 48) rfl Tryd.underlying23 Tryd.underlying5 Tryd.underlying9 _ _ _ (X) e48 (((Gr.drew w4).trans hG).rd hr7) rfl
    · intro a1 w1 hG hF
      have e9 : a1.eval (.tmp 9) = .pointer (some ⟨g9, 0, none⟩) := hF.ol 9 (by kernel_rfl)
      exact s_is rfl (wantsG hF 9 47 true rfl (by kernel_rfl) rfl) _ rfl (by simp only [execOp, e9, Option.map, Sem.run_bind, run_cutAll (P := Tryd.prog) Tryd.underlying33 (by kernel_rfl), Result.andThen_ok, Sem.run_pure])
    · intro a1 w1 hG hF
      obtain ⟨_, e50, rfl⟩ := hF.dp 12 50 (by kernel_rfl)
      exact s_str rfl (wantsG hF 9 47 true rfl (by kernel_rfl) rfl) 23 9 5 (.tmp 50) rfl Tryd.underlying23 Tryd.underlying5 Tryd.underlying9 _ _ _ (Y) e50 (((Gr.drew w4).trans hG).rd hr9) rfl
    · intro a1 w1 hG hF
      obtain ⟨_, e49, rfl⟩ := hF.dp 11 49 (by kernel_rfl)
      obtain ⟨_, e51, rfl⟩ := hF.dp 13 51 (by kernel_rfl)
      exact s_is rfl (wantsG hF 9 47 true rfl (by kernel_rfl) rfl) _ rfl (by rw [run_lssS e49 e51, HL.out])
    · intro a1 w1 hG hF
      exact s_old rfl (wantsG hF 9 47 true rfl (by kernel_rfl) rfl) (.tmp 1) (.inr rfl) (.int .i64 ((a : Nat) : Int)) (hF.ol 1 (by kernel_rfl)) rfl
    · intro a1 w1 hG hF
      exact s_old rfl (wantsG hF 9 47 true rfl (by kernel_rfl) rfl) (.tmp 2) (.inr rfl) (.int .i64 ((b : Nat) : Int)) (hF.ol 2 (by kernel_rfl)) rfl
    · intro a1 w1 hG hF
      obtain ⟨_, e53, rfl⟩ := hF.dp 15 53 (by kernel_rfl)
      obtain ⟨_, e54, rfl⟩ := hF.dp 16 54 (by kernel_rfl)
      exact s_is rfl (wantsG hF 9 47 true rfl (by kernel_rfl) rfl) _ rfl (run_lssN (a := a) (b := b) e53 e54)
    · intro a1 w1 hG hF
      obtain ⟨_, e52, rfl⟩ := hF.dp 14 52 (by kernel_rfl)
      obtain ⟨_, e55, rfl⟩ := hF.dp 17 55 (by kernel_rfl)
      exact s_is rfl (wantsG hF 9 47 true rfl (by kernel_rfl) rfl) _ rfl (by simp only [execOp, e52, e55]; go_simp)
    · intro a1 w1 hG hF
      obtain ⟨_, e47, rfl⟩ := hF.dp 9 47 (by kernel_rfl)
      obtain ⟨_, e56, rfl⟩ := hF.dp 18 56 (by kernel_rfl)
      exact s_pick rfl (wants0 rfl) (.tmp 47) (.tmp 56) _ rfl e47 _ e56 rfl
    · intro a1 w1 hG hF
      exact s_same rfl (wants0 rfl) (.tmp 57) (.inr rfl) (hF.dp 19 57 (by kernel_rfl))
    · intro a1 w1 hG hF
      have e7 : a1.eval (.tmp 7) = .pointer (some ⟨g7, 0, none⟩) := hF.ol 7 (by kernel_rfl)
      exact s_is rfl (wantsG hF 20 58 true rfl (by kernel_rfl) rfl) _ rfl (run_idx (i := 3) Tryd.underlying33 (by kernel_rfl) e7 rfl (by omega))
    · intro a1 w1 hG hF
      obtain ⟨_, e59, rfl⟩ := hF.dp 21 59 (by kernel_rfl)
      exact s_is rfl (wantsG hF 20 58 true rfl (by kernel_rfl) rfl) _ rfl (run_load1 Tryd.underlying5 e59 (Gr.cell ((Gr.drew w4).trans hG) c7))
    · intro a1 w1 hG hF
      exact s_old rfl (wantsG hF 20 58 true rfl (by kernel_rfl) rfl) (.tmp 0) (.inr rfl) (.int .i64 ((c : Nat) : Int)) (hF.ol 0 (by kernel_rfl)) rfl
    · intro a1 w1 hG hF
      obtain ⟨_, e61, rfl⟩ := hF.dp 23 61 (by kernel_rfl)
      exact s_is rfl (wantsG hF 20 58 true rfl (by kernel_rfl) rfl) _ rfl (run_byteN Tryd.underlying3 Tryd.underlying5 (by omega) e61)
    · intro a1 w1 hG hF
      obtain ⟨_, e60, rfl⟩ := hF.dp 22 60 (by kernel_rfl)
      obtain ⟨_, e62, rfl⟩ := hF.dp 24 62 (by kernel_rfl)
      exact s_is rfl (wantsG hF 20 58 true rfl (by kernel_rfl) rfl) _ rfl (by simp only [execOp, e60, e62]; go_simp)
    · intro a1 w1 hG hF
      obtain ⟨_, e58, rfl⟩ := hF.dp 20 58 (by kernel_rfl)
      obtain ⟨_, e63, rfl⟩ := hF.dp 25 63 (by kernel_rfl)
      exact s_pick rfl (wants0 rfl) (.tmp 58) (.tmp 63) _ rfl e58 _ e63 rfl
    · intro a1 w1 hG hF
      exact s_same rfl (wants0 rfl) (.tmp 64) (.inr rfl) (hF.dp 26 64 (by kernel_rfl))
    · intro a1 w1 hG hF
      have e9 : a1.eval (.tmp 9) = .pointer (some ⟨g9, 0, none⟩) := hF.ol 9 (by kernel_rfl)
      exact s_is rfl (wantsG hF 27 65 true rfl (by kernel_rfl) rfl) _ rfl (run_idx (i := 3) Tryd.underlying33 (by kernel_rfl) e9 rfl (by omega))
    · intro a1 w1 hG hF
      obtain ⟨_, e66, rfl⟩ := hF.dp 28 66 (by kernel_rfl)
      exact s_is rfl (wantsG hF 27 65 true rfl (by kernel_rfl) rfl) _ rfl (run_load1 Tryd.underlying5 e66 (Gr.cell ((Gr.drew w4).trans hG) c9))
    · intro a1 w1 hG hF
      exact s_old rfl (wantsG hF 27 65 true rfl (by kernel_rfl) rfl) (.tmp 0) (.inr rfl) (.int .i64 ((c : Nat) : Int)) (hF.ol 0 (by kernel_rfl)) rfl
    · intro a1 w1 hG hF
      obtain ⟨_, e68, rfl⟩ := hF.dp 30 68 (by kernel_rfl)
      exact s_is rfl (wantsG hF 27 65 true rfl (by kernel_rfl) rfl) _ rfl (run_byteN Tryd.underlying3 Tryd.underlying5 (by omega) e68)
    · intro a1 w1 hG hF
      obtain ⟨_, e67, rfl⟩ := hF.dp 29 67 (by kernel_rfl)
      obtain ⟨_, e69, rfl⟩ := hF.dp 31 69 (by kernel_rfl)
      exact s_is rfl (wantsG hF 27 65 true rfl (by kernel_rfl) rfl) _ rfl (by simp only [execOp, e67, e69]; go_simp)
    · intro a1 w1 hG hF
      obtain ⟨_, e65, rfl⟩ := hF.dp 27 65 (by kernel_rfl)
      obtain ⟨_, e70, rfl⟩ := hF.dp 32 70 (by kernel_rfl)
      exact s_pick rfl (wants0 rfl) (.tmp 65) (.tmp 70) _ rfl e65 _ e70 rfl
    · intro a1 w1 hG hF
      exact s_same rfl (wants0 rfl) (.tmp 71) (.inl rfl) (hF.dp 33 71 (by kernel_rfl))
  · intro vs w1 hG hf
    have z6 : vs 34 = .bool true := hf.2.2.2.2.2.2.2.2.2.2.2.2.2.2.2.2.2.2.2.2.2.2.2.2.2.2.2.2.2.2.2.2.2.2.1
    clear hf
    simp only [putAll, Nat.zero_add, Nat.reduceAdd, z6]
    go_simp
    go_wp2_with fail
    go_ret
    exact ⟨rfl, hB5.trans (((Gr.drew w4).trans hG).mono hB5.size)⟩
end Go.Proofs.YtficbedibjgoeaaDoor

