/- The walk of the law's example: bytes come out of a key. No condition. -/
import Derived.Test.YtmmjjjdocanmfaaDoorRefExpand
import Derived.Lib.SlBytesConst
import Derived.Lib.SmallJoins
namespace Go.Proofs.YtmmjjjdocanmfaaDoor
open Go.RowKit
set_option maxRecDepth 100000 in
set_option maxHeartbeats 4000000 in
theorem expands_any (w : World) (gw : Glob w) : Calls Tryd.prog 7 #[] w fun e w' => e = .returned (.bool true) ∧ Below w.heap.size w w' := by
  have hcv1 := Lib.run_convert_bytes_const (P := Tryd.prog) w 22 5 #[.int .u8 107] 1 1 Tryd.underlying22 Tryd.underlying5
  have hcv2 := Joins.run_convert_bytes_const_at (P := Tryd.prog) (w.alloc (.cells #[.int .u8 107] 5 (1, 2))) 22 5 #[.int .u8 117] 1 1 (w.heap.size + 1) (by simp only [asz]) Tryd.underlying22 Tryd.underlying5
  obtain ⟨X, hX⟩ : ∃ X, X = expandL [107] [117] 40 := ⟨_, rfl⟩
  have HE : Hid (∀ w A B, Rd w (some A) 1 (u8s [107]) → Rd w B 1 (u8s [117]) → Glob w → Calls Tryd.prog 6 #[.slice (some A) 1 1, .slice B 1 1, .int .i64 40] w fun e w' => ∃ A', e = .returned (.tuple #[.slice A' 40 40, .int .i64 0]) ∧ Rd w' A' 40 (u8s X) ∧ Below w.heap.size w w') := by
    intro w A B h1 h2 h3
    rw [hX]
    exact expand_any (some A) 1 1 [107] B 1 1 [117] 40 (by omega) (by omega) (by omega) (by omega) (by omega) w h1 (by simp) h2 h3
  have HR : Hid (∀ w, Calls Tryd.prog 10 #[.string ⟨#[107]⟩, .string ⟨#[117]⟩, .int .i64 40] w fun e w' => e = .returned (.string ⟨X.toArray⟩) ∧ Below w.heap.size w w') := by
    intro w
    rw [hX]
    exact refExpand_any [107] [117] 40 (by simp) (by simp) (by omega) w
  clear hX
  go_enter Tryd.func7, Tryd.ntmps7
  go_wp2_with fail
  refine (HE.out _ ⟨w.heap.size, 0, none⟩ (some ⟨w.heap.size + 1, 0, none⟩) ((Gr.alloc _ _).rd (rd_made rfl _ _ _ 1 _ rfl rfl)) (rd_made (by simp only [asz]) _ _ _ 1 _ rfl rfl) (gw.gr ((Gr.alloc _ _).trans (Gr.alloc _ _)))).mono ?_
  rintro e w1 ⟨A1, rfl, hr1, hB1⟩
  have G1 : Gr w w1 := ((Gr.alloc _ _).trans (Gr.alloc _ _)).trans hB1
  clear hcv1 hcv2 hB1 HE
  go_wp2_with fail
  refine (expand_no none 0 0 none 0 0 8161 (by omega) w1).mono ?_
  rintro e w2 ⟨rfl, hB2⟩
  have hr2 := hr1.below hB2
  have hB3 : Below w.heap.size w w2 := Below.trans G1 (hB2.mono G1.size)
  clear hB2 hr1 G1 gw
  go_wp2_with fail
  refine wp_region_ssaL (by kernel_rfl) [IsV (.int .i64 ((0 : Nat) : Int)), IsV (.bool true), IsV (.bool true), IsV (.slice A1 40 40), IsV (.int .i64 ((40 : Nat) : Int)), IsV (.bool true), IsV (.bool true), IsV (.bool true), IsV (.slice A1 40 40), IsV (.string ⟨(X).toArray⟩), IsV (.string ⟨(X).toArray⟩), IsV (.bool true), IsV (.bool true), IsV (.bool true), IsV (.int .i64 ((1 : Nat) : Int)), IsV (.bool true), IsV (.bool true), IsV (.bool true)] (by kernel_rfl) ?_ ?_ ?_
  · intro φ hφ v w1 w2 h hg
    simp only [List.mem_cons, List.not_mem_nil, or_false] at hφ
    rcases hφ with rfl | rfl | rfl | rfl | rfl | rfl | rfl | rfl | rfl | rfl | rfl | rfl | rfl | rfl | rfl | rfl | rfl | rfl
    all_goals first | exact h | exact RdV.gr h hg
  · refine ⟨?_, ?_, ?_, ?_, ?_, ?_, ?_, ?_, ?_, ?_, ?_, ?_, ?_, ?_, ?_, ?_, ?_, ?_, trivial⟩
    · intro a1 w1 hG hF
      exact s_old rfl (wants0 rfl) (.tmp 2) (.inr rfl) (.int .i64 ((0 : Nat) : Int)) (hF.ol 2 (by kernel_rfl)) rfl
    · intro a1 w1 hG hF
      obtain ⟨_, e17, rfl⟩ := hF.dp 0 17 (by kernel_rfl)
      exact s_is rfl (wants0 rfl) _ rfl (by simp only [execOp, e17]; go_simp)
    · intro a1 w1 hG hF
      exact s_same rfl (wants0 rfl) (.tmp 18) (.inr rfl) (hF.dp 1 18 (by kernel_rfl))
    · intro a1 w1 hG hF
      exact s_old rfl (wantsG hF 2 19 true rfl (by kernel_rfl) rfl) (.tmp 1) (.inr rfl) (.slice A1 40 40) (hF.ol 1 (by kernel_rfl)) rfl
    · intro a1 w1 hG hF
      obtain ⟨_, e20, rfl⟩ := hF.dp 3 20 (by kernel_rfl)
      exact s_is rfl (wantsG hF 2 19 true rfl (by kernel_rfl) rfl) _ rfl (run_len_slice Tryd.underlying22 e20)
    · intro a1 w1 hG hF
      obtain ⟨_, e21, rfl⟩ := hF.dp 4 21 (by kernel_rfl)
      exact s_is rfl (wantsG hF 2 19 true rfl (by kernel_rfl) rfl) _ rfl (by simp only [execOp, e21]; go_simp)
    · intro a1 w1 hG hF
      obtain ⟨_, e19, rfl⟩ := hF.dp 2 19 (by kernel_rfl)
      obtain ⟨_, e22, rfl⟩ := hF.dp 5 22 (by kernel_rfl)
      exact s_pick rfl (wants0 rfl) (.tmp 19) (.tmp 22) _ rfl e19 _ e22 rfl
    · intro a1 w1 hG hF
      exact s_same rfl (wants0 rfl) (.tmp 23) (.inr rfl) (hF.dp 6 23 (by kernel_rfl))
    · intro a1 w1 hG hF
      exact s_old rfl (wantsG hF 7 24 true rfl (by kernel_rfl) rfl) (.tmp 1) (.inr rfl) (.slice A1 40 40) (hF.ol 1 (by kernel_rfl)) rfl
    · intro a1 w1 hG hF
      obtain ⟨_, e25, rfl⟩ := hF.dp 8 25 (by kernel_rfl)
      exact s_str rfl (wantsG hF 7 24 true rfl (by kernel_rfl) rfl) 22 9 5 (.tmp 25) rfl Tryd.underlying22 Tryd.underlying5 Tryd.underlying9 _ _ _ (X) e25 (((Gr.drew w2).trans hG).rd hr2) rfl
    · intro a1 w1 hG hF
      exact s_call rfl (wantsG hF 7 24 true rfl (by kernel_rfl) rfl) _ rfl _ _ (by simp only [execOp, resolve, invoke, List.map_toArray, List.map_cons, List.map_nil]; go_simp) ((HR.out w1).mono fun e w2 ⟨he, hb⟩ => ⟨_, he, rfl, hb⟩)
    · intro a1 w1 hG hF
      obtain ⟨_, e26, rfl⟩ := hF.dp 9 26 (by kernel_rfl)
      obtain ⟨_, e27, rfl⟩ := hF.dp 10 27 (by kernel_rfl)
      exact s_is rfl (wantsG hF 7 24 true rfl (by kernel_rfl) rfl) _ rfl (by simp only [execOp, e26, e27]; go_simp)
    · intro a1 w1 hG hF
      obtain ⟨_, e24, rfl⟩ := hF.dp 7 24 (by kernel_rfl)
      obtain ⟨_, e28, rfl⟩ := hF.dp 11 28 (by kernel_rfl)
      exact s_pick rfl (wants0 rfl) (.tmp 24) (.tmp 28) _ rfl e24 _ e28 rfl
    · intro a1 w1 hG hF
      exact s_same rfl (wants0 rfl) (.tmp 29) (.inr rfl) (hF.dp 12 29 (by kernel_rfl))
    · intro a1 w1 hG hF
      exact s_old rfl (wantsG hF 13 30 true rfl (by kernel_rfl) rfl) (.tmp 4) (.inr rfl) (.int .i64 ((1 : Nat) : Int)) (hF.ol 4 (by kernel_rfl)) rfl
    · intro a1 w1 hG hF
      obtain ⟨_, e31, rfl⟩ := hF.dp 14 31 (by kernel_rfl)
      exact s_is rfl (wantsG hF 13 30 true rfl (by kernel_rfl) rfl) _ rfl (by simp only [execOp, e31]; go_simp)
    · intro a1 w1 hG hF
      obtain ⟨_, e30, rfl⟩ := hF.dp 13 30 (by kernel_rfl)
      obtain ⟨_, e32, rfl⟩ := hF.dp 15 32 (by kernel_rfl)
      exact s_pick rfl (wants0 rfl) (.tmp 30) (.tmp 32) _ rfl e30 _ e32 rfl
    · intro a1 w1 hG hF
      exact s_same rfl (wants0 rfl) (.tmp 33) (.inl rfl) (hF.dp 16 33 (by kernel_rfl))
  · intro vs w1 hG hf
    have z0 : vs 17 = .bool true := hf.2.2.2.2.2.2.2.2.2.2.2.2.2.2.2.2.2.1
    clear hf
    simp only [putAll, Nat.zero_add, Nat.reduceAdd, z0]
    go_simp
    go_wp2_with fail
    go_ret
    exact ⟨rfl, hB3.trans (((Gr.drew w2).trans hG).mono hB3.size)⟩
end Go.Proofs.YtmmjjjdocanmfaaDoor

