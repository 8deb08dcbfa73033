/- The walk of Tree.Get. No condition. -/
import Derived.Test.YthpgldfjcancjaaDoorMkNil2
namespace Go.Proofs.YthpgldfjcancjaaDoor
open Go.RowKit
set_option maxRecDepth 100000 in
set_option maxHeartbeats 4000000 in
theorem get_any {w : World} {g b n : Nat} {M : List UInt8 → Option (List UInt8)} {N : Nat → Nat → List UInt8} (hT : TreeAt w g b n M N) (k : Nm) :
    Calls Tryd.prog 19 #[.pointer (some ⟨g, 0, none⟩), .agg (u8s k.1).toArray] w fun e w' => e = .returned (by32 ((M k.1).getD Z32)) ∧ Gr w w' := by
  obtain ⟨d, hd⟩ : ∃ d, d = (M k.1).getD Z32 := ⟨_, rfl⟩
  have hdl : d.length = 32 := by
    rw [hd]
    cases hM : M k.1 with
    | none => rfl
    | some x => exact (hT.map.len _ _ hM).2
  rw [← hd]
  have HT := Lib.hid hT
  have HD := Lib.hid hd
  clear hT hd
  go_enter Tryd.func19, Tryd.ntmps19
  go_upto_region 3 with fail
  have h3 : Arr ((w.alloc (.cells (u8s k.1).toArray 51)).alloc (.cells (u8s Z32).toArray 43)) w.heap.size 51 (u8s k.1) := Arr.alloc (Arr.newAt rfl rfl) _
  have h4 : Arr ((w.alloc (.cells (u8s k.1).toArray 51)).alloc (.cells (u8s Z32).toArray 43)) (w.heap.size + 1) 43 (u8s Z32) := Arr.newAt (by simp only [asz]) rfl
  have gb : Gr w ((w.alloc (.cells (u8s k.1).toArray 51)).alloc (.cells (u8s Z32).toArray 43)) := (Gr.alloc _ _).trans (Gr.alloc _ _)
  change Code.wp _ _ _ _ ((w.alloc (.cells (u8s k.1).toArray 51)).alloc (.cells (u8s Z32).toArray 43))
  generalize (w.alloc (.cells (u8s k.1).toArray 51)).alloc (.cells (u8s Z32).toArray 43) = w0 at h3 h4 gb ⊢
  obtain ⟨g4, hg4⟩ : ∃ g4, g4 = w.heap.size + 1 := ⟨_, rfl⟩
  rw [← hg4] at h4 ⊢
  generalize w.heap.size = g3 at h3 ⊢
  refine wp_region_cut (by kernel_rfl) [IsV (.pointer (some ⟨g, 0, none⟩)), IsV (.pointer (some ⟨g, 0, none⟩)), IsV (.pointer (some ⟨g, 0, none⟩)), IsV (.map (some b)), IsV (by32 k.1), IsV (by32 d)] 6 (by decide) (by kernel_rfl) (by kernel_rfl) (by kernel_rfl) ?_ ?_ ?_
  · intro φ hφ v w1 w2 h hg
    simp only [List.mem_cons, List.not_mem_nil, or_false] at hφ
    rcases hφ with rfl | rfl | rfl | rfl | rfl | rfl <;> exact h
  · refine ⟨?_, ?_, ?_, ?_, ?_, ?_, trivial⟩
    · intro a1 w1 hG hF
      exact s_old rfl (wants0 rfl) (.tmp 0) (.inr rfl) (.pointer (some ⟨g, 0, none⟩)) (hF.ol 0 (by kernel_rfl)) rfl
    · intro a1 w1 hG hF
      obtain ⟨_, e8, rfl⟩ := hF.dp 0 8 (by kernel_rfl)
      exact s_is rfl (wants0 rfl) _ rfl (by simp only [execOp, e8]; go_simp)
    · intro a1 w1 hG hF
      obtain ⟨_, e9, rfl⟩ := hF.dp 1 9 (by kernel_rfl)
      exact s_is rfl (wants0 rfl) _ rfl (by simp only [execOp, e9]; go_simp)
    · intro a1 w1 hG hF
      obtain ⟨_, e10, rfl⟩ := hF.dp 2 10 (by kernel_rfl)
      have hc := (HT.out.gr (gb.trans ((Gr.drew w0).trans hG))).cell0
      exact s_is rfl (wants0 rfl) _ rfl (by simp only [execOp, e10]; go_simp)
    · intro a1 w1 hG hF
      have e3 : a1.eval (.tmp 3) = .pointer (some ⟨g3, 0, none⟩) := hF.ol 3 (by kernel_rfl)
      have hA := h3.gr ((Gr.drew w0).trans hG)
      exact s_is rfl (wants0 rfl) _ rfl (by simp only [execOp, e3, hA.loadAt Tryd.underlying51 (infoN k), Sem.run_bind, Result.andThen_ok, Sem.run_pure]; rfl)
    · intro a1 w1 hG hF
      obtain ⟨_, e11, rfl⟩ := hF.dp 3 11 (by kernel_rfl)
      obtain ⟨_, e12, rfl⟩ := hF.dp 4 12 (by kernel_rfl)
      have hl := (HT.out.map.gr (gb.trans ((Gr.drew w0).trans hG))).look Tryd.underlying72 (Tryd.zeroValue43 _) k.2
      rw [← HD.out] at hl
      exact s_is rfl (wants0 rfl) _ rfl (by simp only [execOp, e11, e12, hl, Sem.run_bind, Result.andThen_ok, Sem.run_pure])
  · intro vs w1 hG hf
    have y13 : vs 5 = by32 d := hf.2.2.2.2.2.1
    clear hf
    simp only [List.take_succ_cons, List.take_zero, List.drop_succ_cons, List.drop_zero, putAll, Nat.zero_add, Nat.reduceAdd]
    have hG1 := (Gr.drew w0).trans hG
    have hA4 := h4.gr hG1
    have hi := infoD d hdl
    refine wpList_store_mid rfl _ _ _ rfl g4 0 (u8s d).toArray rfl (by rw [y13]; rfl) (by have := hA4.there; simpa [u8s_length, hdl, Z32_length] using this) (by simpa using hi) (all_oneCell_toArray (u8s_oneCell _)) ?_
    have hA5 := hA4.setAll (u8s d) (by rw [u8s_length, u8s_length, hdl]; rfl)
    have hG2 : Gr w (w1.setCells g4 0 (u8s d)) := Below.trans (gb.trans hG1) (below_setCells (by omega : w.heap.size ≤ g4) _ _ _)
    clear hg4
    rw [List.toList_toArray]
    generalize w1.setCells g4 0 (u8s d) = w2 at hA5 hG2 ⊢
    unfold wpList
    go_simp
    try refine .inl ?_
    try unfold wpList
    go_simp
    go_wp2_with fail
    refine bodyPost_ret (results_cell_row rfl _ _ g4 _ _ _ _ rfl hA5 Tryd.underlying43 rfl (by simpa using hi)) rfl ?_
    exact ⟨rfl, hG2⟩
end Go.Proofs.YthpgldfjcancjaaDoor
