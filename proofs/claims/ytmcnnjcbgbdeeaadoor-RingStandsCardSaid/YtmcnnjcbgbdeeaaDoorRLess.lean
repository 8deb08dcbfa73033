/- The walk of the order of the ring's points: the closure that New hands to the sort. No condition. -/
import Derived.Test.YtmcnnjcbgbdeeaaDoorRCmp1
namespace Go.Proofs.YtmcnnjcbgbdeeaaDoor
open Go.RowKit
theorem run_build3I {ev : Operand → Value} {d : Option Tmp} {t : TypeId} {p : String} {af : Array Edge} {gd : Option (Nat × Bool)} {w : World} {x y z : Operand} {a b c : Int} (h1 : ev x = .int .i64 a) (h2 : ev y = .int .i64 b) (h3 : ev z = .int .i64 c) :
    (execOp ev ⟨d, .buildSlice 30 3 #[(0, x), (1, y), (2, z)], t, p, af, gd⟩).run Tryd.prog w = .ok (.value (.slice (some ⟨w.heap.size, 0, none⟩) 3 3)) (w.alloc (.cells #[.int .i64 a, .int .i64 b, .int .i64 c] 3)) := by
  simp only [execOp, List.map_toArray, List.map_cons, List.map_nil, h1, h2, h3]
  go_simp
set_option maxRecDepth 100000 in
set_option maxHeartbeats 8000000 in
theorem less_any (a b c x y z : Int) (w : World) : Calls Tryd.prog 19 #[.agg #[.int .u64 a, .int .i64 b, .int .i64 c], .agg #[.int .u64 x, .int .i64 y, .int .i64 z]] w fun e w' => e = .returned (.int .i64 (or3 (cmpZ a x) (cmpZ b y) (cmpZ c z))) ∧ GG w w' := by
  have h2 : Arr (w.alloc (.cells [.int .u64 a, .int .i64 b, .int .i64 c].toArray 53)) w.heap.size 53 [.int .u64 a, .int .i64 b, .int .i64 c] := Arr.newAt rfl rfl
  obtain ⟨wa, hwa⟩ : ∃ wa, wa = w.alloc (.cells [.int .u64 a, .int .i64 b, .int .i64 c].toArray 53) := ⟨_, rfl⟩
  have ga : GG w wa := by rw [hwa]; exact GG.alloc _ _
  rw [← hwa] at h2
  have h3 : Arr (wa.alloc (.cells [.int .u64 x, .int .i64 y, .int .i64 z].toArray 53)) wa.heap.size 53 [.int .u64 x, .int .i64 y, .int .i64 z] := Arr.newAt rfl rfl
  have h23 := h2.gr (Gr.alloc wa (.cells [.int .u64 x, .int .i64 y, .int .i64 z].toArray 53))
  have gb : GG w (wa.alloc (.cells [.int .u64 x, .int .i64 y, .int .i64 z].toArray 53)) := ga.trans (GG.alloc _ _)
  have HU := Lib.hid cmpU_any
  have HI := Lib.hid cmpI_any
  have hsz : wa.heap.size = w.heap.size + 1 := by rw [hwa]; exact Array.size_push _
  rw [hsz] at h3
  clear hsz
  subst hwa
  go_enter Tryd.func19, Tryd.ntmps19
  go_upto_region 1 with fail
  change Code.wp _ _ _ _ ((w.alloc (.cells [.int .u64 a, .int .i64 b, .int .i64 c].toArray 53)).alloc (.cells [.int .u64 x, .int .i64 y, .int .i64 z].toArray 53))
  generalize (w.alloc (.cells [.int .u64 a, .int .i64 b, .int .i64 c].toArray 53)).alloc (.cells [.int .u64 x, .int .i64 y, .int .i64 z].toArray 53) = w0 at h3 h23 gb ⊢
  generalize w.heap.size + 1 = g3 at h3 ⊢
  generalize w.heap.size = g2 at h23 ⊢
  have a0 := h23.cell (i := 0) (v := .int .u64 a) rfl
  have a1c := h23.cell (i := 1) (v := .int .i64 b) rfl
  have a2 := h23.cell (i := 2) (v := .int .i64 c) rfl
  have b0 := h3.cell (i := 0) (v := .int .u64 x) rfl
  have b1 := h3.cell (i := 1) (v := .int .i64 y) rfl
  have b2 := h3.cell (i := 2) (v := .int .i64 z) rfl
  refine wp_region_cutG GG GG.refl (fun _ _ _ => GG.trans) (by kernel_rfl) [IsV (.pointer (some ⟨g2, 0, none⟩)), IsV (.int .u64 a), IsV (.pointer (some ⟨g3, 0, none⟩)), IsV (.int .u64 x), IsV (.int .i64 (cmpZ a x)), IsV (.pointer (some ⟨g2, 1, none⟩)), IsV (.int .i64 (b)), IsV (.pointer (some ⟨g3, 1, none⟩)), IsV (.int .i64 (y)), IsV (.int .i64 (cmpZ b y)), IsV (.pointer (some ⟨g2, 2, none⟩)), IsV (.int .i64 (c)), IsV (.pointer (some ⟨g3, 2, none⟩)), IsV (.int .i64 (z)), IsV (.int .i64 (cmpZ c z)), Row3 (cmpZ a x) (cmpZ b y) (cmpZ c z)] 16 (by decide) (by kernel_rfl) (by kernel_rfl) (by kernel_rfl) ?_ ?_ ?_
  · intro φ hφ v w1 w2 h hg
    simp only [List.mem_cons, List.not_mem_nil, or_false] at hφ
    rcases hφ with rfl | rfl | rfl | rfl | rfl | rfl | rfl | rfl | rfl | rfl | rfl | rfl | rfl | rfl | rfl | rfl
    all_goals first | exact h | exact Row3.gr h (GG.gr hg)
  · refine ⟨?_, ?_, ?_, ?_, ?_, ?_, ?_, ?_, ?_, ?_, ?_, ?_, ?_, ?_, ?_, ?_, trivial⟩
    · intro a1 w1 hG hF
      have hG := GG.gr hG
      have e2 : a1.eval (.tmp 2) = .pointer (some ⟨g2, 0, none⟩) := hF.ol 2 (by kernel_rfl)
      exact gg_val rfl rfl _ _ (run_fieldR (o := 0) (k := 0) Tryd.underlying53 rfl rfl (by kernel_rfl) e2) rfl (GG.refl _)
    · intro a1 w1 hG hF
      have hG := GG.gr hG
      obtain ⟨_, e5, rfl⟩ := hF.dp 0 5 (by kernel_rfl)
      exact gg_val rfl rfl _ _ (run_load1 Tryd.underlying24 e5 (Gr.cell ((Gr.drew w0).trans hG) a0)) rfl (GG.refl _)
    · intro a1 w1 hG hF
      have hG := GG.gr hG
      have e3 : a1.eval (.tmp 3) = .pointer (some ⟨g3, 0, none⟩) := hF.ol 3 (by kernel_rfl)
      exact gg_val rfl rfl _ _ (run_fieldR (o := 0) (k := 0) Tryd.underlying53 rfl rfl (by kernel_rfl) e3) rfl (GG.refl _)
    · intro a1 w1 hG hF
      have hG := GG.gr hG
      obtain ⟨_, e7, rfl⟩ := hF.dp 2 7 (by kernel_rfl)
      exact gg_val rfl rfl _ _ (run_load1 Tryd.underlying24 e7 (Gr.cell ((Gr.drew w0).trans hG) b0)) rfl (GG.refl _)
    · intro a1 w1 hG hF
      have hG := GG.gr hG
      obtain ⟨_, e6, rfl⟩ := hF.dp 1 6 (by kernel_rfl)
      obtain ⟨_, e8, rfl⟩ := hF.dp 3 8 (by kernel_rfl)
      exact gg_call rfl rfl _ _ (by simp only [execOp, resolve, invoke, List.map_toArray, List.map_cons, List.map_nil, e6, e8]; go_simp) _ (HU.out a x w1) rfl (GG.refl _)
    · intro a1 w1 hG hF
      have hG := GG.gr hG
      have e2 : a1.eval (.tmp 2) = .pointer (some ⟨g2, 0, none⟩) := hF.ol 2 (by kernel_rfl)
      exact gg_val rfl rfl _ _ (run_fieldR (o := 1) (k := 0) Tryd.underlying53 rfl rfl (by kernel_rfl) e2) rfl (GG.refl _)
    · intro a1 w1 hG hF
      have hG := GG.gr hG
      obtain ⟨_, e10, rfl⟩ := hF.dp 5 10 (by kernel_rfl)
      exact gg_val rfl rfl _ _ (run_load1 Tryd.underlying3 e10 (Gr.cell ((Gr.drew w0).trans hG) a1c)) rfl (GG.refl _)
    · intro a1 w1 hG hF
      have hG := GG.gr hG
      have e3 : a1.eval (.tmp 3) = .pointer (some ⟨g3, 0, none⟩) := hF.ol 3 (by kernel_rfl)
      exact gg_val rfl rfl _ _ (run_fieldR (o := 1) (k := 0) Tryd.underlying53 rfl rfl (by kernel_rfl) e3) rfl (GG.refl _)
    · intro a1 w1 hG hF
      have hG := GG.gr hG
      obtain ⟨_, e12, rfl⟩ := hF.dp 7 12 (by kernel_rfl)
      exact gg_val rfl rfl _ _ (run_load1 Tryd.underlying3 e12 (Gr.cell ((Gr.drew w0).trans hG) b1)) rfl (GG.refl _)
    · intro a1 w1 hG hF
      have hG := GG.gr hG
      obtain ⟨_, e11, rfl⟩ := hF.dp 6 11 (by kernel_rfl)
      obtain ⟨_, e13, rfl⟩ := hF.dp 8 13 (by kernel_rfl)
      exact gg_call rfl rfl _ _ (by simp only [execOp, resolve, invoke, List.map_toArray, List.map_cons, List.map_nil, e11, e13]; go_simp) _ (HI.out b y w1) rfl (GG.refl _)
    · intro a1 w1 hG hF
      have hG := GG.gr hG
      have e2 : a1.eval (.tmp 2) = .pointer (some ⟨g2, 0, none⟩) := hF.ol 2 (by kernel_rfl)
      exact gg_val rfl rfl _ _ (run_fieldR (o := 2) (k := 0) Tryd.underlying53 rfl rfl (by kernel_rfl) e2) rfl (GG.refl _)
    · intro a1 w1 hG hF
      have hG := GG.gr hG
      obtain ⟨_, e15, rfl⟩ := hF.dp 10 15 (by kernel_rfl)
      exact gg_val rfl rfl _ _ (run_load1 Tryd.underlying3 e15 (Gr.cell ((Gr.drew w0).trans hG) a2)) rfl (GG.refl _)
    · intro a1 w1 hG hF
      have hG := GG.gr hG
      have e3 : a1.eval (.tmp 3) = .pointer (some ⟨g3, 0, none⟩) := hF.ol 3 (by kernel_rfl)
      exact gg_val rfl rfl _ _ (run_fieldR (o := 2) (k := 0) Tryd.underlying53 rfl rfl (by kernel_rfl) e3) rfl (GG.refl _)
    · intro a1 w1 hG hF
      have hG := GG.gr hG
      obtain ⟨_, e17, rfl⟩ := hF.dp 12 17 (by kernel_rfl)
      exact gg_val rfl rfl _ _ (run_load1 Tryd.underlying3 e17 (Gr.cell ((Gr.drew w0).trans hG) b2)) rfl (GG.refl _)
    · intro a1 w1 hG hF
      have hG := GG.gr hG
      obtain ⟨_, e16, rfl⟩ := hF.dp 11 16 (by kernel_rfl)
      obtain ⟨_, e18, rfl⟩ := hF.dp 13 18 (by kernel_rfl)
      exact gg_call rfl rfl _ _ (by simp only [execOp, resolve, invoke, List.map_toArray, List.map_cons, List.map_nil, e16, e18]; go_simp) _ (HI.out c z w1) rfl (GG.refl _)
    · intro a1 w1 hG hF
      have hG := GG.gr hG
      obtain ⟨_, e9, rfl⟩ := hF.dp 4 9 (by kernel_rfl)
      obtain ⟨_, e14, rfl⟩ := hF.dp 9 14 (by kernel_rfl)
      obtain ⟨_, e19, rfl⟩ := hF.dp 14 19 (by kernel_rfl)
      exact gg_val rfl rfl (.slice (some ⟨w1.heap.size, 0, none⟩) 3 3) (w1.alloc (.cells #[.int .i64 (cmpZ a x), .int .i64 (cmpZ b y), .int .i64 (cmpZ c z)] 3)) (run_build3I e9 e14 e19) ⟨_, rfl, Arr.newAt rfl rfl⟩ (GG.alloc _ _)
  · intro vs w1 hG hf
    have y20 : (Row3 (cmpZ a x) (cmpZ b y) (cmpZ c z)) (vs 15) w1 := hf.2.2.2.2.2.2.2.2.2.2.2.2.2.2.2.1
    clear hf
    simp only [List.take_succ_cons, List.take_zero, List.drop_succ_cons, List.drop_zero, putAll, Nat.zero_add, Nat.reduceAdd]
    have gF := (gb.trans (GG.drew _)).trans hG
    obtain ⟨gr, hy, hA⟩ := y20
    rw [hy]
    unfold wpList
    go_simp
    refine .inl ?_
    refine (or_any hA).mono ?_
    rintro e _ ⟨rfl, rfl⟩
    go_simp
    go_wp2_with fail
    go_ret
    exact ⟨rfl, gF⟩
end Go.Proofs.YtmcnnjcbgbdeeaaDoor

