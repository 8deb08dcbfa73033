/- The walks of the document's constants and right. No condition. -/
import Derived.Test.YthpgldfjcancjaaDoorKitS
import Derived.Test.YthpgldfjcancjaaDoorKitM
import Derived.Deep.Cut
namespace Go.Proofs.YthpgldfjcancjaaDoor
open Go.RowKit
theorem keysL_lit : (u32s keysL).toArray = #[.int .u32 1116352408, .int .u32 1899447441, .int .u32 3049323471, .int .u32 3921009573, .int .u32 961987163, .int .u32 1508970993, .int .u32 2453635748, .int .u32 2870763221, .int .u32 3624381080, .int .u32 310598401, .int .u32 607225278, .int .u32 1426881987, .int .u32 1925078388, .int .u32 2162078206, .int .u32 2614888103, .int .u32 3248222580, .int .u32 3835390401, .int .u32 4022224774, .int .u32 264347078, .int .u32 604807628, .int .u32 770255983, .int .u32 1249150122, .int .u32 1555081692, .int .u32 1996064986, .int .u32 2554220882, .int .u32 2821834349, .int .u32 2952996808, .int .u32 3210313671, .int .u32 3336571891, .int .u32 3584528711, .int .u32 113926993, .int .u32 338241895, .int .u32 666307205, .int .u32 773529912, .int .u32 1294757372, .int .u32 1396182291, .int .u32 1695183700, .int .u32 1986661051, .int .u32 2177026350, .int .u32 2456956037, .int .u32 2730485921, .int .u32 2820302411, .int .u32 3259730800, .int .u32 3345764771, .int .u32 3516065817, .int .u32 3600352804, .int .u32 4094571909, .int .u32 275423344, .int .u32 430227734, .int .u32 506948616, .int .u32 659060556, .int .u32 883997877, .int .u32 958139571, .int .u32 1322822218, .int .u32 1537002063, .int .u32 1747873779, .int .u32 1955562222, .int .u32 2024104815, .int .u32 2227730452, .int .u32 2361852424, .int .u32 2428436474, .int .u32 2756734187, .int .u32 3204031479, .int .u32 3329325298] := by kernel_rfl
theorem startL_lit : (u32s startL).toArray = #[.int .u32 1779033703, .int .u32 3144134277, .int .u32 1013904242, .int .u32 2773480762, .int .u32 1359893119, .int .u32 2600822924, .int .u32 528734635, .int .u32 1541459225] := by kernel_rfl
set_option maxRecDepth 100000 in
theorem refRight_any (x : UInt32) (n : Nat) (hn : n ≤ 32) (w : World) :
    Calls Tryd.prog 37 #[.int .u32 x.toNat, .int .i64 n] w fun e w' => e = .returned (.int .u32 (rr x n).toNat) ∧ w = w' := by
  have he : leftU x (32 - (n : Int)) = rr x n := by
    unfold rr leftU
    congr 2
    omega
  go_enter Tryd.func37, Tryd.ntmps37
  go_wp2_with (go_at_call 43; refine (refLeft_any _ _ _).mono ?_; rintro e w1 ⟨rfl, rfl⟩)
  go_ret
  exact ⟨rfl, rfl⟩
theorem wpList_val {P : Program} {ops : Array Oper} {Q : Exit → Act → World → Prop} {rest : List Oper} {o : Oper} {a : Act} {w : World} (hgd : o.guard = none) (v : Value) (w' : World) (hrun : (execOp a.eval o).run P w = .ok (.value v) w') (h : wpList P ops Q rest (a.put o.dst v) w') : wpList P ops Q (o :: rest) a w := by
  refine wpList_plain hgd fun K hK => ?_
  unfold Oper.wp
  rw [hrun]
  exact hK _ _ h
set_option maxRecDepth 100000 in
set_option maxHeartbeats 4000000 in
theorem constants_any (w : World) :
    Calls Tryd.prog 34 #[] w fun e w' => e = .returned (.tuple #[.agg (u32s keysL).toArray, .agg (u32s startL).toArray]) ∧ Below w.heap.size w w' := by
  go_enter Tryd.func34, Tryd.ntmps34
  go_upto_region 1 with fail
  generalize hW : (w.alloc _).alloc _ = W
  obtain ⟨g0, hg0⟩ : ∃ g, g = w.heap.size := ⟨_, rfl⟩
  obtain ⟨g1, hg1⟩ : ∃ g, g = w.heap.size + 1 := ⟨_, rfl⟩
  have hM0 : Mem g0 w W [(g1, 86, u32s (List.replicate 8 0)), (g0, 85, u32s (List.replicate 64 0))] := by
    have h := ((Mem.nil w).new (t := 85) (C := (u32s (List.replicate 64 0)).toArray) (cs := u32s (List.replicate 64 0)) (Nat.le_refl _) (by simp)).new (t := 86) (C := (u32s (List.replicate 8 0)).toArray) (cs := u32s (List.replicate 8 0)) (Nat.le_refl _) (by simp)
    rw [asz] at h
    rw [← hW, hg0, hg1]
    exact h
  have hB0 : g0 ≤ w.heap.size := by omega
  simp only [← hg1]
  simp only [← hg0]
  have HG := Lib.hid hg0
  clear hW hg0 hg1
  refine wp_region_list ?_
  refine wpList_val rfl (.agg (u32s keysL).toArray) W (by kernel_rfl) ?_
  refine wpList_val rfl (.pointer (some ⟨W.heap.size, 0, none⟩)) (W.alloc (.cells (u32s (List.replicate 64 0)).toArray 85)) (by kernel_rfl) ?_
  refine wpList_newM hM0 hB0 rfl 85 (.tmp 2) (.tmp 4) rfl _ (u32s keysL) (by kernel_rfl) (by kernel_rfl) rfl (by kernel_rfl) (info64 keysL rfl) (u32s_oneCell _) ?_
  intro w3 hM3 _
  generalize W.heap.size = g2 at hM3 ⊢
  unfold wpList
  generalize hKL : (u32s keysL).toArray = KL
  have HKL := Lib.hid hKL
  clear hKL
  go_simp
  go_upto_region 2 with fail
  refine wp_region_list ?_
  refine wpList_val rfl (.agg (u32s startL).toArray) w3 (by kernel_rfl) ?_
  refine wpList_val rfl (.pointer (some ⟨w3.heap.size, 0, none⟩)) (w3.alloc (.cells (u32s (List.replicate 8 0)).toArray 86)) (by kernel_rfl) ?_
  refine wpList_newM hM3 hB0 rfl 86 (.tmp 3) (.tmp 5) rfl _ (u32s startL) (by kernel_rfl) (by kernel_rfl) rfl (by kernel_rfl) (info8 startL rfl) (u32s_oneCell _) ?_
  intro w4 hM4 _
  generalize w3.heap.size = g3 at hM4 ⊢
  unfold wpList
  generalize hSL : (u32s startL).toArray = SL
  have HSL := Lib.hid hSL
  clear hSL
  go_simp
  go_upto_region 3 with fail
  have ha0 := hM4.at_ 3 rfl
  have ha1 := hM4.at_ 2 rfl
  have ha2 := hM4.at_ 1 rfl
  have ha3 := hM4.at_ 0 rfl
  have hdis := hM4.dis
  simp only [List.pairwise_cons, List.mem_cons, List.not_mem_nil, or_false, forall_eq_or_imp, forall_eq] at hdis
  obtain ⟨⟨d32, d31, d30⟩, ⟨d21, d20⟩, d10, _⟩ := hdis
  refine wp_region_cutG (GM g0 [(g0, 85, u32s keysL)]) (fun _ => GM.refl _) (fun _ _ _ => GM.trans) (by kernel_rfl)
    [IsV (.agg KL), IsV (.agg SL), fun _ w => Arr w g0 85 (u32s keysL)] 3 (by decide) (by kernel_rfl) (by kernel_rfl) (by kernel_rfl) ?_ ?_ ?_
  · intro φ hφ v w1 w2 h hg
    simp only [List.mem_cons, List.not_mem_nil, or_false] at hφ
    rcases hφ with rfl | rfl | rfl
    · exact h
    · exact h
    · exact hg.done _ (List.mem_singleton.2 rfl) h
  · refine ⟨?_, ?_, ?_, trivial⟩
    · intro a1 w1 hG hF
      have e2 : a1.eval (.tmp 2) = .pointer (some ⟨g2, 0, none⟩) := hF.ol 2 (by kernel_rfl)
      exact g_load rfl rfl 85 (.tmp 2) rfl g2 e2 85 (u32s keysL) _ (hG.other _ _ _ (by simp; omega) ha2) Tryd.underlying85 rfl (info64 keysL rfl) (by rw [HKL.out]; rfl)
    · intro a1 w1 hG hF
      have e3 : a1.eval (.tmp 3) = .pointer (some ⟨g3, 0, none⟩) := hF.ol 3 (by kernel_rfl)
      exact g_load rfl rfl 86 (.tmp 3) rfl g3 e3 86 (u32s startL) _ (hG.other _ _ _ (by simp; omega) ha3) Tryd.underlying86 rfl (info8 startL rfl) (by rw [HSL.out]; rfl)
    · intro a1 w1 hG hF
      have e0 : a1.eval (.tmp 0) = .pointer (some ⟨g0, 0, none⟩) := hF.ol 0 (by kernel_rfl)
      obtain ⟨_, e6, rfl⟩ := hF.dp 0 6 (by kernel_rfl)
      exact g_store rfl rfl 85 (.tmp 0) (.tmp 6) rfl g0 85 (u32s keysL) e0 (by rw [HKL.out]; exact e6) (List.mem_singleton.2 rfl) (by simp) (Nat.le_refl _) (hG.there _ (List.mem_singleton.2 rfl) ⟨u32s (List.replicate 64 0), by simp [keysL], ha0⟩) (info64 keysL rfl) (u32s_oneCell _) rfl
  · intro vs w1 hG hf
    have z6 : vs 0 = .agg KL := hf.1
    have z7 : vs 1 = .agg SL := hf.2.1
    have hA0 : Arr w1 g0 85 (u32s keysL) := hf.2.2.1
    have hA1 := hG.other _ _ _ (by simp; omega) ha1
    have hb := hG.below
    clear hf
    simp only [List.take_succ_cons, List.take_zero, List.drop_succ_cons, List.drop_zero, putAll, Nat.zero_add, Nat.reduceAdd, z6, z7]
    refine wpList_put hA1 rfl 86 (.tmp 1) (.tmp 7) rfl (u32s startL) (by kernel_rfl) (by rw [HSL.out]; kernel_rfl) (by simp [startL]) (info8 startL rfl) (u32s_oneCell _) ?_
    intro w5 hA5 hb5 ho5
    have hA6 := ho5 _ _ _ (by omega) hA0
    unfold wpList
    go_simp
    go_wp2_with fail
    refine bodyPost_ret (results_cell2_row rfl _ _ g0 g1 _ _ _ _ _ _ _ _ rfl hA6 Tryd.underlying85 rfl (by have := info64 keysL rfl; simpa using this) rfl hA5 Tryd.underlying86 rfl (by have := info8 startL rfl; simpa using this)) rfl ?_
    refine ⟨rfl, ?_⟩
    have h1 := hM4.below
    have h2 := (h1.drew.trans hb).trans (hb5.mono (by omega))
    rw [HG.out] at h2
    exact h2
end Go.Proofs.YthpgldfjcancjaaDoor

