/- The walks of dot.Check, has, Has. No condition. -/
import Derived.Test.YteckblffpidigaaGreatDoorMtCtx
namespace Go.Proofs.YteckblffpidigaaGreatDoor
open Go.RowKit
set_option maxRecDepth 100000 in
set_option maxHeartbeats 4000000 in
theorem check_any {c : CtxM} {M : Option Addr} {m cM : Nat} {w : World} (hc : OkC c) (hM : DotsR w M m c.more) :
    Calls Tryz.prog 37 #[.agg (ctxC c M m cM).toArray] w fun e w' => e = .returned (.int .i64 0) ∧ Gr w w' := by
  have hm32 : m ≤ 32 := by rw [← hM.1]; exact hc.few
  have hmo := ctxC_more hc.len M m cM
  have hcl := ctxC_length hc.len M m cM
  have HM := Lib.hid hM
  have HC := Lib.hid hc
  have hul := numsV_length c.upto
  rw [hc.len] at hul
  have HU := Lib.hid hul
  have HI := Lib.hid (infoCtx hc.len M m cM)
  have HI16 := Lib.hid (info16 hc.len)
  obtain ⟨C, hC⟩ : ∃ C, C = ctxC c M m cM := ⟨_, rfl⟩
  have HE := Lib.hid hC
  rw [← hC] at hmo hcl HI ⊢
  have hrU : ∀ j u, (numsV c.upto)[j]? = some u → C[j]? = some u := fun j u h => by
    rw [hC]
    unfold ctxC
    rw [List.getElem?_append_left (List.getElem?_eq_some_iff.1 h).1]
    exact h
  clear hM hc hC hul
  have hA : Arr (w.alloc (.cells C.toArray 42)) w.heap.size 42 C := Arr.newAt rfl rfl
  have hG : Gr w (w.alloc (.cells C.toArray 42)) := Gr.alloc _ _
  go_enter Tryz.func37, Tryz.ntmps37
  go_upto_region 1 with fail
  change Code.wp _ _ _ _ (w.alloc (.cells C.toArray 42))
  generalize w.alloc (.cells C.toArray 42) = w0 at hA hG ⊢
  generalize w.heap.size = g1 at hA ⊢
  have hr16 : w0.rangeAt g1 0 (numsV c.upto) := fun j u h => by
    rw [Nat.zero_add]
    exact hA.cell (hrU j u h)
  clear hrU
  obtain ⟨V, hV⟩ : ∃ V, V = numsV c.upto := ⟨_, rfl⟩
  have HV := Lib.hid hV
  rw [← hV] at hr16 HI16 HU
  clear hV
  go_upto_region 2 with (refine wpList_load_mid rfl _ _ rfl g1 0 rfl V _ hr16 Tryz.underlying40 rfl HI16.out ?_)
  go_loopw [8] (fun k wr => ∃ i : Nat, i ≤ 16 ∧ k = .int .i64 (i : Int) ∧ Gr w0 wr) (fun k _ => 16 - (intOf k).toNat)
  case atStart => exact ⟨0, by omega, rfl, Gr.refl _⟩
  case round =>
    obtain ⟨i, hi, rfl, hGq⟩ := hrel
    by_cases hlt : i < 16
    · have c1 : (i : Int) < 16 := by omega
      obtain ⟨u, hu⟩ : ∃ u, u = c.upto.getD i 0 := ⟨_, rfl⟩
      have hu1 : (u : Int) ≤ 1099511627776 := by
        have := upOf_le HC.out (i + 1)
        unfold upOf at this
        rw [Nat.add_sub_cancel, ← hu] at this
        omega
      have hu0 : (0 : Int) ≤ (u : Int) := by omega
      have hix : ∀ w, (Instr.index 40 (.agg V.toArray) (.int .i64 (i : Int))).run Tryz.prog w = .ok (.int .i64 (u : Int)) w := fun w => run_indexA (P := Tryz.prog) Tryz.underlying40 Tryz.underlying3 (by kernel_rfl) (by rw [HV.out, hu]; exact numsV_at (by rw [HC.out.len]; exact hlt)) hlt w
      clear hu
      go_wp2_with fail
      exact ⟨⟨i + 1, by omega, by simp, hGq⟩, by simp only [intOf]; omega⟩
    · obtain rfl : i = 16 := by omega
      have hGw := hG.trans hGq
      have hA := hA.gr hGq
      clear hG hGq
      have hcM := hA.cell hmo
      have hcm : (m : Int) ≤ 32 := by omega
      go_upto_region 10 with fail
      go_simp
      go_loopw [25] (fun k wq => ∃ i : Nat, i ≤ m ∧ k = .int .i64 (i : Int) ∧ Gr wr wq) (fun k _ => m - (intOf k).toNat)
      case atStart => exact ⟨0, by omega, rfl, Gr.refl _⟩
      case round =>
        obtain ⟨i, hi, rfl, hGr⟩ := hrel
        by_cases hlt : i < m
        · have c2 : (i : Int) < (m : Int) := by omega
          have hAr := hA.gr hGr
          have HMo := Lib.hid (more_any (cM := cM) HC.out (HM.out.gr (hGw.trans hGr)) i hlt)
          rw [← HE.out] at HMo
          go_wp2_with first
            | (refine wpList_load_mid rfl _ _ rfl g1 0 rfl C _ (Arr.range hAr) Tryz.underlying42 rfl HI.out ?_)
            | (go_at_call 66; refine HMo.out.mono ?_; rintro e w3 ⟨rfl, hG3⟩)

          exact ⟨⟨i + 1, by omega, by simp, hGr.trans hG3⟩, by simp only [intOf]; omega⟩
        · have c2 : ¬ (i : Int) < (m : Int) := by omega
          have hGe := hGw.trans hGr
          go_wp2_with fail
          go_ret
          exact ⟨rfl, hGe⟩
set_option maxRecDepth 100000 in
set_option maxHeartbeats 4000000 in
theorem has_any {c : CtxM} {d : DotM} {M : Option Addr} {m cM : Nat} {w : World} (hc : OkC c) (hd : rightD d) (hM : DotsR w M m c.more) :
    Calls Tryz.prog 39 #[.agg (ctxC c M m cM).toArray, .agg (encD d).toArray] w fun e w' => e = .returned (.bool (decide (hasC c d))) ∧ Gr w w' := by
  have hm32 : m ≤ 32 := by rw [← hM.1]; exact hc.few
  have hul := upOf_le hc d.1
  obtain ⟨U, hU⟩ : ∃ U, U = upOf c d.1 := ⟨_, rfl⟩
  have hup := ctxC_up hc.len M m cM ⟨hd.1, hd.2.1⟩
  rw [← hU] at hul hup
  have hmo := ctxC_more hc.len M m cM
  have hd1 := hd.1
  have hd16 := hd.2.1
  have hd2 := hd.2.2.2
  have HM := Lib.hid hM
  obtain ⟨r, hr⟩ : ∃ r, r = decide (hasC c d) := ⟨_, rfl⟩
  rw [← hr]
  have HR : Hid (r = decide (d.2 ≤ U ∨ d ∈ c.more)) := Lib.hid (by rw [hr, hU]; rfl)
  obtain ⟨C, hC⟩ : ∃ C, C = ctxC c M m cM := ⟨_, rfl⟩
  have hcl := ctxC_length hc.len M m cM
  rw [← hC] at hup hmo hcl ⊢
  clear hM hd hU hc hC hr
  have hA0 : Arr (w.alloc (.cells C.toArray 42)) w.heap.size 42 C := Arr.newAt rfl rfl
  have hsz : (w.alloc (.cells C.toArray 42)).heap.size = w.heap.size + 1 := Array.size_push _
  have hA3 : Arr ((w.alloc (.cells C.toArray 42)).alloc (.cells (encD d).toArray 39)) (w.heap.size + 1) 39 (encD d) := by rw [← hsz]; exact Arr.newAt rfl rfl
  have hA2 := hA0.gr (Gr.alloc (w.alloc (.cells C.toArray 42)) (.cells (encD d).toArray 39))
  have hG : Gr w ((w.alloc (.cells C.toArray 42)).alloc (.cells (encD d).toArray 39)) := (Gr.alloc _ _).trans (Gr.alloc _ _)
  clear hA0 hsz
  go_enter Tryz.func39, Tryz.ntmps39
  go_upto_region 1 with fail
  change Code.wp _ _ _ _ ((w.alloc (.cells C.toArray 42)).alloc (.cells (encD d).toArray 39))
  generalize (w.alloc (.cells C.toArray 42)).alloc (.cells (encD d).toArray 39) = w5 at hA2 hA3 hG ⊢
  generalize w.heap.size + 1 = g3 at hA3 ⊢
  generalize w.heap.size = g2 at hA2 ⊢
  have hcU := hA2.cell hup
  have hcM5 := hA2.cell hmo
  have hcD1 := hA3.cell (i := 0) (v := .int .i64 (d.1 : Int)) rfl
  have hcD2 := hA3.cell (i := 1) (v := .int .i64 (d.2 : Int)) rfl
  have HCo := Lib.hid (fun w1 (h1 : Gr w5 w1) => containsD_any (c := cM) (d := d) (HM.out.gr (hG.trans h1)) (by omega : m ≤ 1000000))
  have hG5 := hG
  clear hA2 hG HM
  by_cases hle : d.2 ≤ U
  · have hre : r = true := by rw [HR.out]; exact decide_eq_true (.inl hle)
    subst hre
    have hgi : (d.2 : Int) ≤ (U : Int) := by omega
    refine wp_region_ssaL (by kernel_rfl) [IsV (.pointer (some ⟨g3, 1, none⟩)), IsV (.int .i64 ((d.2 : Nat) : Int)), IsV (.pointer (some ⟨g3, 0, none⟩)), IsV (.int .i64 ((d.1 : Nat) : Int)), IsV (.int .i64 ((d.1 - 1 : Nat) : Int)), IsV (.pointer (some ⟨g2, 0, none⟩)), IsV (.pointer (some ⟨g2, d.1 - 1, none⟩)), IsV (.int .i64 ((U : Nat) : Int)), IsV (.bool true), IsV (.bool true), IsV (undef), IsV (undef), IsV (undef), IsV (undef), IsV (.bool true), IsV (.bool true)] (by kernel_rfl) ?_ ?_ ?_
    · intro φ hφ v w1 w2 h hg
      simp only [List.mem_cons, List.not_mem_nil, or_false] at hφ
      rcases hφ with rfl | rfl | rfl | rfl | rfl | rfl | rfl | rfl | rfl | rfl | rfl | rfl | rfl | rfl | rfl | rfl
      all_goals first | exact h | exact RdV.gr h hg
    · refine ⟨?_, ?_, ?_, ?_, ?_, ?_, ?_, ?_, ?_, ?_, ?_, ?_, ?_, ?_, ?_, ?_, trivial⟩
      · intro a1 w1 hG hF
        have e3 : a1.eval (.tmp 3) = .pointer (some ⟨g3, 0, none⟩) := hF.ol 3 (by kernel_rfl)
        exact s_is rfl (wants0 rfl) _ rfl (run_fieldR (o := 1) (k := 0) Tryz.underlying39 rfl rfl (by kernel_rfl) e3)
      · intro a1 w1 hG hF
        obtain ⟨_, e5, rfl⟩ := hF.dp 0 5 (by kernel_rfl)
        exact s_is rfl (wants0 rfl) _ rfl (run_load1 Tryz.underlying3 e5 (Gr.cell ((Gr.drew w5).trans hG) hcD2))
      · intro a1 w1 hG hF
        have e3 : a1.eval (.tmp 3) = .pointer (some ⟨g3, 0, none⟩) := hF.ol 3 (by kernel_rfl)
        exact s_is rfl (wants0 rfl) _ rfl (run_fieldR (o := 0) (k := 0) Tryz.underlying39 rfl rfl (by kernel_rfl) e3)
      · intro a1 w1 hG hF
        obtain ⟨_, e7, rfl⟩ := hF.dp 2 7 (by kernel_rfl)
        exact s_is rfl (wants0 rfl) _ rfl (run_load1 Tryz.underlying3 e7 (Gr.cell ((Gr.drew w5).trans hG) hcD1))
      · intro a1 w1 hG hF
        obtain ⟨_, e8, rfl⟩ := hF.dp 3 8 (by kernel_rfl)
        exact s_is rfl (wants0 rfl) _ rfl (run_subN (a := d.1) (b := 1) e8 rfl (by omega) (by omega))
      · intro a1 w1 hG hF
        have e2 : a1.eval (.tmp 2) = .pointer (some ⟨g2, 0, none⟩) := hF.ol 2 (by kernel_rfl)
        exact s_is rfl (wants0 rfl) _ rfl (run_fieldR (o := 0) (k := 15) Tryz.underlying42 rfl rfl (by kernel_rfl) e2)
      · intro a1 w1 hG hF
        obtain ⟨_, e10, rfl⟩ := hF.dp 5 10 (by kernel_rfl)
        obtain ⟨_, e9, rfl⟩ := hF.dp 4 9 (by kernel_rfl)
        exact s_is rfl (wants0 rfl) _ rfl (run_idx (i := d.1 - 1) Tryz.underlying40 (by kernel_rfl) e10 e9 (by omega))
      · intro a1 w1 hG hF
        obtain ⟨_, e11, rfl⟩ := hF.dp 6 11 (by kernel_rfl)
        exact s_is rfl (wants0 rfl) _ rfl (run_load1 Tryz.underlying3 e11 (Gr.cell ((Gr.drew w5).trans hG) hcU))
      · intro a1 w1 hG hF
        obtain ⟨_, e6, rfl⟩ := hF.dp 1 6 (by kernel_rfl)
        obtain ⟨_, e12, rfl⟩ := hF.dp 7 12 (by kernel_rfl)
        exact s_is rfl (wants0 rfl) _ rfl (by simp only [execOp, e6, e12]; go_simp; try omega)
      · intro a1 w1 hG hF
        exact s_same rfl (wants0 rfl) (.tmp 13) (.inr rfl) (hF.dp 8 13 (by kernel_rfl))
      · intro a1 w1 hG hF
        exact s_not rfl (notN hF 9 14 false rfl (by kernel_rfl) rfl) rfl
      · intro a1 w1 hG hF
        exact s_not rfl (notN hF 9 14 false rfl (by kernel_rfl) rfl) rfl
      · intro a1 w1 hG hF
        exact s_not rfl (notN hF 9 14 false rfl (by kernel_rfl) rfl) rfl
      · intro a1 w1 hG hF
        exact s_not rfl (notN hF 9 14 false rfl (by kernel_rfl) rfl) rfl
      · intro a1 w1 hG hF
        obtain ⟨_, e14, rfl⟩ := hF.dp 9 14 (by kernel_rfl)
        exact s_pick rfl (wants0 rfl) (.tmp 14) _ _ rfl e14 _ rfl rfl
      · intro a1 w1 hG hF
        exact s_same rfl (wants0 rfl) (.tmp 19) (.inl rfl) (hF.dp 14 19 (by kernel_rfl))
    · intro vs w1 hG hf
      have z4 : vs 15 = .bool true := hf.2.2.2.2.2.2.2.2.2.2.2.2.2.2.2.1
      clear hf
      simp only [putAll, Nat.zero_add, Nat.reduceAdd, z4]
      have hGe := hG5.trans ((Gr.drew w5).trans hG)
      clear hG hG5
      go_simp
      go_wp2_with fail
      go_ret
      exact ⟨rfl, hGe⟩
  · have hre : r = decide (d ∈ c.more) := by
      rw [HR.out]
      have : (d.2 ≤ U ∨ d ∈ c.more) ↔ d ∈ c.more := ⟨fun h => h.resolve_left hle, .inr⟩
      simp only [this]
    have hgi : ¬ (d.2 : Int) ≤ (U : Int) := by omega
    rw [← hre] at HCo
    clear hre
    refine wp_region_ssaL (by kernel_rfl) [IsV (.pointer (some ⟨g3, 1, none⟩)), IsV (.int .i64 ((d.2 : Nat) : Int)), IsV (.pointer (some ⟨g3, 0, none⟩)), IsV (.int .i64 ((d.1 : Nat) : Int)), IsV (.int .i64 ((d.1 - 1 : Nat) : Int)), IsV (.pointer (some ⟨g2, 0, none⟩)), IsV (.pointer (some ⟨g2, d.1 - 1, none⟩)), IsV (.int .i64 ((U : Nat) : Int)), IsV (.bool false), IsV (.bool false), IsV (.pointer (some ⟨g2, 16, none⟩)), IsV (.slice M m cM), IsV (.agg (encD d).toArray), IsV (.bool r), IsV (.bool r), IsV (.bool r)] (by kernel_rfl) ?_ ?_ ?_
    · intro φ hφ v w1 w2 h hg
      simp only [List.mem_cons, List.not_mem_nil, or_false] at hφ
      rcases hφ with rfl | rfl | rfl | rfl | rfl | rfl | rfl | rfl | rfl | rfl | rfl | rfl | rfl | rfl | rfl | rfl
      all_goals first | exact h | exact RdV.gr h hg
    · refine ⟨?_, ?_, ?_, ?_, ?_, ?_, ?_, ?_, ?_, ?_, ?_, ?_, ?_, ?_, ?_, ?_, trivial⟩
      · intro a1 w1 hG hF
        have e3 : a1.eval (.tmp 3) = .pointer (some ⟨g3, 0, none⟩) := hF.ol 3 (by kernel_rfl)
        exact s_is rfl (wants0 rfl) _ rfl (run_fieldR (o := 1) (k := 0) Tryz.underlying39 rfl rfl (by kernel_rfl) e3)
      · intro a1 w1 hG hF
        obtain ⟨_, e5, rfl⟩ := hF.dp 0 5 (by kernel_rfl)
        exact s_is rfl (wants0 rfl) _ rfl (run_load1 Tryz.underlying3 e5 (Gr.cell ((Gr.drew w5).trans hG) hcD2))
      · intro a1 w1 hG hF
        have e3 : a1.eval (.tmp 3) = .pointer (some ⟨g3, 0, none⟩) := hF.ol 3 (by kernel_rfl)
        exact s_is rfl (wants0 rfl) _ rfl (run_fieldR (o := 0) (k := 0) Tryz.underlying39 rfl rfl (by kernel_rfl) e3)
      · intro a1 w1 hG hF
        obtain ⟨_, e7, rfl⟩ := hF.dp 2 7 (by kernel_rfl)
        exact s_is rfl (wants0 rfl) _ rfl (run_load1 Tryz.underlying3 e7 (Gr.cell ((Gr.drew w5).trans hG) hcD1))
      · intro a1 w1 hG hF
        obtain ⟨_, e8, rfl⟩ := hF.dp 3 8 (by kernel_rfl)
        exact s_is rfl (wants0 rfl) _ rfl (run_subN (a := d.1) (b := 1) e8 rfl (by omega) (by omega))
      · intro a1 w1 hG hF
        have e2 : a1.eval (.tmp 2) = .pointer (some ⟨g2, 0, none⟩) := hF.ol 2 (by kernel_rfl)
        exact s_is rfl (wants0 rfl) _ rfl (run_fieldR (o := 0) (k := 15) Tryz.underlying42 rfl rfl (by kernel_rfl) e2)
      · intro a1 w1 hG hF
        obtain ⟨_, e10, rfl⟩ := hF.dp 5 10 (by kernel_rfl)
        obtain ⟨_, e9, rfl⟩ := hF.dp 4 9 (by kernel_rfl)
        exact s_is rfl (wants0 rfl) _ rfl (run_idx (i := d.1 - 1) Tryz.underlying40 (by kernel_rfl) e10 e9 (by omega))
      · intro a1 w1 hG hF
        obtain ⟨_, e11, rfl⟩ := hF.dp 6 11 (by kernel_rfl)
        exact s_is rfl (wants0 rfl) _ rfl (run_load1 Tryz.underlying3 e11 (Gr.cell ((Gr.drew w5).trans hG) hcU))
      · intro a1 w1 hG hF
        obtain ⟨_, e6, rfl⟩ := hF.dp 1 6 (by kernel_rfl)
        obtain ⟨_, e12, rfl⟩ := hF.dp 7 12 (by kernel_rfl)
        exact s_is rfl (wants0 rfl) _ rfl (by simp only [execOp, e6, e12]; go_simp; try omega)
      · intro a1 w1 hG hF
        exact s_same rfl (wants0 rfl) (.tmp 13) (.inr rfl) (hF.dp 8 13 (by kernel_rfl))
      · intro a1 w1 hG hF
        have e2 : a1.eval (.tmp 2) = .pointer (some ⟨g2, 0, none⟩) := hF.ol 2 (by kernel_rfl)
        exact s_is rfl (wantsG hF 9 14 false rfl (by kernel_rfl) rfl) _ rfl (run_fieldR (o := 16) (k := 0) Tryz.underlying42 rfl rfl (by kernel_rfl) e2)
      · intro a1 w1 hG hF
        obtain ⟨_, e15, rfl⟩ := hF.dp 10 15 (by kernel_rfl)
        exact s_is rfl (wantsG hF 9 14 false rfl (by kernel_rfl) rfl) _ rfl (run_load1B (.inr (.inr (.inr (.inl ⟨_, Tryz.underlying26⟩)))) e15 (Gr.cell ((Gr.drew w5).trans hG) hcM5))
      · intro a1 w1 hG hF
        have e3 : a1.eval (.tmp 3) = .pointer (some ⟨g3, 0, none⟩) := hF.ol 3 (by kernel_rfl)
        exact s_wp rfl (wantsG hF 9 14 false rfl (by kernel_rfl) rfl) (wp_load_mid _ _ rfl g3 0 e3 (encD d) _ (((Gr.drew w5).trans hG).range (Arr.range hA3)) Tryz.underlying39 rfl (infoDot d) ⟨_, rfl, rfl, Gr.refl _⟩)
      · intro a1 w1 hG hF
        obtain ⟨_, e16, rfl⟩ := hF.dp 11 16 (by kernel_rfl)
        obtain ⟨_, e17, rfl⟩ := hF.dp 12 17 (by kernel_rfl)
        exact s_call rfl (wantsG hF 9 14 false rfl (by kernel_rfl) rfl) _ rfl _ _ (by simp only [execOp, resolve, invoke, List.map_toArray, List.map_cons, List.map_nil, e16, e17]; go_simp) ((HCo.out w1 ((Gr.drew w5).trans hG)).mono fun e w2 ⟨he, hb⟩ => ⟨_, he, rfl, hb⟩)
      · intro a1 w1 hG hF
        obtain ⟨_, e14, rfl⟩ := hF.dp 9 14 (by kernel_rfl)
        obtain ⟨_, e18, rfl⟩ := hF.dp 13 18 (by kernel_rfl)
        exact s_pickF rfl (wants0 rfl) (.tmp 14) _ (.tmp 18) rfl e14 _ e18 rfl
      · intro a1 w1 hG hF
        exact s_same rfl (wants0 rfl) (.tmp 19) (.inl rfl) (hF.dp 14 19 (by kernel_rfl))
    · intro vs w1 hG hf
      have z4 : vs 15 = .bool r := hf.2.2.2.2.2.2.2.2.2.2.2.2.2.2.2.1
      clear hf
      simp only [putAll, Nat.zero_add, Nat.reduceAdd, z4]
      have hGe := hG5.trans ((Gr.drew w5).trans hG)
      clear hG hG5
      go_simp
      go_wp2_with fail
      go_ret
      exact ⟨rfl, hGe⟩
end Go.Proofs.YteckblffpidigaaGreatDoor
