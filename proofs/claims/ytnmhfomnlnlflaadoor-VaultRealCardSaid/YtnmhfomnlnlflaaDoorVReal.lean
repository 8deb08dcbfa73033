/- The walk of the law VaultReal: a vault and its reference, act by act. No condition. -/
import Derived.Test.YtnmhfomnlnlflaaDoorDoAny
namespace Go.Proofs.YtnmhfomnlnlflaaDoor
open Go.RowKit
set_option maxRecDepth 100000 in
set_option maxHeartbeats 16000000 in
theorem law_vreal (M : List UInt8) (hM : M.length = 32) (A : Option Addr) (n c : Nat) (w : World) (hA : Acts w A n) (gw : Glob w) :
    Calls Tryd.prog 8 #[.agg (u8s M).toArray, .slice A n c] w fun e w' => e = .returned (.bool true) ∧ Gr w w' := by
  have h2 : Arr (w.alloc (.cells (u8s M).toArray 22)) w.heap.size 22 (u8s M) := Arr.newAt rfl rfl
  have G0 : Gr w (w.alloc (.cells (u8s M).toArray 22)) := Gr.alloc _ _
  have HI : Hid (∀ w, Calls Tryd.prog 18 #[.agg (u8s M).toArray] w fun e w' => ∃ g b1 b2 b3, e = .returned (.pointer (some ⟨g, 0, none⟩)) ∧ Gr w w' ∧ w.heap.size ≤ b1 ∧ b3 < w'.heap.size ∧ w.heap.size ≤ g ∧ ∀ τ B, B ≤ b1 → VIs τ B w' g b1 b2 b3 ⟨false, M, [], []⟩) := fun w => real_any M hM w
  have HVs := Lib.hid vaults_any
  have HLow := Lib.hid gw.lowG
  go_enter Tryd.func8, Tryd.ntmps8
  obtain ⟨Z, hZ⟩ : ∃ Z : List UInt8, Z = List.replicate 32 0 := ⟨_, rfl⟩
  have hZl : Z.length = 32 := by rw [hZ]; rfl
  have HN := Lib.hid none_any
  have HB0 : Hid (∀ A n c w, Calls Tryd.prog 12 #[.pointer none, .slice A n c] w fun e w' => e = .returned (.tuple #[.agg (u8s Z).toArray, .int .i64 1]) ∧ Gr w w') := by
    intro A n c w
    rw [hZ]
    exact vblind_nil A n c w
  have HS0 := Lib.hid vseal_nil
  have HO0 := Lib.hid vopen_nil
  have HI0 := Lib.hid isIdeal_nil
  have HC0 := Lib.hid count_nil
  clear hZ
  go_upto_region 1 with fail
  change Code.wp _ _ _ _ (w.alloc (.cells (u8s M).toArray 22))
  generalize w.alloc (.cells (u8s M).toArray 22) = w0 at h2 G0 ⊢
  obtain ⟨g2, hg2⟩ : ∃ g, g = w.heap.size := ⟨_, rfl⟩
  rw [← hg2] at h2
  simp only [← hg2]
  clear hg2
  have gw0 := gw.gr G0
  have hA0 := hA.below G0
  have hcv := Lib.run_convert_bytes_const (P := Tryd.prog) w0 27 5 #[.int .u8 120] 1 1 Tryd.underlying27 Tryd.underlying5
  go_wp2_with fail
  refine (HN.out w0).mono ?_
  rintro e _ ⟨rfl, rfl⟩
  go_wp2_with fail
  refine (HB0.out _ _ _ _).mono ?_
  rintro e w3 ⟨rfl, hG3⟩
  have gA := Gr.trans ((Gr.alloc w0 (.cells #[.int .u8 120] 5 (1, 2)))) hG3
  go_wp2_with (refine wpList_new rfl 31 (.tmp 5) (.tmp 19) rfl _ (u8s Z) rfl rfl rfl (by simp only [u8s_length, hZl]; rfl) (infoBl Z hZl) (u8s_oneCell _) ?_; intro w4 _ hG4)
  have gB := Gr.trans gA hG4
  generalize w3.heap.size = gq
  clear hG3 hG4 gA
  refine (HN.out w4).mono ?_
  rintro e _ ⟨rfl, rfl⟩
  go_wp2_with fail
  refine (HS0.out _ _ _ _ _ w4).mono ?_
  rintro e w5 ⟨rfl, hG5⟩
  have gC := Gr.trans gB hG5
  clear gB hG5
  go_wp2_with fail
  refine (HN.out w5).mono ?_
  rintro e _ ⟨rfl, rfl⟩
  go_wp2_with fail
  refine (HO0.out _ _ _ _ _ w5).mono ?_
  rintro e w6 ⟨rfl, hG6⟩
  have gD := Gr.trans gC hG6
  clear gC hG6
  go_wp2_with fail
  refine (HVs.out w6 (gw0.gr gD)).mono ?_
  rintro e w0 ⟨rfl, hG7⟩
  have gE := Gr.trans gD hG7
  clear gD hG7
  go_wp2_with fail
  refine (HN.out w0).mono ?_
  rintro e _ ⟨rfl, rfl⟩
  go_wp2_with fail
  refine (HI0.out w0).mono ?_
  rintro e _ ⟨rfl, rfl⟩
  go_wp2_with fail
  refine (HN.out w0).mono ?_
  rintro e _ ⟨rfl, rfl⟩
  go_wp2_with fail
  refine (HC0.out w0).mono ?_
  rintro e _ ⟨rfl, rfl⟩
  go_upto_region 6 with fail
  have gw0 := gw0.gr gE
  have hA0 := hA0.below gE
  have h2 := h2.gr gE
  have G0 := Gr.trans G0 gE
  clear gE HN HB0 HS0 HO0 HI0 HC0 hZl
  obtain ⟨B, hBB⟩ : ∃ B, B = w0.heap.size := ⟨_, rfl⟩
  have hB0 : B ≤ w0.heap.size := Nat.le_of_eq hBB
  have HBB := Lib.hid hBB
  have hLow : LowG B := by rw [hBB]; exact gw0.lowG
  clear hBB gw hA HLow
  have hr2 := h2.rdAll hM
  refine wp_region_ssaL (by kernel_rfl) [IsV (.agg (u8s (M)).toArray), NewV1 B ⟨false, M, [], []⟩, IsV (.slice (some ⟨g2, 0, none⟩) 32 32), IsV (.string ⟨(M).toArray⟩), IsV (.agg #[.bool false, .string ⟨M.toArray⟩, .slice none 0 0, .slice none 0 0]), NewR1 B ⟨false, M, [], []⟩, NewV1 B ⟨false, M, [], []⟩, NewR1 B ⟨false, M, [], []⟩] (by kernel_rfl) ?_ ?_ ?_
  · intro φ hφ v w1 w2 h hg
    simp only [List.mem_cons, List.not_mem_nil, or_false] at hφ
    rcases hφ with rfl | rfl | rfl | rfl | rfl | rfl | rfl | rfl
    all_goals first | exact h | exact RdV.gr h hg | exact NewV1.gr h hg | exact NewR1.gr h hg
  · refine ⟨?_, ?_, ?_, ?_, ?_, ?_, ?_, ?_, trivial⟩
    · intro a1 w1 hG hF
      have e2 : a1.eval (.tmp 2) = .pointer (some ⟨g2, 0, none⟩) := hF.ol 2 (by kernel_rfl)
      exact s_is rfl (wants0 rfl) _ rfl (run_loadArr ⟨_, _, Tryd.underlying22⟩ (infoU8_32 M hM) e2 (h2.gr ((Gr.drew w0).trans hG)))
    · intro a1 w1 hG hF
      obtain ⟨_, e54, rfl⟩ := hF.dp 0 54 (by kernel_rfl)
      exact s_call rfl (wants0 rfl) _ rfl _ _ (by simp only [execOp, resolve, invoke, List.map_toArray, List.map_cons, List.map_nil, e54]; go_simp) ((HI.out w1).mono fun e w2 ⟨g, b1, b2, b3, he, hg, h1, _, _, hV⟩ => ⟨_, he, ⟨g, b1, b2, b3, rfl, hV allT B (by have := ((Gr.drew w0).trans hG).size; omega)⟩, hg⟩)
    · intro a1 w1 hG hF
      have e2 : a1.eval (.tmp 2) = .pointer (some ⟨g2, 0, none⟩) := hF.ol 2 (by kernel_rfl)
      exact s_is rfl (wants0 rfl) _ rfl (by simp only [execOp, e2, Option.map, Sem.run_bind, run_cutAll (P := Tryd.prog) Tryd.underlying22 (by kernel_rfl), Result.andThen_ok, Sem.run_pure])
    · intro a1 w1 hG hF
      obtain ⟨_, e56, rfl⟩ := hF.dp 2 56 (by kernel_rfl)
      exact s_str rfl (wants0 rfl) 27 9 5 (.tmp 56) rfl Tryd.underlying27 Tryd.underlying5 Tryd.underlying9 _ _ _ (M) e56 (((Gr.drew w0).trans hG).rd hr2) rfl
    · intro a1 w1 hG hF
      obtain ⟨_, e57, rfl⟩ := hF.dp 3 57 (by kernel_rfl)
      exact s_is rfl (wants0 rfl) _ rfl (run_buildRefF e57)
    · intro a1 w1 hG hF
      obtain ⟨_, e58, rfl⟩ := hF.dp 4 58 (by kernel_rfl)
      exact s_val rfl (wants0 rfl) _ rfl _ (w1.alloc (.cells #[.bool false, .string ⟨M.toArray⟩, .slice none 0 0, .slice none 0 0] 48)) (by simp only [execOp, e58]; go_simp) (ris_new hM (by have := ((Gr.drew w0).trans hG).size; omega)) (Gr.alloc _ _)
    · intro a1 w1 hG hF
      exact s_same rfl (wants0 rfl) (.tmp 55) (.inl rfl) (hF.dp 1 55 (by kernel_rfl))
    · intro a1 w1 hG hF
      exact s_same rfl (wants0 rfl) (.tmp 59) (.inl rfl) (hF.dp 5 59 (by kernel_rfl))
  · intro vs w1 hG hf
    have y11 : (NewV1 B ⟨false, M, [], []⟩) (vs 6) w1 := hf.2.2.2.2.2.2.1
    have y12 : (NewR1 B ⟨false, M, [], []⟩) (vs 7) w1 := hf.2.2.2.2.2.2.2.1
    clear hf
    simp only [putAll, Nat.zero_add, Nat.reduceAdd]
    have hG1 := (Gr.drew w0).trans hG
    obtain ⟨g, b1, b2, b3, hy11, hV1⟩ := y11
    obtain ⟨r, hy12, hR1⟩ := y12
    rw [hy11, hy12]
    have gw1 := gw0.gr hG1
    have hA1 := hA0.below hG1
    have hs1 := hG1.size
    have G1 := Gr.trans G0 hG1
    have g01 : Gr w0 w1 := hG1
    have HwB : Hid (w.heap.size ≤ B) := by show _ ≤ _; rw [HBB.out]; exact G0.size
    generalize w1 = wB at g01 hG1 hV1 hR1 gw1 hA1 hs1 G1 ⊢
    clear hG hG1 hy11 hy12 h2 hr2 HI G0
    obtain ⟨v0, hv0⟩ : ∃ v0 : Vt, v0 = ⟨false, M, [], []⟩ := ⟨_, rfl⟩
    have hgd0 : Good v0 0 := by rw [hv0]; exact good_new hM
    have hid0 : v0.ideal = false := by rw [hv0]
    rw [← hv0] at hV1 hR1
    clear hv0
    go_simp
    have G2 := G1
    have g02 := g01
    clear g01 G1
    have gw2 := gw1
    have hV2 := hV1
    have hR2 := hR1
    have hB2 : B ≤ wB.heap.size := by omega
    clear gw1 hV1 hR1 hs1 hA1
    generalize wB = w2 at g02 hV2 hR2 hB2 gw2 G2 ⊢
    have HG02 : Hid (∀ (p : Addr) u, w0.cell? p = some u → w2.cell? p = some u) := fun p u hp => Gr.cell g02 hp
    have HGc : Hid (∀ (p : Addr), p.block < w0.heap.size → w2.cell? p = w0.cell? p) := fun p hp => Below.cell g02 hp
    have HBel : Hid (∀ wr, Below B w2 wr → ∀ (p : Addr) u, w0.cell? p = some u → wr.cell? p = some u) := fun wr h p u hp => by
      have hb : p.block < B := by rw [HBB.out]; exact lt_of_cell hp
      exact (Below.cell h hb).trans (HG02.out p u hp)
    have HRd : Hid (∀ wr, Below B w2 wr → ∀ A n (l : List UInt8), Rd w0 A n (u8s l) → Rd wr A n (u8s l)) := fun wr h A n l hr => hr.keep fun p hp _ => by
      have hb : p.block < B := by rw [HBB.out]; exact hp
      exact (Below.cell h hb).trans (HGc.out p hp)
    have HFin : Hid (∀ w1, Below B w2 w1 → Gr w w1) := fun w1 h => Below.trans G2 (h.mono HwB.out)
    have hA2 := Lib.hid hA0
    clear hA0 g02
    go_upto_region 8 with fail
    go_simp
    go_loopw [13] (fun i wr => ActsR B g b1 b2 b3 r false n w2 i wr) (fun i _ => 20 - (intOf i).toNat)
    case atStart => exact ⟨0, v0, Nat.zero_le _, Nat.zero_le _, rfl, hV2, hR2, hgd0, hid0, Below.refl _ _⟩
    case round =>
      obtain ⟨k, v, hkn, hk20, rfl, hV, hR, hgd, hid, hBw⟩ := hrel
      by_cases hlt : k < n ∧ k < 12
      · obtain ⟨hl1, hl2⟩ := hlt
        obtain ⟨b, o, cs, rfl, ⟨zw, ze, zc, zk, A1, n1, c1, l1, D1, m1, d1, l2, zh, y, rfl, hnc, hmd, hr0, hb0⟩, hcs⟩ := hA2.out k hl1
        have hl1i : (k : Int) < (n : Int) := by omega
        have hl2i : (k : Int) < 12 := by omega
        have q0 : wr.cell? ⟨b, o + k * 8, none⟩ = some (.int .i64 zw) := HBel.out wr hBw _ _ (hcs 0 (.int .i64 zw) rfl)
        have q1 : wr.cell? ⟨b, o + k * 8 + 1, none⟩ = some (.int .i64 ze) := HBel.out wr hBw _ _ (hcs 1 (.int .i64 ze) rfl)
        have q2 : wr.cell? ⟨b, o + k * 8 + 2, none⟩ = some (.int .i64 zc) := HBel.out wr hBw _ _ (hcs 2 (.int .i64 zc) rfl)
        have q3 : wr.cell? ⟨b, o + k * 8 + 3, none⟩ = some (.int .i64 zk) := HBel.out wr hBw _ _ (hcs 3 (.int .i64 zk) rfl)
        have q4 : wr.cell? ⟨b, o + k * 8 + 4, none⟩ = some (.slice A1 n1 c1) := HBel.out wr hBw _ _ (hcs 4 (.slice A1 n1 c1) rfl)
        have q5 : wr.cell? ⟨b, o + k * 8 + 5, none⟩ = some (.slice D1 m1 d1) := HBel.out wr hBw _ _ (hcs 5 (.slice D1 m1 d1) rfl)
        have q6 : wr.cell? ⟨b, o + k * 8 + 6, none⟩ = some (.int .i64 zh) := HBel.out wr hBw _ _ (hcs 6 (.int .i64 zh) rfl)
        have q7 : wr.cell? ⟨b, o + k * 8 + 7, none⟩ = some (.int .u8 (y.toNat : Int)) := HBel.out wr hBw _ _ (hcs 7 (.int .u8 (y.toNat : Int)) rfl)
        clear hcs
        go_wp2_with fail
        refine (do_any hV hR hgd (by omega) zw ze zc zk A1 n1 c1 l1 D1 m1 d1 l2 zh y hnc hmd (HRd.out wr hBw _ _ _ hr0) (HRd.out wr hBw _ _ _ hb0) (gw2.keep hBw hLow) (Nat.le_trans hB2 hBw.size)).mono ?_
        rintro e w3 ⟨rfl, ⟨v2, hV3, hR3, hgd3, hid3⟩, hB3⟩
        rw [hid] at hid3
        have hBw3 := hBw.trans hB3
        clear hV hR hgd hid q0 q1 q2 q3 q4 q5 q6 q7 hr0 hb0 hB3 hBw
        go_wp2_with fail
        exact ⟨⟨k + 1, v2, by omega, by omega, by go_num, hV3, hR3, hgd3, hid3, hBw3⟩, by simp [intOf]; omega⟩
      · by_cases hl1 : k < n
        · have hl1i : (k : Int) < (n : Int) := by omega
          have hl2i : ¬ (k : Int) < 12 := by omega
          go_upto_region 12 with fail
          obtain ⟨AN, nN, DN, cD, x1, _, _⟩ := hR.mem
          obtain ⟨LN, hLN⟩ : ∃ n, n = v.L.length := ⟨_, rfl⟩
          rw [← hLN] at x1
          have HId : Hid (∀ w1, Gr wr w1 → Calls Tryd.prog 17 #[.pointer (some ⟨g, 0, none⟩)] w1 fun e w' => e = .returned (.bool false) ∧ w1 = w') := fun w1 h => by
            have := isIdeal_any (hV.gr h)
            rwa [hid] at this
          have HCt : Hid (∀ w1, Gr wr w1 → Calls Tryd.prog 14 #[.pointer (some ⟨g, 0, none⟩)] w1 fun e w' => e = .returned (.int .i64 (LN : Nat)) ∧ w1 = w') := fun w1 h => by
            have := count_any (hV.gr h)
            rwa [← hLN] at this
          have qc3 := x1.cell (i := 3) (v := .slice DN LN cD) rfl
          have hEnd : Hid (∀ w1, Gr wr w1 → Gr w w1) := fun w1 h => HFin.out w1 (hBw.trans (h.mono (Nat.le_trans hB2 hBw.size)))
          clear x1 hLN hV hR hgd hid hBw
          refine wp_region_ssaL (by kernel_rfl) [IsV (.pointer (some ⟨g, 0, none⟩)), IsV (.bool false), IsV (.bool true), IsV (.bool true), IsV (.pointer (some ⟨g, 0, none⟩)), IsV (.int .i64 ((LN : Nat) : Int)), IsV (.pointer (some ⟨r, 0, none⟩)), IsV (.pointer (some ⟨r, 0, none⟩)), IsV (.pointer (some ⟨r, 3, none⟩)), IsV (.slice DN LN cD), IsV (.int .i64 ((LN : Nat) : Int)), IsV (.bool true), IsV (.bool true), IsV (.bool true)] (by kernel_rfl) ?_ ?_ ?_
          · intro φ hφ v w1 w2 h hg
            simp only [List.mem_cons, List.not_mem_nil, or_false] at hφ
            rcases hφ with rfl | rfl | rfl | rfl | rfl | rfl | rfl | rfl | rfl | rfl | rfl | rfl | rfl | rfl
            all_goals first | exact h | exact RdV.gr h hg
          · refine ⟨?_, ?_, ?_, ?_, ?_, ?_, ?_, ?_, ?_, ?_, ?_, ?_, ?_, ?_, trivial⟩
            · intro a1 w1 hG hF
              exact s_old rfl (wants0 rfl) (.tmp 11) (.inr rfl) (.pointer (some ⟨g, 0, none⟩)) (hF.ol 11 (by kernel_rfl)) rfl
            · intro a1 w1 hG hF
              obtain ⟨_, e78, rfl⟩ := hF.dp 0 78 (by kernel_rfl)
              exact s_call rfl (wants0 rfl) _ rfl _ _ (by simp only [execOp, resolve, invoke, List.map_toArray, List.map_cons, List.map_nil, e78]; go_simp) ((HId.out w1 ((Gr.drew wr).trans hG)).mono fun e w2 ⟨he, hw⟩ => ⟨_, he, rfl, hw ▸ Gr.refl _⟩)
            · intro a1 w1 hG hF
              obtain ⟨_, e79, rfl⟩ := hF.dp 1 79 (by kernel_rfl)
              exact s_is rfl (wants0 rfl) _ rfl (by simp only [execOp, e79]; go_simp)
            · intro a1 w1 hG hF
              exact s_same rfl (wants0 rfl) (.tmp 80) (.inr rfl) (hF.dp 2 80 (by kernel_rfl))
            · intro a1 w1 hG hF
              exact s_old rfl (wantsG hF 3 81 true rfl (by kernel_rfl) rfl) (.tmp 11) (.inr rfl) (.pointer (some ⟨g, 0, none⟩)) (hF.ol 11 (by kernel_rfl)) rfl
            · intro a1 w1 hG hF
              obtain ⟨_, e82, rfl⟩ := hF.dp 4 82 (by kernel_rfl)
              exact s_call rfl (wantsG hF 3 81 true rfl (by kernel_rfl) rfl) _ rfl _ _ (by simp only [execOp, resolve, invoke, List.map_toArray, List.map_cons, List.map_nil, e82]; go_simp) ((HCt.out w1 ((Gr.drew wr).trans hG)).mono fun e w2 ⟨he, hw⟩ => ⟨_, he, rfl, hw ▸ Gr.refl _⟩)
            · intro a1 w1 hG hF
              exact s_old rfl (wantsG hF 3 81 true rfl (by kernel_rfl) rfl) (.tmp 12) (.inr rfl) (.pointer (some ⟨r, 0, none⟩)) (hF.ol 12 (by kernel_rfl)) rfl
            · intro a1 w1 hG hF
              obtain ⟨_, e84, rfl⟩ := hF.dp 6 84 (by kernel_rfl)
              exact s_is rfl (wantsG hF 3 81 true rfl (by kernel_rfl) rfl) _ rfl (run_nil e84)
            · intro a1 w1 hG hF
              obtain ⟨_, e85, rfl⟩ := hF.dp 7 85 (by kernel_rfl)
              exact s_is rfl (wantsG hF 3 81 true rfl (by kernel_rfl) rfl) _ rfl (run_field (o := 3) (k := 0) Tryd.underlying48 rfl rfl (by kernel_rfl) e85)
            · intro a1 w1 hG hF
              obtain ⟨_, e86, rfl⟩ := hF.dp 8 86 (by kernel_rfl)
              exact s_is rfl (wantsG hF 3 81 true rfl (by kernel_rfl) rfl) _ rfl (run_load1B (.inr (.inr (.inr (.inl ⟨_, Tryd.underlying46⟩)))) e86 (Gr.cell ((Gr.drew wr).trans hG) qc3))
            · intro a1 w1 hG hF
              obtain ⟨_, e87, rfl⟩ := hF.dp 9 87 (by kernel_rfl)
              exact s_is rfl (wantsG hF 3 81 true rfl (by kernel_rfl) rfl) _ rfl (run_len_slice Tryd.underlying46 e87)
            · intro a1 w1 hG hF
              obtain ⟨_, e83, rfl⟩ := hF.dp 5 83 (by kernel_rfl)
              obtain ⟨_, e88, rfl⟩ := hF.dp 10 88 (by kernel_rfl)
              exact s_is rfl (wantsG hF 3 81 true rfl (by kernel_rfl) rfl) _ rfl (by simp only [execOp, e83, e88]; go_simp)
            · intro a1 w1 hG hF
              obtain ⟨_, e81, rfl⟩ := hF.dp 3 81 (by kernel_rfl)
              obtain ⟨_, e89, rfl⟩ := hF.dp 11 89 (by kernel_rfl)
              exact s_pick rfl (wants0 rfl) (.tmp 81) (.tmp 89) _ rfl e81 _ e89 rfl
            · intro a1 w1 hG hF
              exact s_same rfl (wants0 rfl) (.tmp 90) (.inl rfl) (hF.dp 12 90 (by kernel_rfl))
          · intro vs w1 hG hf
            have z4 : vs 13 = .bool true := hf.2.2.2.2.2.2.2.2.2.2.2.2.2.1
            clear hf
            simp only [putAll, Nat.zero_add, Nat.reduceAdd, z4]
            have hF := hEnd.out w1 ((Gr.drew wr).trans hG)
            go_simp
            go_wp2_with fail
            go_ret
            exact ⟨rfl, hF⟩
        · have hl1i : ¬ (k : Int) < (n : Int) := by omega
          go_upto_region 12 with fail
          obtain ⟨AN, nN, DN, cD, x1, _, _⟩ := hR.mem
          obtain ⟨LN, hLN⟩ : ∃ n, n = v.L.length := ⟨_, rfl⟩
          rw [← hLN] at x1
          have HId : Hid (∀ w1, Gr wr w1 → Calls Tryd.prog 17 #[.pointer (some ⟨g, 0, none⟩)] w1 fun e w' => e = .returned (.bool false) ∧ w1 = w') := fun w1 h => by
            have := isIdeal_any (hV.gr h)
            rwa [hid] at this
          have HCt : Hid (∀ w1, Gr wr w1 → Calls Tryd.prog 14 #[.pointer (some ⟨g, 0, none⟩)] w1 fun e w' => e = .returned (.int .i64 (LN : Nat)) ∧ w1 = w') := fun w1 h => by
            have := count_any (hV.gr h)
            rwa [← hLN] at this
          have qc3 := x1.cell (i := 3) (v := .slice DN LN cD) rfl
          have hEnd : Hid (∀ w1, Gr wr w1 → Gr w w1) := fun w1 h => HFin.out w1 (hBw.trans (h.mono (Nat.le_trans hB2 hBw.size)))
          clear x1 hLN hV hR hgd hid hBw
          refine wp_region_ssaL (by kernel_rfl) [IsV (.pointer (some ⟨g, 0, none⟩)), IsV (.bool false), IsV (.bool true), IsV (.bool true), IsV (.pointer (some ⟨g, 0, none⟩)), IsV (.int .i64 ((LN : Nat) : Int)), IsV (.pointer (some ⟨r, 0, none⟩)), IsV (.pointer (some ⟨r, 0, none⟩)), IsV (.pointer (some ⟨r, 3, none⟩)), IsV (.slice DN LN cD), IsV (.int .i64 ((LN : Nat) : Int)), IsV (.bool true), IsV (.bool true), IsV (.bool true)] (by kernel_rfl) ?_ ?_ ?_
          · intro φ hφ v w1 w2 h hg
            simp only [List.mem_cons, List.not_mem_nil, or_false] at hφ
            rcases hφ with rfl | rfl | rfl | rfl | rfl | rfl | rfl | rfl | rfl | rfl | rfl | rfl | rfl | rfl
            all_goals first | exact h | exact RdV.gr h hg
          · refine ⟨?_, ?_, ?_, ?_, ?_, ?_, ?_, ?_, ?_, ?_, ?_, ?_, ?_, ?_, trivial⟩
            · intro a1 w1 hG hF
              exact s_old rfl (wants0 rfl) (.tmp 11) (.inr rfl) (.pointer (some ⟨g, 0, none⟩)) (hF.ol 11 (by kernel_rfl)) rfl
            · intro a1 w1 hG hF
              obtain ⟨_, e78, rfl⟩ := hF.dp 0 78 (by kernel_rfl)
              exact s_call rfl (wants0 rfl) _ rfl _ _ (by simp only [execOp, resolve, invoke, List.map_toArray, List.map_cons, List.map_nil, e78]; go_simp) ((HId.out w1 ((Gr.drew wr).trans hG)).mono fun e w2 ⟨he, hw⟩ => ⟨_, he, rfl, hw ▸ Gr.refl _⟩)
            · intro a1 w1 hG hF
              obtain ⟨_, e79, rfl⟩ := hF.dp 1 79 (by kernel_rfl)
              exact s_is rfl (wants0 rfl) _ rfl (by simp only [execOp, e79]; go_simp)
            · intro a1 w1 hG hF
              exact s_same rfl (wants0 rfl) (.tmp 80) (.inr rfl) (hF.dp 2 80 (by kernel_rfl))
            · intro a1 w1 hG hF
              exact s_old rfl (wantsG hF 3 81 true rfl (by kernel_rfl) rfl) (.tmp 11) (.inr rfl) (.pointer (some ⟨g, 0, none⟩)) (hF.ol 11 (by kernel_rfl)) rfl
            · intro a1 w1 hG hF
              obtain ⟨_, e82, rfl⟩ := hF.dp 4 82 (by kernel_rfl)
              exact s_call rfl (wantsG hF 3 81 true rfl (by kernel_rfl) rfl) _ rfl _ _ (by simp only [execOp, resolve, invoke, List.map_toArray, List.map_cons, List.map_nil, e82]; go_simp) ((HCt.out w1 ((Gr.drew wr).trans hG)).mono fun e w2 ⟨he, hw⟩ => ⟨_, he, rfl, hw ▸ Gr.refl _⟩)
            · intro a1 w1 hG hF
              exact s_old rfl (wantsG hF 3 81 true rfl (by kernel_rfl) rfl) (.tmp 12) (.inr rfl) (.pointer (some ⟨r, 0, none⟩)) (hF.ol 12 (by kernel_rfl)) rfl
            · intro a1 w1 hG hF
              obtain ⟨_, e84, rfl⟩ := hF.dp 6 84 (by kernel_rfl)
              exact s_is rfl (wantsG hF 3 81 true rfl (by kernel_rfl) rfl) _ rfl (run_nil e84)
            · intro a1 w1 hG hF
              obtain ⟨_, e85, rfl⟩ := hF.dp 7 85 (by kernel_rfl)
              exact s_is rfl (wantsG hF 3 81 true rfl (by kernel_rfl) rfl) _ rfl (run_field (o := 3) (k := 0) Tryd.underlying48 rfl rfl (by kernel_rfl) e85)
            · intro a1 w1 hG hF
              obtain ⟨_, e86, rfl⟩ := hF.dp 8 86 (by kernel_rfl)
              exact s_is rfl (wantsG hF 3 81 true rfl (by kernel_rfl) rfl) _ rfl (run_load1B (.inr (.inr (.inr (.inl ⟨_, Tryd.underlying46⟩)))) e86 (Gr.cell ((Gr.drew wr).trans hG) qc3))
            · intro a1 w1 hG hF
              obtain ⟨_, e87, rfl⟩ := hF.dp 9 87 (by kernel_rfl)
              exact s_is rfl (wantsG hF 3 81 true rfl (by kernel_rfl) rfl) _ rfl (run_len_slice Tryd.underlying46 e87)
            · intro a1 w1 hG hF
              obtain ⟨_, e83, rfl⟩ := hF.dp 5 83 (by kernel_rfl)
              obtain ⟨_, e88, rfl⟩ := hF.dp 10 88 (by kernel_rfl)
              exact s_is rfl (wantsG hF 3 81 true rfl (by kernel_rfl) rfl) _ rfl (by simp only [execOp, e83, e88]; go_simp)
            · intro a1 w1 hG hF
              obtain ⟨_, e81, rfl⟩ := hF.dp 3 81 (by kernel_rfl)
              obtain ⟨_, e89, rfl⟩ := hF.dp 11 89 (by kernel_rfl)
              exact s_pick rfl (wants0 rfl) (.tmp 81) (.tmp 89) _ rfl e81 _ e89 rfl
            · intro a1 w1 hG hF
              exact s_same rfl (wants0 rfl) (.tmp 90) (.inl rfl) (hF.dp 12 90 (by kernel_rfl))
          · intro vs w1 hG hf
            have z4 : vs 13 = .bool true := hf.2.2.2.2.2.2.2.2.2.2.2.2.2.1
            clear hf
            simp only [putAll, Nat.zero_add, Nat.reduceAdd, z4]
            have hF := hEnd.out w1 ((Gr.drew wr).trans hG)
            go_simp
            go_wp2_with fail
            go_ret
            exact ⟨rfl, hF⟩
end Go.Proofs.YtnmhfomnlnlflaaDoor
