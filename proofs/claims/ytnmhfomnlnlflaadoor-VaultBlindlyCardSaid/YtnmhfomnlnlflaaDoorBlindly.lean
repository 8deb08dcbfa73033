/- The walk of the law VaultBlindly. No condition. -/
import Derived.Test.YtnmhfomnlnlflaaDoorTwinC
import Derived.Test.YtnmhfomnlnlflaaDoorOpenActs
namespace Go.Proofs.YtnmhfomnlnlflaaDoor
open Go.RowKit
set_option maxRecDepth 100000 in
set_option maxHeartbeats 32000000 in
theorem law_blindly (M : List UInt8) (hM : M.length = 32) (A : Option Addr) (n c : Nat) (y : UInt8) (w : World) (hA : Acts w A n) (gw : Glob w) :
    Calls Tryd.prog 3 #[.agg (u8s M).toArray, .slice A n c, .int .u8 (y.toNat : Int)] w fun e w' => e = .returned (.bool true) ∧ Gr w w' := by
  obtain ⟨i0, hi0, hz0, hz1, hz2⟩ := info_parts Tryd.info5
  have h2 : Arr (w.alloc (.cells (u8s M).toArray 22)) w.heap.size 22 (u8s M) := Arr.newAt rfl rfl
  have G0 : Gr w (w.alloc (.cells (u8s M).toArray 22)) := Gr.alloc _ _
  have HI : Hid (∀ w, Calls Tryd.prog 9 #[.agg (u8s M).toArray] w fun e w' => ∃ g b1 b2 b3, e = .returned (.pointer (some ⟨g, 0, none⟩)) ∧ Gr w w' ∧ w.heap.size ≤ b1 ∧ b3 < w'.heap.size ∧ w.heap.size ≤ g ∧ ∀ τ B, B ≤ b1 → VIs τ B w' g b1 b2 b3 ⟨true, M, [], []⟩) := fun w => ideal_any M hM w
  have HVs := Lib.hid vaults_any
  go_enter Tryd.func3, Tryd.ntmps3
  go_upto_region 1 with fail
  change Code.wp _ _ _ _ (w.alloc (.cells (u8s M).toArray 22))
  generalize w.alloc (.cells (u8s M).toArray 22) = w0 at h2 G0 ⊢
  obtain ⟨g2, hg2⟩ : ∃ g, g = w.heap.size := ⟨_, rfl⟩
  rw [← hg2] at h2
  simp only [← hg2]
  clear hg2
  have gw0 := gw.gr G0
  have hA0 := hA.below G0
  obtain ⟨B, hBB⟩ : ∃ B, B = w0.heap.size := ⟨_, rfl⟩
  have hB0 : B ≤ w0.heap.size := Nat.le_of_eq hBB
  have HBB := Lib.hid hBB
  have hLow : LowG B := by rw [hBB]; exact gw0.lowG
  have HwB : Hid (w.heap.size ≤ B) := by show _ ≤ _; rw [hBB]; exact G0.size
  clear hBB gw hA
  refine wp_region_cut (by kernel_rfl) [IsV (.agg (u8s (M)).toArray), NewV2 B ⟨true, M, [], []⟩, IsV (.agg (u8s (M)).toArray)] 3 (by decide) (by kernel_rfl) (by kernel_rfl) (by kernel_rfl) ?_ ?_ ?_
  · intro φ hφ v w1 w2 h hg
    simp only [List.mem_cons, List.not_mem_nil, or_false] at hφ
    rcases hφ with rfl | rfl | rfl
    all_goals first | exact h | exact RdV.gr h hg | exact NewV2.gr h hg
  · refine ⟨?_, ?_, ?_, trivial⟩
    · intro a1 w1 hG hF
      have e3 : a1.eval (.tmp 3) = .pointer (some ⟨g2, 0, none⟩) := hF.ol 3 (by kernel_rfl)
      exact s_is rfl (wants0 rfl) _ rfl (run_loadArr ⟨_, _, Tryd.underlying22⟩ (infoU8_32 M hM) e3 (h2.gr ((Gr.drew w0).trans hG)))
    · intro a1 w1 hG hF
      obtain ⟨_, e22, rfl⟩ := hF.dp 0 22 (by kernel_rfl)
      exact s_call rfl (wants0 rfl) _ rfl _ _ (by simp only [execOp, resolve, invoke, List.map_toArray, List.map_cons, List.map_nil, e22]; go_simp) ((HI.out w1).mono fun e w2 ⟨g, b1, b2, b3, he, hg, h1, h3, _, hV⟩ => ⟨_, he, ⟨g, b1, b2, b3, rfl, hV mapT B (by have := ((Gr.drew w0).trans hG).size; omega), h3⟩, hg⟩)
    · intro a1 w1 hG hF
      have e3 : a1.eval (.tmp 3) = .pointer (some ⟨g2, 0, none⟩) := hF.ol 3 (by kernel_rfl)
      exact s_is rfl (wants0 rfl) _ rfl (run_loadArr ⟨_, _, Tryd.underlying22⟩ (infoU8_32 M hM) e3 (h2.gr ((Gr.drew w0).trans hG)))
  · intro vs w1 hG hf
    have y23 : (NewV2 B ⟨true, M, [], []⟩) (vs 1) w1 := hf.2.1
    have z24 : vs 2 = .agg (u8s (M)).toArray := hf.2.2.1
    clear hf
    simp only [List.take_succ_cons, List.take_zero, List.drop_succ_cons, List.drop_zero, putAll, Nat.zero_add, Nat.reduceAdd, z24]
    have hG1 := (Gr.drew w0).trans hG
    obtain ⟨ga, a1, a2, a3, hy23, hVa, ha3⟩ := y23
    rw [hy23]
    have gw1 := gw0.gr hG1
    have hs1 := hG1.size
    unfold wpList
    go_simp
    refine .inl ?_
    refine (HI.out w1).mono ?_
    rintro e w2 ⟨gb, b1, b2, b3, rfl, hG2, hb1, _, _, hVB⟩
    have hVb := hVB mapT B (by omega)
    have hVa2 := hVa.gr hG2
    have gw2 := gw1.gr hG2
    have G02 : Gr w0 w2 := Gr.trans hG1 hG2
    have h12a := hVa.lt1
    have h23a := hVa.lt2
    have h12b := hVb.lt1
    have h23b := hVb.lt2
    have hda : ∀ k, k = a1 ∨ k = a2 ∨ k = a3 → k ≠ b1 ∧ k ≠ b2 ∧ k ≠ b3 := by omega
    have hdb : ∀ k, k = b1 ∨ k = b2 ∨ k = b3 → k ≠ a1 ∧ k ≠ a2 ∧ k ≠ a3 := by omega
    clear hVB hVa hG2 hb1 ha3 gw1 hG hG1 hy23 HI h2
    go_simp
    go_wp2_with fail
    refine (HVs.out w2 gw2).mono ?_
    rintro e w3 ⟨rfl, hG3⟩
    have hV3 := hVa2.gr hG3
    have hW3 := hVb.gr hG3
    have gw3 := gw2.gr hG3
    have G03 : Gr w0 w3 := Gr.trans G02 hG3
    have hB3 : B ≤ w3.heap.size := Nat.le_trans hB0 G03.size
    have HG03 : Hid (∀ (p : Addr) u, w0.cell? p = some u → w3.cell? p = some u) := fun p u hp => Gr.cell G03 hp
    have HGc : Hid (∀ (p : Addr), p.block < w0.heap.size → w3.cell? p = w0.cell? p) := fun p hp => Below.cell G03 hp
    have HBel : Hid (∀ wr, Below B w3 wr → ∀ (p : Addr) u, w0.cell? p = some u → wr.cell? p = some u) := fun wr h p u hp => by
      have hb : p.block < B := by rw [HBB.out]; exact lt_of_cell hp
      exact (Below.cell h hb).trans (HG03.out p u hp)
    have HRd : Hid (∀ wr, Below B w3 wr → ∀ A n (l : List UInt8), Rd w0 A n (u8s l) → Rd wr A n (u8s l)) := fun wr h A n l hr => hr.keep fun p hp _ => by
      have hb : p.block < B := by rw [HBB.out]; exact hp
      exact (Below.cell h hb).trans (HGc.out p hp)
    have HFin : Hid (∀ w1, Below B w3 w1 → Gr w w1) := fun w1 h => Below.trans (Gr.trans G0 G03) (h.mono HwB.out)
    have hA3 := Lib.hid hA0
    obtain ⟨v0, hv0⟩ : ∃ v0 : Vt, v0 = ⟨true, M, [], []⟩ := ⟨_, rfl⟩
    have hT0 : Twin y v0 v0 := by rw [hv0]; exact ⟨rfl, rfl, rfl, rfl, rfl⟩
    have hF0 : Few v0 0 := by rw [hv0]; exact ⟨Nat.le_refl _, Nat.le_refl _⟩
    rw [← hv0] at hV3 hW3
    clear hv0 hA0 G02 G03 hG3 hVa2 hVb gw0 gw2 G0 HVs hs1
    go_upto_region 5 with fail
    go_simp
    go_loopw [9] (fun i wr => TwinR B ga a1 a2 a3 gb b1 b2 b3 y n w3 i wr) (fun i _ => 20 - (intOf i).toNat)
    case atStart => exact ⟨0, v0, v0, Nat.zero_le _, Nat.zero_le _, rfl, hV3, hW3, hT0, hF0, hF0, Below.refl _ _⟩
    case round =>
      obtain ⟨k, va, vb, hkn, hk20, rfl, hVa, hVb, hTw, hFa, hFb, hBw⟩ := hrel
      have hBr : B ≤ wr.heap.size := Nat.le_trans hB3 hBw.size
      have gwr := gw3.keep hBw hLow
      by_cases hlt : k < n ∧ k < 20
      · obtain ⟨hl1, hl2⟩ := hlt
        obtain ⟨b, o, cs, rfl, ⟨zw, ze, zc, zk, A1, n1, c1, l1, D1, m1, d1, l2, zh, yy, rfl, hnc, hmd, hr0, hb0⟩, hcs⟩ := hA3.out k hl1
        have hl1i : (k : Int) < (n : Int) := by omega
        have hl2i : (k : Int) < 20 := by omega
        have q0 : wr.cell? ⟨b, o + k * 8, none⟩ = some (.int .i64 zw) := HBel.out wr hBw _ _ (hcs 0 (.int .i64 zw) rfl)
        have q1 : wr.cell? ⟨b, o + k * 8 + 1, none⟩ = some (.int .i64 ze) := HBel.out wr hBw _ _ (hcs 1 (.int .i64 ze) rfl)
        have q2 : wr.cell? ⟨b, o + k * 8 + 2, none⟩ = some (.int .i64 zc) := HBel.out wr hBw _ _ (hcs 2 (.int .i64 zc) rfl)
        have q3 : wr.cell? ⟨b, o + k * 8 + 3, none⟩ = some (.int .i64 zk) := HBel.out wr hBw _ _ (hcs 3 (.int .i64 zk) rfl)
        have q4 : wr.cell? ⟨b, o + k * 8 + 4, none⟩ = some (.slice A1 n1 c1) := HBel.out wr hBw _ _ (hcs 4 (.slice A1 n1 c1) rfl)
        have q5 : wr.cell? ⟨b, o + k * 8 + 5, none⟩ = some (.slice D1 m1 d1) := HBel.out wr hBw _ _ (hcs 5 (.slice D1 m1 d1) rfl)
        have q6 : wr.cell? ⟨b, o + k * 8 + 6, none⟩ = some (.int .i64 zh) := HBel.out wr hBw _ _ (hcs 6 (.int .i64 zh) rfl)
        have q7 : wr.cell? ⟨b, o + k * 8 + 7, none⟩ = some (.int .u8 (yy.toNat : Int)) := HBel.out wr hBw _ _ (hcs 7 (.int .u8 (yy.toNat : Int)) rfl)
        have hra := HRd.out wr hBw _ _ _ hr0
        have hba := HRd.out wr hBw _ _ _ hb0
        obtain ⟨k1, hk1⟩ : ∃ k, k = min n1 40 := ⟨_, rfl⟩
        obtain ⟨k2, hk2⟩ : ∃ k, k = min m1 100 := ⟨_, rfl⟩
        have h140 : k1 ≤ 40 := by omega
        have h1n1 : k1 ≤ n1 := by omega
        have h2100 : k2 ≤ 100 := by omega
        have hji : min (n1 : Int) 40 = (k1 : Int) := by omega
        obtain ⟨PP, hPP⟩ : ∃ l, l = l2.take k2 := ⟨_, rfl⟩
        have hm0 : l2.length = m1 := by simpa using hb0.1
        have hPPl : PP.length = k2 := by rw [hPP, List.length_take]; omega
        have HC : Hid (∀ w, Rd w D1 m1 (u8s l2) → Calls Tryd.prog 11 #[.slice D1 m1 d1, .int .i64 100] w fun e w' => ∃ v, e = .returned v ∧ w'.ownsRow w.heap.size 5 1 v k2 (u8s PP) ∧ Gr w w') := by
          intro w h
          rw [hPP]
          exact cut_any D1 m1 d1 l2 100 k2 hk2 (by omega) w hmd h
        have HJI := Lib.hid hji
        clear hcs hr0 hb0 hk1 hk2 hPP hm0 hji hkn
        go_upto_region 8 with (refine wpList_new rfl 29 (.tmp 10) (.tmp 41) rfl _ (actC zw ze zc zk A1 n1 c1 D1 m1 d1 zh yy) rfl rfl rfl (by rfl) (by kernel_rfl) (by simp [actC, Value.oneCell']) ?_; intro w4 h10 hG4)
        have hVa4 := hVa.gr hG4
        have hVb4 := hVb.gr hG4
        have gw4 := gwr.gr hG4
        have hra4 := hG4.rd hra
        have hba4 := hG4.rd hba
        have hBw4 : Below B w3 w4 := hBw.trans (hG4.mono hBr)
        have hB4 : B ≤ w4.heap.size := Nat.le_trans hBr hG4.size
        generalize wr.heap.size = g10 at h10 ⊢
        have f0 := h10.cell (i := 5) (v := .slice D1 m1 d1) rfl
        clear hVa hVb gwr hra hba hBw hBr hG4 q0 q1 q2 q3 q4 q5 q6 q7
        refine wp_region_cut (by kernel_rfl) [IsV (.pointer (some ⟨g10, 5, none⟩)), IsV (.slice D1 m1 d1), CopyV w4.heap.size 5 PP, IsV (.pointer (some ⟨g10, 5, none⟩)), IsV (.slice D1 m1 d1)] 5 (by decide) (by kernel_rfl) (by kernel_rfl) (by kernel_rfl) ?_ ?_ ?_
        · intro φ hφ v w1 w2 h hg
          simp only [List.mem_cons, List.not_mem_nil, or_false] at hφ
          rcases hφ with rfl | rfl | rfl | rfl | rfl
          all_goals first | exact h | exact RdV.gr h hg | exact CopyV.gr h hg
        · refine ⟨?_, ?_, ?_, ?_, ?_, trivial⟩
          · intro a1 w1 hG hF
            have e10 : a1.eval (.tmp 10) = .pointer (some ⟨g10, 0, none⟩) := hF.ol 10 (by kernel_rfl)
            exact s_is rfl (wants0 rfl) _ rfl (run_field (o := 5) (k := 0) Tryd.underlying29 rfl rfl (by kernel_rfl) e10)
          · intro a1 w1 hG hF
            obtain ⟨_, e42, rfl⟩ := hF.dp 0 42 (by kernel_rfl)
            exact s_is rfl (wants0 rfl) _ rfl (run_load1B (.inr (.inr (.inr (.inl ⟨_, Tryd.underlying27⟩)))) e42 (Gr.cell ((Gr.drew w4).trans hG) f0))
          · intro a1 w1 hG hF
            obtain ⟨_, e43, rfl⟩ := hF.dp 1 43 (by kernel_rfl)
            exact s_call rfl (wants0 rfl) _ rfl _ _ (by simp only [execOp, resolve, invoke, List.map_toArray, List.map_cons, List.map_nil, e43]; go_simp) ((HC.out w1 (((Gr.drew w4).trans hG).rd hba4)).mono fun e w2 ⟨v, he, ho, hb⟩ => ⟨_, he, (by unfold CopyV; rw [hPPl]; exact own_lower ho ((Gr.drew w4).trans hG).size), hb⟩)
          · intro a1 w1 hG hF
            have e10 : a1.eval (.tmp 10) = .pointer (some ⟨g10, 0, none⟩) := hF.ol 10 (by kernel_rfl)
            exact s_is rfl (wants0 rfl) _ rfl (run_field (o := 5) (k := 0) Tryd.underlying29 rfl rfl (by kernel_rfl) e10)
          · intro a1 w1 hG hF
            obtain ⟨_, e45, rfl⟩ := hF.dp 3 45 (by kernel_rfl)
            exact s_is rfl (wants0 rfl) _ rfl (run_load1B (.inr (.inr (.inr (.inl ⟨_, Tryd.underlying27⟩)))) e45 (Gr.cell ((Gr.drew w4).trans hG) f0))
        · intro vs w1 hG hf
          have y44 : (CopyV w4.heap.size 5 PP) (vs 2) w1 := hf.2.2.1
          have z46 : vs 4 = .slice D1 m1 d1 := hf.2.2.2.2.1
          clear hf
          simp only [List.take_succ_cons, List.take_zero, List.drop_succ_cons, List.drop_zero, putAll, Nat.zero_add, Nat.reduceAdd, z46]
          have hG5 := (Gr.drew w4).trans hG
          obtain ⟨Ap, cp, z44', hcp, hAp, hrp⟩ := own_form3 y44
          rw [z44']
          unfold CopyV at y44
          rw [hPPl] at y44 z44' hcp hAp hrp ⊢
          have hba5 := hG5.rd hba4
          unfold wpList
          go_simp
          refine .inl ?_
          refine (HC.out w1 hba5).mono ?_
          rintro e w6 ⟨u, rfl, hoq, hG6⟩
          obtain ⟨Aq, cq, rfl, hcq, hAq, _⟩ := own_form3 hoq
          have G46 : Gr w4 w6 := Gr.trans hG5 hG6
          have hrp6 := hG6.rd hrp
          have hpq : ∀ ad, Ap = some ad → ad.block < w1.heap.size := fun ad e => by
            rw [z44', e] at y44
            exact own_lt y44 ad rfl
          have hb16 : w4.heap.size ≤ w1.heap.size := hG5.size
          have hb66 : w1.heap.size ≤ w6.heap.size := hG6.size
          generalize w1.heap.size = bq at hoq hpq hb16 hb66
          clear hG hG5 hG6 hba4 hba5 hrp y44 z44' f0 HC
          have hB4q : B ≤ bq := Nat.le_trans hB4 hb16
          rw [← xorAt_zero y PP] at hoq
          go_simp
          go_upto_region 10 with fail
          go_simp
          go_loopw [13] (fun i wr => XorR2 Aq k2 cq bq y PP w6 i wr) (fun i _ => k2 - (intOf i).toNat)
          case atStart => exact ⟨0, Nat.zero_le _, rfl, hoq, Below.refl _ _⟩
          case round =>
            obtain ⟨j, hj, rfl, ho, hBx⟩ := hrel
            by_cases hlt : j < k2
            · obtain ⟨g6, bb, hAe, hbb, hcell, hfr, hset⟩ := own_turn ho hlt
              obtain ⟨ho8, hT8, _⟩ := hset (bb ^^^ y)
              rw [xorAt_step y PP hbb (by omega)] at ho8
              have hxo := Lib.hid (xor_byte bb y)
              have hB8 := hBx.trans (hT8.below (Nat.le_trans hb66 hBx.size))
              have hlti : (j : Int) < (k2 : Int) := by omega
              have hj1 : (j : Int) ≤ 100 := by omega
              clear hset hT8
              go_wp2_with fail
              rw [hxo.out]
              exact ⟨⟨j + 1, hlt, by go_num, ho8, hB8⟩, by simp [intOf]; omega⟩
            · have hlti : ¬ (j : Int) < (k2 : Int) := by omega
              rw [xorAt_all y PP (by omega)] at ho
              obtain ⟨QQ, hQQ⟩ : ∃ l, l = xorB y PP := ⟨_, rfl⟩
              rw [← hQQ] at ho
              have HQQ := Lib.hid hQQ
              have hrpx : Rd wr Ap k2 (u8s PP) := hrp6.belowC hBx hpq
              have hrqx := Rd.of_own ho
              have G4x : Gr w4 wr := Below.trans G46 (hBx.mono hb16)
              have hVax := hVa4.gr G4x
              have hVbx := hVb4.gr G4x
              have gwx := gw4.gr G4x
              have hrax := G4x.rd hra4
              have h10x := h10.gr G4x
              have hBwx : Below B w3 wr := hBw4.trans (G4x.mono hB4)
              have hBx4 : B ≤ wr.heap.size := Nat.le_trans hB4 G4x.size
              clear hVa4 hVb4 gw4 hra4 h10 hBw4 hB4 G4x G46 hBx hrp6 hb16 hb66 hB4q hoq hQQ
              have e0 := h10x.cell (i := 0) (v := .int .i64 zw) rfl
              generalize wr = wX at ho hrpx hrqx hVax hVbx gwx hrax h10x hBwx hBx4 e0 ⊢
              cases hpar : (zw.tmod 2 == 0) with
              | true =>
                obtain ⟨X, z, va2, hxa⟩ : ∃ X z v2, va.blinds PP = (X, z, v2) := ⟨_, _, _, rfl⟩
                obtain ⟨vb2, hxb⟩ : ∃ v2, vb.blinds QQ = (X, z, v2) := by
                  have h := hTw.blinds PP
                  rw [← HQQ.out, hxa] at h
                  exact ⟨(vb.blinds QQ).2.2, Prod.ext h.1 (Prod.ext h.2.1 rfl)⟩
                have hTw2 : Twin y va2 vb2 := by
                  have h := (hTw.blinds PP).2.2
                  rwa [← HQQ.out, hxa, hxb] at h
                have hXl : X.length = 32 := by
                  have h := blinds_length va PP
                  rwa [hxa] at h
                have hFa2 : Few va2 (k + 1) := by
                  have h := hFa.blinds PP
                  rwa [hxa] at h
                have hFb2 : Few vb2 (k + 1) := by
                  have h := hFb.blinds QQ
                  rwa [hxb] at h
                have hfa1 := hFa.1
                have hfb1 := hFb.1
                have hP := blind_tot hVax mapT_own Ap k2 cp PP hcp hrpx (by omega) gwx
                rw [hxa] at hP
                have HXB := Lib.hid hxb
                clear hxa hxb hTw hFa hFb
                go_wp2_with fail
                refine hP.mono ?_
                rintro e w9 ⟨rfl, hVa9, hT9⟩
                have hVb9 := hVbx.apart hT9 mapT_own hdb
                have hq9 := own_tn ho hT9 (fun _ _ _ => by simp [ownV])
                have gw9 := gwx.tn hT9
                have hBw9 := hBwx.trans (hT9.below hBx4)
                have hB9 : B ≤ w9.heap.size := Nat.le_trans hBx4 hT9.size
                clear hP hVax hVbx ho gwx hBwx hBx4 hT9 hrpx hrqx hrax h10x e0
                go_wp2_with (refine wpList_new rfl 31 (.tmp 14) (.tmp 69) rfl _ (u8s X) rfl rfl rfl (by simp only [u8s_length, hXl]; rfl) (infoBl X hXl) (u8s_oneCell _) ?_; intro w10 h14 hG10)
                have hVa10 := hVa9.gr hG10
                have hVb10 := hVb9.gr hG10
                have hq10 := Rd.of_own (Gr.own hG10 hq9)
                have gw10 := gw9.gr hG10
                have hBw10 := hBw9.trans (hG10.mono hB9)
                have hB10 : B ≤ w10.heap.size := Nat.le_trans hB9 hG10.size
                generalize w9.heap.size = g14 at h14 ⊢
                have hQ := blind_tot hVb10 mapT_own Aq k2 cq QQ hcq hq10 (by omega) gw10
                rw [HXB.out] at hQ
                clear hVa9 hVb9 hq9 gw9 hBw9 hB9 hG10 HXB
                go_wp2_with fail
                refine hQ.mono ?_
                rintro e w11 ⟨rfl, hVb11, hT11⟩
                have hVa11 := hVa10.apart hT11 mapT_own hda
                have h1411 := h14.tnV hT11
                have hBw11 := hBw10.trans (hT11.below hB10)
                have hB11 : B ≤ w11.heap.size := Nat.le_trans hB10 hT11.size
                clear hQ hVa10 hVb10 hq10 gw10 hBw10 hB10 hT11 h14
                go_upto_region 16 with (refine wpList_new rfl 31 (.tmp 16) (.tmp 75) rfl _ (u8s X) rfl rfl rfl (by simp only [u8s_length, hXl]; rfl) (infoBl X hXl) (u8s_oneCell _) ?_; intro w12 h16 hG12)
                have hVa12 := hVa11.gr hG12
                have hVb12 := hVb11.gr hG12
                have h1412 := h1411.gr hG12
                have hBw12 := hBw11.trans (hG12.mono hB11)
                generalize w11.heap.size = g16 at h16 ⊢
                have heq := eqBlD X hXl w12
                clear hVa11 hVb11 h1411 hBw11 hB11 hG12
                go_wp2_with first
                  | (refine wpList_loadW rfl 31 (.tmp 14) rfl rfl h1412 ⟨_, _, Tryd.underlying31⟩ (infoBl X hXl) ?_)
                  | (refine wpList_loadW rfl 31 (.tmp 16) rfl rfl h16 ⟨_, _, Tryd.underlying31⟩ (infoBl X hXl) ?_)
                exact ⟨⟨k + 1, va2, vb2, hl1, hl2, by go_num, hVa12, hVb12, hTw2, hFa2, hFb2, hBw12⟩, by simp [intOf]; omega⟩
              | false =>
                obtain ⟨WI, hWI⟩ : ∃ l, l = l1.take k1 := ⟨_, rfl⟩
                obtain ⟨X, z, va2, hxa⟩ : ∃ X z v2, va.seals ze zc zk WI PP = (X, z, v2) := ⟨_, _, _, rfl⟩
                obtain ⟨vb2, hxb⟩ : ∃ v2, vb.seals ze zc zk [] QQ = (X, z, v2) := by
                  have h := hTw.seals ze zc zk WI [] PP
                  rw [← HQQ.out, hxa] at h
                  exact ⟨(vb.seals ze zc zk [] QQ).2.2, Prod.ext h.1 (Prod.ext h.2.1 rfl)⟩
                have hTw2 : Twin y va2 vb2 := by
                  have h := (hTw.seals ze zc zk WI [] PP).2.2
                  rwa [← HQQ.out, hxa, hxb] at h
                have hFa2 : Few va2 (k + 1) := by
                  have h := hFa.seals ze zc zk WI PP
                  rwa [hxa] at h
                have hFb2 : Few vb2 (k + 1) := by
                  have h := hFb.seals ze zc zk [] QQ
                  rwa [hxb] at h
                have hfa1 := hFa.2
                have hfb1 := hFb.2
                have hrw : Rd wX A1 k1 (u8s WI) := by
                  rw [hWI, ← u8s_take]
                  exact hrax.take h1n1
                have HXA := Lib.hid hxa
                have HXB := Lib.hid hxb
                have e1 := h10x.cell (i := 1) (v := .int .i64 ze) rfl
                have e2 := h10x.cell (i := 2) (v := .int .i64 zc) rfl
                have e3 := h10x.cell (i := 3) (v := .int .i64 zk) rfl
                have e4 := h10x.cell (i := 4) (v := .slice A1 n1 c1) rfl
                clear hxa hxb hTw hFa hFb hWI
                go_upto_region 18 with fail
                refine wp_region_cut2 (by kernel_rfl) [IsV (.pointer (some ⟨ga, 0, none⟩)), IsV (.pointer (some ⟨g10, 1, none⟩)), IsV (.int .i64 (ze)), IsV (.pointer (some ⟨g10, 2, none⟩)), IsV (.int .i64 (zc)), IsV (.pointer (some ⟨g10, 3, none⟩)), IsV (.int .i64 (zk)), IsV (.pointer (some ⟨g10, 4, none⟩)), IsV (.slice A1 n1 c1), IsV (.pointer (some ⟨g10, 4, none⟩)), IsV (.slice A1 n1 c1), IsV (.int .i64 ((n1 : Nat) : Int)), IsV (.int .i64 ((k1 : Nat) : Int)), IsV (.slice A1 k1 c1), IsV (.slice Ap k2 cp)] 15 (by decide) (by kernel_rfl) (by kernel_rfl) (by kernel_rfl) ?_ ?_ ?_
                · intro φ hφ v w1 w2 h hg
                  simp only [List.mem_cons, List.not_mem_nil, or_false] at hφ
                  rcases hφ with rfl | rfl | rfl | rfl | rfl | rfl | rfl | rfl | rfl | rfl | rfl | rfl | rfl | rfl | rfl
                  all_goals first | exact h | exact RdV.gr h hg
                · refine ⟨?_, ?_, ?_, ?_, ?_, ?_, ?_, ?_, ?_, ?_, ?_, ?_, ?_, ?_, ?_, trivial⟩
                  · intro a1 w1 hG hF
                    exact s_old rfl (wants0 rfl) (.tmp 7) (.inr rfl) (.pointer (some ⟨ga, 0, none⟩)) (hF.ol 7 (by kernel_rfl)) rfl
                  · intro a1 w1 hG hF
                    have e10 : a1.eval (.tmp 10) = .pointer (some ⟨g10, 0, none⟩) := hF.ol 10 (by kernel_rfl)
                    exact s_is rfl (wants0 rfl) _ rfl (run_field (o := 1) (k := 0) Tryd.underlying29 rfl rfl (by kernel_rfl) e10)
                  · intro a1 w1 hG hF
                    obtain ⟨_, e87, rfl⟩ := hF.dp 1 87 (by kernel_rfl)
                    exact s_is rfl (wants0 rfl) _ rfl (run_load1 Tryd.underlying3 e87 (Gr.cell ((Gr.drew wX).trans hG) e1))
                  · intro a1 w1 hG hF
                    have e10 : a1.eval (.tmp 10) = .pointer (some ⟨g10, 0, none⟩) := hF.ol 10 (by kernel_rfl)
                    exact s_is rfl (wants0 rfl) _ rfl (run_field (o := 2) (k := 0) Tryd.underlying29 rfl rfl (by kernel_rfl) e10)
                  · intro a1 w1 hG hF
                    obtain ⟨_, e89, rfl⟩ := hF.dp 3 89 (by kernel_rfl)
                    exact s_is rfl (wants0 rfl) _ rfl (run_load1 Tryd.underlying3 e89 (Gr.cell ((Gr.drew wX).trans hG) e2))
                  · intro a1 w1 hG hF
                    have e10 : a1.eval (.tmp 10) = .pointer (some ⟨g10, 0, none⟩) := hF.ol 10 (by kernel_rfl)
                    exact s_is rfl (wants0 rfl) _ rfl (run_field (o := 3) (k := 0) Tryd.underlying29 rfl rfl (by kernel_rfl) e10)
                  · intro a1 w1 hG hF
                    obtain ⟨_, e91, rfl⟩ := hF.dp 5 91 (by kernel_rfl)
                    exact s_is rfl (wants0 rfl) _ rfl (run_load1 Tryd.underlying3 e91 (Gr.cell ((Gr.drew wX).trans hG) e3))
                  · intro a1 w1 hG hF
                    have e10 : a1.eval (.tmp 10) = .pointer (some ⟨g10, 0, none⟩) := hF.ol 10 (by kernel_rfl)
                    exact s_is rfl (wants0 rfl) _ rfl (run_field (o := 4) (k := 0) Tryd.underlying29 rfl rfl (by kernel_rfl) e10)
                  · intro a1 w1 hG hF
                    obtain ⟨_, e93, rfl⟩ := hF.dp 7 93 (by kernel_rfl)
                    exact s_is rfl (wants0 rfl) _ rfl (run_load1B (.inr (.inr (.inr (.inl ⟨_, Tryd.underlying27⟩)))) e93 (Gr.cell ((Gr.drew wX).trans hG) e4))
                  · intro a1 w1 hG hF
                    have e10 : a1.eval (.tmp 10) = .pointer (some ⟨g10, 0, none⟩) := hF.ol 10 (by kernel_rfl)
                    exact s_is rfl (wants0 rfl) _ rfl (run_field (o := 4) (k := 0) Tryd.underlying29 rfl rfl (by kernel_rfl) e10)
                  · intro a1 w1 hG hF
                    obtain ⟨_, e95, rfl⟩ := hF.dp 9 95 (by kernel_rfl)
                    exact s_is rfl (wants0 rfl) _ rfl (run_load1B (.inr (.inr (.inr (.inl ⟨_, Tryd.underlying27⟩)))) e95 (Gr.cell ((Gr.drew wX).trans hG) e4))
                  · intro a1 w1 hG hF
                    obtain ⟨_, e96, rfl⟩ := hF.dp 10 96 (by kernel_rfl)
                    exact s_is rfl (wants0 rfl) _ rfl (run_len_slice Tryd.underlying27 e96)
                  · intro a1 w1 hG hF
                    obtain ⟨_, e97, rfl⟩ := hF.dp 11 97 (by kernel_rfl)
                    exact s_is rfl (wants0 rfl) _ rfl (run_min_ e97 rfl HJI.out)
                  · intro a1 w1 hG hF
                    obtain ⟨_, e94, rfl⟩ := hF.dp 8 94 (by kernel_rfl)
                    obtain ⟨_, e98, rfl⟩ := hF.dp 12 98 (by kernel_rfl)
                    exact s_is rfl (wants0 rfl) _ rfl (by simp only [execOp, e94, e98, Option.map, Sem.run_bind, run_cut_h (P := Tryd.prog) (A := A1) (n := n1) (c := c1) (hi := k1) (h := (k1 : Int)) Tryd.underlying27 (by kernel_rfl) rfl (by omega), Result.andThen_ok, Sem.run_pure])
                  · intro a1 w1 hG hF
                    exact s_old rfl (wants0 rfl) (.tmp 11) (.inr rfl) (.slice Ap k2 cp) (hF.ol 11 (by kernel_rfl)) rfl
                · intro vs w1 hG hf
                  have z86 : vs 0 = .pointer (some ⟨ga, 0, none⟩) := hf.1
                  have z88 : vs 2 = .int .i64 (ze) := hf.2.2.1
                  have z90 : vs 4 = .int .i64 (zc) := hf.2.2.2.2.1
                  have z92 : vs 6 = .int .i64 (zk) := hf.2.2.2.2.2.2.1
                  have z99 : vs 13 = .slice A1 k1 c1 := hf.2.2.2.2.2.2.2.2.2.2.2.2.2.1
                  have z100 : vs 14 = .slice Ap k2 cp := hf.2.2.2.2.2.2.2.2.2.2.2.2.2.2.1
                  clear hf
                  simp only [List.take_succ_cons, List.take_zero, putAll, Nat.zero_add, Nat.reduceAdd, z86, z88, z90, z92, z99, z100]
                  have hG9 := (Gr.drew wX).trans hG
                  have hVa9 := hVax.gr hG9
                  have hVb9 := hVbx.gr hG9
                  have hrp9 := hG9.rd hrpx
                  have hrw9 := hG9.rd hrw
                  have hq9 := Gr.own hG9 ho
                  have gw9 := gwx.gr hG9
                  have h109 := h10x.gr hG9
                  have hBw9 := hBwx.trans (hG9.mono hBx4)
                  have hB9 : B ≤ w1.heap.size := Nat.le_trans hBx4 hG9.size
                  have hP := seal_tot hVa9 mapT_own (fun k C f _ => mapT2 k C f) ze zc zk A1 k1 c1 WI Ap k2 cp PP (by omega) (by omega) hcp hrw9 hrp9 hAp (by omega) gw9
                  rw [HXA.out] at hP
                  clear hG hG9 hVax hVbx hrpx hrw ho gwx h10x hBwx hBx4 hrax e0 e1 e2 e3 e4 hrqx HXA
                  refine wpOp_callR rfl rfl 13 #[.pointer (some ⟨ga, 0, none⟩), .int .i64 ze, .int .i64 zc, .int .i64 zk, .slice A1 k1 c1, .slice Ap k2 cp] (by kernel_rfl) (hP.mono ?_)
                  rintro e w10 ⟨E, q, cE, rfl, hE, hVa10, hT10⟩
                  refine ⟨_, rfl, ?_⟩
                  have hVb10 := hVb9.apart hT10 mapT_own hdb
                  have hq10 := own_tn hq9 hT10 (fun _ _ _ => by simp [ownV])
                  have gw10 := gw9.tn hT10
                  have h1010 := h109.tnV hT10
                  have hBw10 := hBw9.trans (hT10.below hB9)
                  have hB10 : B ≤ w10.heap.size := Nat.le_trans hB9 hT10.size
                  clear hP hVa9 hVb9 hrp9 hrw9 hq9 gw9 h109 hBw9 hB9 hT10
                  refine tail_put 15 [IsV (.tuple #[.slice E q cE, .int .i64 (z : Int)]), IsV (.tuple #[.slice E q cE, .int .i64 (z : Int)]), IsV (.slice E q cE), IsV (.int .i64 (z : Int)), IsV (.slice E q cE), IsV (.int .i64 (z : Int))] _ rfl (.tuple #[.slice E q cE, .int .i64 (z : Int)]) (by kernel_rfl) ?_ rfl ?_ ?_
                  · intro φ hφ v w1 w2 h hg
                    simp only [List.mem_cons, List.not_mem_nil, or_false] at hφ
                    rcases hφ with rfl | rfl | rfl | rfl | rfl | rfl
                    all_goals first | exact h | exact RdV.gr h hg
                  · refine ⟨?_, ?_, ?_, ?_, ?_, trivial⟩
                    · intro a1 w1 hG hF
                      exact s_same rfl (wants0 rfl) (.tmp 101) (.inr rfl) (hF.dp 15 101 (by kernel_rfl))
                    · intro a1 w1 hG hF
                      obtain ⟨_, e85, rfl⟩ := hF.dp 16 85 (by kernel_rfl)
                      exact s_is rfl (wants0 rfl) _ rfl (by simp only [execOp, e85]; go_simp)
                    · intro a1 w1 hG hF
                      obtain ⟨_, e85, rfl⟩ := hF.dp 16 85 (by kernel_rfl)
                      exact s_is rfl (wants0 rfl) _ rfl (by simp only [execOp, e85]; go_simp)
                    · intro a1 w1 hG hF
                      exact s_same rfl (wants0 rfl) (.tmp 102) (.inl rfl) (hF.dp 17 102 (by kernel_rfl))
                    · intro a1 w1 hG hF
                      exact s_same rfl (wants0 rfl) (.tmp 103) (.inl rfl) (hF.dp 18 103 (by kernel_rfl))
                  · intro vs w1 hG hf
                    have z18 : vs 19 = .slice E q cE := hf.2.2.2.1
                    have z19 : vs 20 = .int .i64 (z : Int) := hf.2.2.2.2.1
                    clear hf
                    simp only [List.drop_succ_cons, List.drop_zero, putAll, Nat.reduceAdd, z18, z19]
                    have hVa10 := hVa10.gr hG
                    have hVb10 := hVb10.gr hG
                    have hq10 := Gr.own hG hq10
                    have gw10 := gw10.gr hG
                    have h1010 := h1010.gr hG
                    have hBw10 := hBw10.trans (hG.mono hB10)
                    have hB10 : B ≤ w1.heap.size := Nat.le_trans hB10 hG.size
                    have hE := hE.gr hG
                    generalize w1 = w10 at hVa10 hVb10 hq10 gw10 h1010 hBw10 hB10 hE ⊢
                    clear hG
                    have e1 := h1010.cell (i := 1) (v := .int .i64 ze) rfl
                    have e2 := h1010.cell (i := 2) (v := .int .i64 zc) rfl
                    have e3 := h1010.cell (i := 3) (v := .int .i64 zk) rfl
                    have hQ := seal_tot hVb10 mapT_own (fun k C f _ => mapT2 k C f) ze zc zk none 0 0 [] Aq k2 cq QQ (by omega) (by omega) hcq (Rd.nil _ _) (Rd.of_own hq10) hAq (by omega) gw10
                    rw [HXB.out] at hQ
                    clear HXB
                    go_simp
                    go_wp2_with fail
                    refine hQ.mono ?_
                    rintro e w11 ⟨E2, q2, cE2, rfl, hE2, hVb11, hT11⟩
                    have hVa11 := hVa10.apart hT11 mapT_own hda
                    have hE11 := hE.tn (hT11.wide mapT_own)
                    have hBw11 := hBw10.trans (hT11.below hB10)
                    obtain ⟨sX, hsX⟩ : ∃ s : ByteArray, s = ⟨X.toArray⟩ := ⟨_, rfl⟩
                    have hcv : (convert 27 9 (.slice E q cE)).run Tryd.prog w11 = .ok (.string sX) w11 := by
                      rw [hsX]
                      exact run_str (P := Tryd.prog) (c := cE) w11 Tryd.underlying27 Tryd.underlying5 Tryd.underlying9 hE11.rd
                    have hcv2 : (convert 27 9 (.slice E2 q2 cE2)).run Tryd.prog w11 = .ok (.string sX) w11 := by
                      rw [hsX]
                      exact run_str (P := Tryd.prog) (c := cE2) w11 Tryd.underlying27 Tryd.underlying5 Tryd.underlying9 hE2.rd
                    clear hQ hVa10 hVb10 hq10 gw10 h1010 hBw10 hB10 hT11 hE hE11 hE2 e1 e2 e3 hsX
                    go_wp2_with fail
                    exact ⟨⟨k + 1, va2, vb2, hl1, hl2, by go_num, hVa11, hVb11, hTw2, hFa2, hFb2, hBw11⟩, by simp [intOf]; omega⟩
      · obtain ⟨LN, hLN⟩ : ∃ q, q = va.L.length := ⟨_, rfl⟩
        have hPa := count_any hVa
        have hPb := count_any hVb
        rw [hTw.len, ← hLN] at hPb
        rw [← hLN] at hPa
        have hEnd := HFin.out wr hBw
        clear hLN hVa hVb hTw hFa hFb hBw hBr gwr
        by_cases hl1 : k < n
        · have hl1i : (k : Int) < (n : Int) := by omega
          have hl2i : ¬ (k : Int) < 20 := by omega
          go_wp2_with fail
          refine hPa.mono ?_
          rintro e _ ⟨rfl, rfl⟩
          go_wp2_with fail
          refine hPb.mono ?_
          rintro e _ ⟨rfl, rfl⟩
          go_wp2_with fail
          go_ret
          exact ⟨rfl, hEnd⟩
        · have hl1i : ¬ (k : Int) < (n : Int) := by omega
          go_wp2_with fail
          refine hPa.mono ?_
          rintro e _ ⟨rfl, rfl⟩
          go_wp2_with fail
          refine hPb.mono ?_
          rintro e _ ⟨rfl, rfl⟩
          go_wp2_with fail
          go_ret
          exact ⟨rfl, hEnd⟩
end Go.Proofs.YtnmhfomnlnlflaaDoor
