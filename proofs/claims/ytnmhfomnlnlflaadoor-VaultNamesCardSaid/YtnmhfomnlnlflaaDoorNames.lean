/- The walk of the law VaultNames. No condition. -/
import Derived.Test.YtnmhfomnlnlflaaDoorNamesS
namespace Go.Proofs.YtnmhfomnlnlflaaDoor
open Go.RowKit
set_option maxRecDepth 100000 in
set_option maxHeartbeats 32000000 in
theorem law_names (M : List UInt8) (hM : M.length = 32) (A : Option Addr) (n c : Nat) (ps : List Part) (w : World) (hps : Parts w A n ps) (gw : Glob w) :
    Calls Tryd.prog 5 #[.agg (u8s M).toArray, .slice A n c] w fun e w' => e = .returned (.bool true) ∧ Gr w w' := by
  obtain ⟨i0, hi0, hz0, hz1, hz2⟩ := info_parts (P := Tryd.prog) (e := 9) (z := .string ⟨#[]⟩) (size := 1) (bytes := 16) (by kernel_rfl)
  obtain ⟨iB, zB, hiB, hzB, hBz1, hBz2, hBz3⟩ : ∃ i z, Tryd.prog.info? 31 = some i ∧ i.zero = some z ∧ i.size = 32 ∧ i.bytes = 32 ∧ z.cells.size = 32 := by
    cases hie : Tryd.prog.info? 31 with
    | none => have := infoB32; rw [hie] at this; cases this
    | some ie =>
      have hq := infoB32
      rw [hie] at hq
      simp only [Option.map_some, Option.some.injEq, Prod.mk.injEq] at hq
      obtain ⟨q1, q2, q3⟩ := hq
      cases hz : ie.zero with
      | none => rw [hz] at q3; cases q3
      | some z =>
        rw [hz] at q3
        exact ⟨ie, z, rfl, hz, q1, q2, by simpa using q3⟩
  have h2 : Arr (w.alloc (.cells (u8s M).toArray 22)) w.heap.size 22 (u8s M) := Arr.newAt rfl rfl
  have G0 : Gr w (w.alloc (.cells (u8s M).toArray 22)) := Gr.alloc _ _
  have HI : Hid (∀ w, Calls Tryd.prog 9 #[.agg (u8s M).toArray] w fun e w' => ∃ g b1 b2 b3, e = .returned (.pointer (some ⟨g, 0, none⟩)) ∧ Gr w w' ∧ w.heap.size ≤ b1 ∧ b3 < w'.heap.size ∧ w.heap.size ≤ g ∧ ∀ τ B, B ≤ b1 → VIs τ B w' g b1 b2 b3 ⟨true, M, [], []⟩) := fun w => ideal_any M hM w
  have HVs := Lib.hid vaults_any
  go_enter Tryd.func5, Tryd.ntmps5
  go_upto_region 1 with fail
  change Code.wp _ _ _ _ (w.alloc (.cells (u8s M).toArray 22))
  generalize w.alloc (.cells (u8s M).toArray 22) = w0 at h2 G0 ⊢
  obtain ⟨g2, hg2⟩ : ∃ g, g = w.heap.size := ⟨_, rfl⟩
  rw [← hg2] at h2
  simp only [← hg2]
  clear hg2
  have gw0 := gw.gr G0
  have hps0 := hps.gr G0
  obtain ⟨B, hBB⟩ : ∃ B, B = w0.heap.size := ⟨_, rfl⟩
  have hB0 : B ≤ w0.heap.size := Nat.le_of_eq hBB
  have HBB := Lib.hid hBB
  have hLow : LowG B := by rw [hBB]; exact gw0.lowG
  have HwB : Hid (w.heap.size ≤ B) := by show _ ≤ _; rw [hBB]; exact G0.size
  clear hBB gw hps
  go_wp2_with first
    | (refine wpList_load_mid rfl 22 (.tmp 2) rfl g2 0 rfl (u8s M) _ h2.range Tryd.underlying22 rfl (infoU8_32 M hM) ?_)
  refine (HI.out w0).mono ?_
  rintro e w2 ⟨g, b1, b2, b3, rfl, hG2, hb1, _, _, hVB⟩
  have hV2 := hVB namT B (by omega)
  have gw2 := gw0.gr hG2
  clear hVB hb1 HI h2
  go_wp2_with fail
  refine (HVs.out w2 gw2).mono ?_
  rintro e w3 ⟨rfl, hG3⟩
  have hV3 := hV2.gr hG3
  have gw3 := gw2.gr hG3
  have G03 : Gr w0 w3 := Gr.trans hG2 hG3
  have hB3 : B ≤ w3.heap.size := Nat.le_trans hB0 G03.size
  have HG03 : Hid (∀ (p : Addr) u, w0.cell? p = some u → w3.cell? p = some u) := fun p u hp => Gr.cell G03 hp
  have HGc : Hid (∀ (p : Addr), p.block < w0.heap.size → w3.cell? p = w0.cell? p) := fun p hp => Below.cell G03 hp
  have HBel : Hid (∀ wr, Below B w3 wr → ∀ (p : Addr) u, w0.cell? p = some u → wr.cell? p = some u) := fun wr h p u hp => by
    have hb : p.block < B := by rw [HBB.out]; exact lt_of_cell hp
    exact (Below.cell h hb).trans (HG03.out p u hp)
  have HRd : Hid (∀ wr, Below B w3 wr → ∀ A n (l : List UInt8), Rd w0 A n (u8s l) → Rd wr A n (u8s l)) := fun wr h A n l hr => hr.keep fun p hp _ => by
    have hb : p.block < B := by rw [HBB.out]; exact hp
    exact (Below.cell h hb).trans (HGc.out p hp)
  have HFin : Hid (∀ w1, Below B w3 w1 → Gr w w1) := fun w1 h => Below.trans (Gr.trans G0 G03) (h.mono HwB.out)
  have hPS := Lib.hid hps0
  obtain ⟨v0, hv0⟩ : ∃ v0 : Vt, v0 = ⟨true, M, [], []⟩ := ⟨_, rfl⟩
  have hI0 : v0.ideal = true := by rw [hv0]
  have hF0 : Few v0 0 := by rw [hv0]; exact ⟨Nat.le_refl _, Nat.le_refl _⟩
  rw [← hv0] at hV3
  clear hv0 hps0 G03 hG3 hG2 hV2 gw0 gw2 G0 HVs
  go_upto_region 7 with fail
  go_simp
  go_loopw [6, 7, 8] (fun nv bv i wr => NamesR B g b1 b2 b3 n w3 nv bv i wr) (fun _ _ i _ => 14 - (intOf i).toNat)
  case atStart => exact ⟨0, v0, [], 0, none, 0, none, 0, Nat.zero_le _, Nat.zero_le _, Nat.le_refl _, rfl, rfl, rfl, rfl, hV3, hI0, hF0, (fun x h => by simp at h), ⟨rfl, .inl ⟨rfl, rfl⟩⟩, ⟨rfl, .inl ⟨rfl, rfl⟩⟩, Below.refl _ _⟩
  case round =>
    obtain ⟨k, v, Ns, N, A6, c6, A7, c7, hkn, hk14, hNk, hNl, rfl, rfl, rfl, hV, hid, hF, hsub, hon, hob, hBw⟩ := hrel
    have hBr : B ≤ wr.heap.size := Nat.le_trans hB3 hBw.size
    have gwr := gw3.keep hBw hLow
    by_cases hlt : k < n ∧ k < 14
    · obtain ⟨hl1, hl2⟩ := hlt
      obtain ⟨ad, ⟨pA, pn, pc, pl⟩, rfl, _, hcell0, hpr0, hpc, hpl⟩ := hPS.out.at_ hl1
      have hl1i : (k : Int) < (n : Int) := by omega
      have hl2i : (k : Int) < 14 := by omega
      have hcell : wr.cell? (ad.add k) = some (.slice pA pn pc) := HBel.out wr hBw _ _ hcell0
      have hpr := HRd.out wr hBw _ _ _ hpr0
      obtain ⟨k1, hk1⟩ : ∃ k, k = min pn 64 := ⟨_, rfl⟩
      obtain ⟨nm, hnm⟩ : ∃ l, l = pl.take k1 := ⟨_, rfl⟩
      have h164 : k1 ≤ 64 := by omega
      have hnml : nm.length = k1 := by
        simp only at hpl
        rw [hnm, List.length_take]; omega
      have HC : Hid (∀ w, Rd w pA pn (u8s pl) → Calls Tryd.prog 11 #[.slice pA pn pc, .int .i64 64] w fun e w' => ∃ v, e = .returned v ∧ w'.ownsRow w.heap.size 5 1 v k1 (u8s nm) ∧ Gr w w') := by
        intro w h
        rw [hnm]
        exact cut_any pA pn pc pl 64 k1 hk1 (by omega) w hpc h
      clear hcell0 hpr0 hk1 hnm hpl hpc hkn
      go_wp2_with fail
      refine (HC.out wr hpr).mono ?_
      rintro e w4 ⟨u, rfl, hon9, hG4⟩
      obtain ⟨A9, c9, rfl, hc9, hA9, hr9⟩ := own_form3 hon9
      have hV4 := hV.gr hG4
      have gw4 := gwr.gr hG4
      have hon4 := Gr.own hG4 hon
      have hob4 := Gr.own hG4 hob
      have hBw4 : Below B w3 w4 := hBw.trans (hG4.mono hBr)
      have hB4 : B ≤ w4.heap.size := Nat.le_trans hBr hG4.size
      generalize wr.heap.size = b9 at hon9
      clear HC hpr hcell hV gwr hon hob hBw hBr hG4
      have hF1 := hF.1
      have hF2 := hF.2
      by_cases hk0 : k1 = 0
      · subst hk0
        have hP := vblind_no g A9 0 c9 (by omega) w4
        obtain ⟨Z, hZ⟩ : ∃ Z : List UInt8, Z = List.replicate 32 0 := ⟨_, rfl⟩
        have hZl : Z.length = 32 := by rw [hZ]; rfl
        rw [← hZ] at hP
        clear hZ
        go_wp2_with fail
        refine hP.mono ?_
        rintro e w5 ⟨rfl, hG5⟩
        have hB5 : B ≤ w5.heap.size := Nat.le_trans hB4 hG5.size
        go_wp2_with (refine wpList_new rfl 31 (.tmp 10) (.tmp 36) rfl _ (u8s Z) rfl rfl rfl (by simp only [u8s_length, hZl]; rfl) (infoBl Z hZl) (u8s_oneCell _) ?_; intro w6 h10 hG6)
        have hG46 := Gr.trans hG5 hG6
        exact ⟨⟨k + 1, v, Ns, N, A6, c6, A7, c7, hl1, hl2, by omega, hNl, by go_num, rfl, rfl, hV4.gr hG46, hid, ⟨Nat.le_succ_of_le hF1, Nat.le_succ_of_le hF2⟩, hsub, Gr.own hG46 hon4, Gr.own hG46 hob4, hBw4.trans (hG46.mono hB4)⟩, by simp [intOf]; omega⟩
      · obtain ⟨X, hX⟩ : ∃ X, X = v.blind nm := ⟨_, rfl⟩
        have hXl : X.length = 32 := by rw [hX]; exact blind_length v nm
        have HX := Lib.hid hX
        have hP := vblind_any hV4 namT_own A9 k1 c9 nm (by omega) (by omega) hc9 hr9 (by omega) gw4
        rw [← hX] at hP
        clear hX
        have zk0 : ¬ (k1 : Int) = 0 := by omega
        go_wp2_with fail
        refine hP.mono ?_
        rintro e w5 ⟨rfl, hV5, hT5⟩
        have hn5 := own_tn hon9 hT5 (fun _ _ _ => by simp [ownV])
        have hon5 := own_tn hon4 hT5 (fun _ _ _ => by simp [ownV])
        have hob5 := own_tn hob4 hT5 (fun _ _ _ => by simp [ownV])
        have gw5 := gw4.tn hT5
        have hBw5 := hBw4.trans (hT5.below hB4)
        have hB5 : B ≤ w5.heap.size := Nat.le_trans hB4 hT5.size
        obtain ⟨v2, hv2⟩ : ∃ q, q = v.named nm := ⟨_, rfl⟩
        rw [← hv2] at hV5
        have hid2 : v2.ideal = true := by rw [hv2, named_ideal]; exact hid
        have hL2 : v2.L = v.L := by rw [hv2]; exact (named_L v nm).1
        have hN2 : v2.names.length ≤ k + 1 := by rw [hv2]; have := (named_L v nm).2; omega
        have hsub2 : ∀ x ∈ Ns, x ∈ v2.names := fun x h => by rw [hv2]; exact mem_named_of nm (hsub x h)
        have hnm2 : nm ∈ v2.names := by rw [hv2]; exact mem_named hid nm
        have hbl2 : ∀ x ∈ Ns, v2.blind x = v.blind x := fun x h => by rw [hv2]; exact blind_named (hsub x h)
        have hX2 : X = v2.blind nm := by
          rw [HX.out, hv2]
          exact (blind_same v nm).symm
        have hmap : Ns.flatMap (fun x => u8s (v.blind x)) = (Ns.map v2.blind).flatMap u8s := by
          rw [List.flatMap_map]
          exact flatMap_congr' fun x h => by rw [hbl2 x h]
        rw [hmap] at hob5
        have HX2 := Lib.hid hX2
        clear hP hT5 hV4 hr9 hon9 hon4 hob4 gw4 hBw4 hB4 HX hmap hX2 hv2 hbl2 hsub
        go_upto_region 16 with (refine wpList_new rfl 31 (.tmp 10) (.tmp 36) rfl _ (u8s X) rfl rfl rfl (by simp only [u8s_length, hXl]; rfl) (infoBl X hXl) (u8s_oneCell _) ?_; intro w6 h10 hG6)
        have hV6 := hV5.gr hG6
        have hn6 := Gr.own hG6 hn5
        have hon6 := Gr.own hG6 hon5
        have hob6 := Gr.own hG6 hob5
        have gw6 := gw5.gr hG6
        have hBw6 := hBw5.trans (hG6.mono hB5)
        have hB6 : B ≤ w6.heap.size := Nat.le_trans hB5 hG6.size
        generalize w5.heap.size = g10 at h10 ⊢
        clear hV5 hn5 hon5 hob5 gw5 hBw5 hB5 hG6
        go_wp2_with fail
        go_simp
        go_loopw [12] (fun i wr => ∃ q : Nat, q ≤ N ∧ i = .int .i64 (q : Int) ∧ Gr w6 wr) (fun i _ => N - (intOf i).toNat)
        case atStart => exact ⟨0, Nat.zero_le _, rfl, Gr.refl _⟩
        case round =>
          obtain ⟨q, hqN, rfl, hG⟩ := hrel
          have G6r := hG
          by_cases hlt : q < N
          · obtain ⟨x, hx⟩ : ∃ x, Ns[q]? = some x := ⟨Ns[q]'(by omega), List.getElem?_eq_getElem (by omega)⟩
            have hqi : (q : Int) < (N : Int) := by omega
            obtain ⟨gN, rfl, hcN0⟩ := own_at1 (Gr.own G6r hon6) hlt (u := strV x) (by rw [List.getElem?_map, hx]; rfl)
            obtain ⟨gB, rfl, hcB⟩ := own_at32 (x := v2.blind x) (Gr.own G6r hob6) (fun y hy => by
              obtain ⟨z, _, rfl⟩ := List.mem_map.1 hy
              exact blind_length v2 z) (k := q) (by rw [List.getElem?_map, hx]; rfl) hlt
            obtain ⟨sx, hsx⟩ : ∃ s : ByteArray, s = ⟨x.toArray⟩ := ⟨_, rfl⟩
            have hcN : wr.cell? ⟨gN, q, none⟩ = some (.string sx) := by rw [hsx]; exact hcN0
            obtain ⟨Y, hY⟩ : ∃ Y, Y = v2.blind x := ⟨_, rfl⟩
            rw [← hY] at hcB
            have hYl : Y.length = 32 := by rw [hY]; exact blind_length v2 x
            have hrn := Rd.of_own (Gr.own G6r hn6)
            have h10r := h10.gr G6r
            obtain ⟨bq, hbq⟩ : ∃ b : Bool, b = decide (x = nm) := ⟨_, rfl⟩
            have HYX : Hid ((Y == X) = bq) := by
              show _ = _
              rw [hbq, hY, HX2.out]
              by_cases hxe : x = nm
              · rw [hxe]; simp
              · have : v2.blind x ≠ v2.blind nm := fun e => hxe (blind_eq hid2 (by omega) (hsub2 x (List.mem_of_getElem? hx)) hnm2 e)
                rw [beq_false_of_ne this]
                simp [hxe]
            have hnl : (⟨nm.toArray⟩ : ByteArray).toList = nm := by simp
            have HSX : Hid ((sx.toList == nm) = bq) := by
              show _ = _
              rw [hbq]
              by_cases hxe : x = nm
              · have h := str_sameL hsx (rfl : (⟨nm.toArray⟩ : ByteArray) = _) hxe
                rw [hnl] at h
                rw [h]; simp [hxe]
              · have h := str_otherL hsx (rfl : (⟨nm.toArray⟩ : ByteArray) = _) hxe
                rw [hnl] at h
                rw [h]; simp [hxe]
            clear hnl
            clear hcN0 hsx hY hbq hx
            go_upto_region 19 with fail
            refine wp_region_ssaL (by kernel_rfl) [IsV (.slice (some ⟨gN, 0, none⟩) N c6), IsV (.int .i64 ((q : Nat) : Int)), IsV (.pointer (some ⟨gN, q, none⟩)), IsV (.string sx), IsV (.slice A9 k1 c9), IsV (.string ⟨(nm).toArray⟩), IsV (.bool bq), IsV (.slice (some ⟨gB, 0, none⟩) N c7), IsV (.int .i64 ((q : Nat) : Int)), IsV (.pointer (some ⟨gB, q * 32, none⟩)), IsV (.agg (u8s (Y)).toArray), IsV (.agg (u8s (X)).toArray), IsV (.bool (Y == X)), IsV (.bool (!(bq == (Y == X))))] (by kernel_rfl) ?_ ?_ ?_
            · intro φ hφ v w1 w2 h hg
              simp only [List.mem_cons, List.not_mem_nil, or_false] at hφ
              rcases hφ with rfl | rfl | rfl | rfl | rfl | rfl | rfl | rfl | rfl | rfl | rfl | rfl | rfl | rfl
              all_goals first | exact h | exact RdV.gr h hg
            · refine ⟨?_, ?_, ?_, ?_, ?_, ?_, ?_, ?_, ?_, ?_, ?_, ?_, ?_, ?_, trivial⟩
              · intro a1 w1 hG hF
                exact s_old rfl (wants0 rfl) (.tmp 6) (.inr rfl) (.slice (some ⟨gN, 0, none⟩) N c6) (hF.ol 6 (by kernel_rfl)) rfl
              · intro a1 w1 hG hF
                exact s_old rfl (wants0 rfl) (.tmp 12) (.inr rfl) (.int .i64 ((q : Nat) : Int)) (hF.ol 12 (by kernel_rfl)) rfl
              · intro a1 w1 hG hF
                obtain ⟨_, e51, rfl⟩ := hF.dp 0 51 (by kernel_rfl)
                obtain ⟨_, e52, rfl⟩ := hF.dp 1 52 (by kernel_rfl)
                exact s_is rfl (wants0 rfl) _ rfl (run_idx1 (c := c6) Tryd.underlying42 (by kernel_rfl) e51 e52 hlt)
              · intro a1 w1 hG hF
                obtain ⟨_, e53, rfl⟩ := hF.dp 2 53 (by kernel_rfl)
                exact s_is rfl (wants0 rfl) _ rfl (run_load1B (.inr (.inr (.inl Tryd.underlying9))) e53 (Gr.cell ((Gr.drew wr).trans hG) hcN))
              · intro a1 w1 hG hF
                exact s_old rfl (wants0 rfl) (.tmp 9) (.inr rfl) (.slice A9 k1 c9) (hF.ol 9 (by kernel_rfl)) rfl
              · intro a1 w1 hG hF
                obtain ⟨_, e55, rfl⟩ := hF.dp 4 55 (by kernel_rfl)
                exact s_str rfl (wants0 rfl) 27 9 5 (.tmp 55) rfl Tryd.underlying27 Tryd.underlying5 Tryd.underlying9 _ _ _ (nm) e55 (((Gr.drew wr).trans hG).rd hrn) rfl
              · intro a1 w1 hG hF
                obtain ⟨_, e54, rfl⟩ := hF.dp 3 54 (by kernel_rfl)
                obtain ⟨_, e56, rfl⟩ := hF.dp 5 56 (by kernel_rfl)
                exact s_is rfl (wants0 rfl) _ rfl (by simp only [execOp, e54, e56]; go_simp; exact HSX.out)
              · intro a1 w1 hG hF
                exact s_old rfl (wants0 rfl) (.tmp 7) (.inr rfl) (.slice (some ⟨gB, 0, none⟩) N c7) (hF.ol 7 (by kernel_rfl)) rfl
              · intro a1 w1 hG hF
                exact s_old rfl (wants0 rfl) (.tmp 12) (.inr rfl) (.int .i64 ((q : Nat) : Int)) (hF.ol 12 (by kernel_rfl)) rfl
              · intro a1 w1 hG hF
                obtain ⟨_, e58, rfl⟩ := hF.dp 7 58 (by kernel_rfl)
                obtain ⟨_, e59, rfl⟩ := hF.dp 8 59 (by kernel_rfl)
                exact s_is rfl (wants0 rfl) _ rfl (run_idx32 (c := c7) Tryd.underlying43 (by kernel_rfl) e58 e59 hlt)
              · intro a1 w1 hG hF
                obtain ⟨_, e60, rfl⟩ := hF.dp 9 60 (by kernel_rfl)
                exact s_is rfl (wants0 rfl) _ rfl (run_loadMid ⟨_, _, Tryd.underlying31⟩ (infoBl Y hYl) e60 (((Gr.drew wr).trans hG).range hcB))
              · intro a1 w1 hG hF
                have e10 : a1.eval (.tmp 10) = .pointer (some ⟨g10, 0, none⟩) := hF.ol 10 (by kernel_rfl)
                exact s_is rfl (wants0 rfl) _ rfl (run_loadArr ⟨_, _, Tryd.underlying31⟩ (infoBl X hXl) e10 (h10r.gr ((Gr.drew wr).trans hG)))
              · intro a1 w1 hG hF
                obtain ⟨_, e61, rfl⟩ := hF.dp 10 61 (by kernel_rfl)
                obtain ⟨_, e62, rfl⟩ := hF.dp 11 62 (by kernel_rfl)
                exact s_is rfl (wants0 rfl) _ rfl (run_eqBy (by kernel_rfl) Tryd.underlying31 Tryd.underlying5 (fun w => by kernel_rfl) hYl hXl e61 e62)
              · intro a1 w1 hG hF
                obtain ⟨_, e57, rfl⟩ := hF.dp 6 57 (by kernel_rfl)
                obtain ⟨_, e63, rfl⟩ := hF.dp 12 63 (by kernel_rfl)
                exact s_is rfl (wants0 rfl) _ rfl (run_neT (b := bq) (c := (Y == X)) Tryd.underlying4 e57 e63)
            · intro vs w1 hG hf
              have z64 : vs 13 = .bool (!(bq == (Y == X))) := hf.2.2.2.2.2.2.2.2.2.2.2.2.2.1
              clear hf
              simp only [putAll, Nat.zero_add, Nat.reduceAdd, z64]
              have hz : (!(bq == (Y == X))) = false := by rw [HYX.out]; simp
              have GG := G6r.trans ((Gr.drew wr).trans hG)
              rw [hz]
              go_simp
              go_wp2_with fail
              exact ⟨⟨q + 1, hlt, by go_num, GG⟩, by simp [intOf]; omega⟩
          · have hqi : ¬ (q : Int) < (N : Int) := by omega
            have hV7 := hV6.gr G6r
            have hn7 := Gr.own G6r hn6
            have hon7 := Gr.own G6r hon6
            have hob7 := Gr.own G6r hob6
            have h107 := h10.gr G6r
            have hBw7 := hBw6.trans (G6r.mono hB6)
            have hB7 : B ≤ wr.heap.size := Nat.le_trans hB6 G6r.size
            have hl6 : ∀ ad, A6 = some ad → ad.block < wr.heap.size := own_lt hon7
            generalize wr = w7 at hV7 hn7 hon7 hob7 h107 hBw7 hB7 hl6 ⊢
            clear hV6 hn6 hon6 hob6 gw6 h10 hBw6 hB6 G6r hG
            go_upto_region 21 with fail
            refine wp_region_cutG (NG B A6 N c6 (Ns.map strV) (strV nm)) (NG.refl _ _ _ _ _ _) (fun _ _ _ => NG.trans) (by kernel_rfl) [IsV (.slice A6 N c6), IsV (.slice A9 k1 c9), IsV (.string ⟨nm.toArray⟩), One1 w7.heap.size 9 [.string ⟨nm.toArray⟩], New1 B N (Ns.map strV ++ [strV nm]), IsV (.slice A7 N c7), IsV (.agg (u8s X).toArray), One1 w7.heap.size 31 (u8s X)] 8 (by decide) (by kernel_rfl) (by kernel_rfl) (by kernel_rfl) ?_ ?_ ?_
            · intro φ hφ v w1 w2 h hg
              simp only [List.mem_cons, List.not_mem_nil, or_false] at hφ
              rcases hφ with rfl | rfl | rfl | rfl | rfl | rfl | rfl | rfl
              all_goals first | exact h | exact One1.ng h hl6 hg | exact New1.ng h hg
            · refine ⟨?_, ?_, ?_, ?_, ?_, ?_, ?_, ?_, trivial⟩
              · intro a1 w1 hG hF
                exact gstep (fun _ h => NG.of_gr h) (s_old rfl (wants0 rfl) (.tmp 6) (.inr rfl) (.slice A6 N c6) (hF.ol 6 (by kernel_rfl)) rfl)
              · intro a1 w1 hG hF
                exact gstep (fun _ h => NG.of_gr h) (s_old rfl (wants0 rfl) (.tmp 9) (.inr rfl) (.slice A9 k1 c9) (hF.ol 9 (by kernel_rfl)) rfl)
              · intro a1 w1 hG hF
                obtain ⟨_, e66, rfl⟩ := hF.dp 1 66 (by kernel_rfl)
                have hr := Rd.of_own (own_tn hn7 ((Tn.of_gr (Gr.drew w7)).trans hG.tn) (fun k C f => blkT_other rfl k C f))
                exact gstep (fun _ h => NG.of_gr h) (s_str rfl (wants0 rfl) 27 9 5 (.tmp 66) rfl Tryd.underlying27 Tryd.underlying5 Tryd.underlying9 _ _ _ nm e66 hr rfl)
              · intro a1 w1 hG hF
                obtain ⟨_, e67, rfl⟩ := hF.dp 2 67 (by kernel_rfl)
                exact gstep (fun _ h => NG.of_gr h) (s_val rfl (wants0 rfl) _ rfl (.slice (some ⟨w1.heap.size, 0, none⟩) 1 1) (w1.alloc (.cells #[.string ⟨nm.toArray⟩] 9)) (run_buildStr e67) ⟨_, rfl, hG.tn.size, Arr.newAt rfl rfl⟩ (Gr.alloc _ _))
              · intro a1 w1 hG hF
                obtain ⟨_, e65, rfl⟩ := hF.dp 0 65 (by kernel_rfl)
                obtain ⟨x68, e68, f68⟩ := hF.dp 3 68 (by kernel_rfl)
                obtain ⟨gq, rfl, _, hq⟩ := f68
                have ho1 := hG.old (Gr.own (Gr.drew w7) hon7)
                have hs1 : B ≤ w1.heap.size := Nat.le_trans hB7 hG.tn.size
                obtain ⟨A', c', w', hr, h2, hT, hold, hnew⟩ := run_append_keep (P := Tryd.prog) (w := w1) B 42 42 9 i0 (.string ⟨#[]⟩) 1 16 Tryd.underlying42 hi0 hz0 hz1 hz2 rfl (by omega) A6 N c6 (Ns.map strV) ho1 ⟨gq, 0, none⟩ 1 1 [strV nm] rfl (fun j u h => by rw [add_row, Nat.zero_add]; exact hq.cell h) (by simp [strV, Value.oneCell']) (by unfold maxLen; omega) (by omega) hs1
                exact g_valW rfl rfl (.slice A' (N + 1) c') w' (by simp only [execOp, resolve, invoke, builtin, List.map_toArray, List.map_cons, List.map_nil, e65, e68, Sem.run_bind, Sem.run_pure, hr, Result.andThen_ok]) ⟨A', c', rfl, h2⟩ ⟨hT, fun _ => hold, fun A2 d h => hnew A2 d h⟩
              · intro a1 w1 hG hF
                exact gstep (fun _ h => NG.of_gr h) (s_old rfl (wants0 rfl) (.tmp 7) (.inr rfl) (.slice A7 N c7) (hF.ol 7 (by kernel_rfl)) rfl)
              · intro a1 w1 hG hF
                have e10 : a1.eval (.tmp 10) = .pointer (some ⟨g10, 0, none⟩) := hF.ol 10 (by kernel_rfl)
                have h101 := h107.tn ((Tn.of_gr (Gr.drew w7)).trans hG.tn) (fun C f => blkT_other rfl _ C f)
                exact gstep (fun _ h => NG.of_gr h) (s_is rfl (wants0 rfl) _ rfl (run_loadArr ⟨_, _, Tryd.underlying31⟩ (infoBl X hXl) e10 h101))
              · intro a1 w1 hG hF
                obtain ⟨_, e71, rfl⟩ := hF.dp 6 71 (by kernel_rfl)
                exact gstep (fun _ h => NG.of_gr h) (s_val rfl (wants0 rfl) _ rfl (.slice (some ⟨w1.heap.size, 0, none⟩) 1 1) (w1.alloc (.cells (u8s X).toArray 31)) (run_buildBl hXl e71) ⟨_, rfl, hG.tn.size, Arr.newAt rfl rfl⟩ (Gr.alloc _ _))
            · intro vs w1 hG hf
              have y69 : (New1 B N (Ns.map strV ++ [strV nm])) (vs 4) w1 := hf.2.2.2.2.1
              have z70 : vs 5 = .slice A7 N c7 := hf.2.2.2.2.2.1
              have y72 : (One1 w7.heap.size 31 (u8s X)) (vs 7) w1 := hf.2.2.2.2.2.2.2.1
              clear hf
              obtain ⟨A8, c8, hy69, hon8⟩ := y69
              obtain ⟨gz, hy72, _, hz72⟩ := y72
              have hT71 : Tn (blkT A6 9) B w7 w1 := (Tn.of_gr (Gr.drew w7)).trans hG.tn
              have hob8 := own_tn hob7 hT71 (fun k C f => blkT_other rfl k C f)
              have hs1 : B ≤ w1.heap.size := Nat.le_trans hB7 hT71.size
              simp only [List.take_succ_cons, List.take_zero, List.drop_succ_cons, List.drop_zero, putAll, Nat.zero_add, Nat.reduceAdd, hy69, z70, hy72]
              refine wpList_appT rfl (.tmp 70) (.tmp 72) 43 rfl B 31 iB zB 32 32 Tryd.underlying43 hiB hzB hBz1 hBz2 hBz3 (by omega) (by kernel_rfl) hob8 ⟨gz, 0, none⟩ 1 1 (u8s X) (by kernel_rfl) (by rw [u8s_length, hXl]) (fun j u h => by rw [add_row, Nat.zero_add]; exact hz72.cell h) (u8s_oneCell _) (by unfold maxLen; omega) (by omega) hs1 ?_
              intro A10 c10 w8 hob9 _ hT9
              have hTB := hT9 blT (fun _ _ _ => by simp [blT])
              clear hT9
              have hTR : Tn rowsT B w7 w8 := (hT71.wide blkT_rows).trans (hTB.wide blT_rows)
              have hV8 := hV7.other hTR (hTR.wide rowsT_nam) (fun _ _ _ _ => rfl) (fun _ _ => by rfl)
              have hn8 := own_tn hn7 hTR (fun _ _ _ => by rfl)
              have hon9 := own_tn hon8 hTB (fun _ _ _ => by rfl)
              have hBw8 := hBw7.trans (hTR.below hB7)
              have hB8 : B ≤ w8.heap.size := Nat.le_trans hB7 hTR.size
              have gw8 := gw3.keep hBw8 hLow
              clear hG hT71 hob8 hon8 hz72 hy69 z70 hy72 hTB hTR hV7 hn7 hon7 hob7 h107 hBw7 hB7 hl6 hs1
              unfold wpList
              go_simp
              try refine .inl ?_
              unfold wpList
              go_simp
              try refine .inl ?_
              unfold wpList
              go_simp
              go_upto_region 22 with fail
              have hk1' : (k : Int) ≤ 14 := by omega
              have hP := seal_tot hV8 namT_own (fun k C f _ => namT2 k C f) 1 1 ((k : Int) + 1) none 0 0 [] A9 k1 c9 nm (by omega) (by omega) hc9 (Rd.nil _ _) (Rd.of_own hn8) hA9 (by rw [hL2]; omega) gw8
              obtain ⟨v3, hv3⟩ : ∃ q, q = (v2.seals 1 1 ((k : Int) + 1) [] nm).2.2 := ⟨_, rfl⟩
              rw [← hv3] at hP
              have hk3 := seals_keep v2 1 1 ((k : Int) + 1) [] nm
              have hid3 : v3.ideal = true := by rw [hv3, seals_ideal]; exact hid2
              rw [← hv3] at hk3
              obtain ⟨hk3n, hk3l, hk3b⟩ := hk3
              clear hv3
              go_wp2_with fail
              refine hP.mono ?_
              rintro e w9 ⟨E, q9, cq9, rfl, _, hV9, hT9⟩
              have hon10 := own_tn hon9 hT9 (fun _ _ _ => by simp [ownV])
              have hob10 := own_tn hob9 hT9 (fun _ _ _ => by simp [ownV])
              have hBw9 := hBw8.trans (hT9.below hB8)
              have hm1 : Ns.map strV ++ [strV nm] = (Ns ++ [nm]).map strV := by simp
              have hm2 : (Ns.map v2.blind).flatMap u8s ++ u8s X = (Ns ++ [nm]).flatMap fun x => u8s (v3.blind x) := by
                rw [HX2.out, List.flatMap_map, List.flatMap_append]
                simp [hk3b]
              rw [hm1] at hon10
              rw [hm2] at hob10
              clear hP hV8 hn8 hon9 hob9 hBw8 hB8 gw8 hT9 hm1 hm2
              go_wp2_with fail
              exact ⟨⟨k + 1, v3, Ns ++ [nm], N + 1, A8, c8, A10, c10, hl1, hl2, by omega, by simp [hNl], by go_num, rfl, rfl, hV9, hid3, ⟨by rw [hk3n]; exact hN2, by rw [hL2] at hk3l; omega⟩, fun x hx => by
                rw [hk3n]
                rcases List.mem_append.1 hx with hx | hx
                · exact hsub2 x hx
                · rw [List.mem_singleton.1 hx]; exact hnm2, hon10, hob10, hBw9⟩, by simp [intOf]; omega⟩
    · have hEnd := HFin.out wr hBw
      clear hV hon hob hBw hBr gwr
      by_cases hl1 : k < n
      · have hl1i : (k : Int) < (n : Int) := by omega
        have hl2i : ¬ (k : Int) < 14 := by omega
        go_wp2_with fail
        go_ret
        exact ⟨rfl, hEnd⟩
      · have hl1i : ¬ (k : Int) < (n : Int) := by omega
        go_wp2_with fail
        go_ret
        exact ⟨rfl, hEnd⟩
end Go.Proofs.YtnmhfomnlnlflaaDoor
