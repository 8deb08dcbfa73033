/- The walk of an act, done to a vault and to its reference. No condition. -/
import Derived.Test.YtnmhfomnlnlflaaDoorDoF
namespace Go.Proofs.YtnmhfomnlnlflaaDoor
open Go.RowKit
set_option maxRecDepth 100000 in
set_option maxHeartbeats 32000000 in
theorem do_any {B : Nat} {w : World} {g b1 b2 b3 r N : Nat} {v : Vt} (hV : VIs allT B w g b1 b2 b3 v) (hR : RIs B w r v) (hgd : Good v N) (hN : N ≤ 900) (zw ze zc zk : Int) (A : Option Addr) (n c : Nat) (l0 : List UInt8) (D : Option Addr) (m d : Nat) (m0 : List UInt8) (zh : Int) (y : UInt8) (hnc : n ≤ c) (hmd : m ≤ d) (hr0 : Rd w A n (u8s l0)) (hb0 : Rd w D m (u8s m0)) (gw : Glob w) (hB : B ≤ w.heap.size) :
    Calls Tryd.prog 16 #[.agg (actC zw ze zc zk A n c D m d zh y).toArray, .pointer (some ⟨g, 0, none⟩), .pointer (some ⟨r, 0, none⟩)] w fun e w' => e = .returned (.bool true) ∧ DoQ B w' g b1 b2 b3 r v.ideal N ∧ Below B w w' := by
  obtain ⟨i0, hi0, hz0, hz1, hz2⟩ := info_parts Tryd.info5
  obtain ⟨k1, hk1⟩ : ∃ k, k = min n 40 := ⟨_, rfl⟩
  obtain ⟨k2, hk2⟩ : ∃ k, k = min m 100 := ⟨_, rfl⟩
  have h140 : k1 ≤ 40 := by omega
  have h2100 : k2 ≤ 100 := by omega
  obtain ⟨WI, hWI⟩ : ∃ l, l = l0.take k1 := ⟨_, rfl⟩
  obtain ⟨BB, hBB⟩ : ∃ l, l = m0.take k2 := ⟨_, rfl⟩
  have hl0 : l0.length = n := by simpa using hr0.1
  have hm0 : m0.length = m := by simpa using hb0.1
  have hWIl : WI.length = k1 := by rw [hWI, List.length_take]; omega
  have hBBl : BB.length = k2 := by rw [hBB, List.length_take]; omega
  have HC1 : Hid (∀ w, Rd w A n (u8s l0) → Calls Tryd.prog 11 #[.slice A n c, .int .i64 40] w fun e w' => ∃ v, e = .returned v ∧ w'.ownsRow w.heap.size 5 1 v k1 (u8s WI) ∧ Gr w w') := by
    intro w h
    rw [hWI]
    exact cut_any A n c l0 40 k1 hk1 (by omega) w hnc h
  have HC2 : Hid (∀ w, Rd w D m (u8s m0) → Calls Tryd.prog 11 #[.slice D m d, .int .i64 100] w fun e w' => ∃ v, e = .returned v ∧ w'.ownsRow w.heap.size 5 1 v k2 (u8s BB) ∧ Gr w w') := by
    intro w h
    rw [hBB]
    exact cut_any D m d m0 100 k2 hk2 (by omega) w hmd h
  obtain ⟨qk, hqk, hq⟩ := wrap_remN zw 4 (by omega) (by omega)
  replace hq : wrap64 ((IntKind.u64.wrap zw).tmod 4) = (qk : Int) := hq
  have HQK := Lib.hid hq
  have h3 : Arr (w.alloc (.cells (actC zw ze zc zk A n c D m d zh y).toArray 29)) w.heap.size 29 (actC zw ze zc zk A n c D m d zh y) := Arr.newAt rfl rfl
  have G0 : Gr w (w.alloc (.cells (actC zw ze zc zk A n c D m d zh y).toArray 29)) := Gr.alloc _ _
  clear hk1 hk2 hWI hBB hl0 hm0 hq
  go_enter Tryd.func16, Tryd.ntmps16
  go_upto_region 1 with fail
  change Code.wp _ _ _ _ (w.alloc (.cells (actC zw ze zc zk A n c D m d zh y).toArray 29))
  generalize w.alloc (.cells (actC zw ze zc zk A n c D m d zh y).toArray 29) = wA at h3 G0 ⊢
  obtain ⟨g3, hg3⟩ : ∃ x, x = w.heap.size := ⟨_, rfl⟩
  rw [← hg3] at h3
  simp only [← hg3]
  clear hg3
  have hBA : B ≤ wA.heap.size := Nat.le_trans hB G0.size
  have hVA := hV.gr G0
  have hRA := hR.gr G0
  have hrA := G0.rd hr0
  have hbA := G0.rd hb0
  have gwA := gw.gr G0
  have c4 := h3.cell (i := 4) (v := .slice A n c) rfl
  have c5 := h3.cell (i := 5) (v := .slice D m d) rfl
  have hB0A : Below B w wA := G0.mono hB
  refine wp_region_ssaL (by kernel_rfl) [IsV (.pointer (some ⟨g3, 4, none⟩)), IsV (.slice A n c), CopyV wA.heap.size 5 WI, IsV (.pointer (some ⟨g3, 5, none⟩)), IsV (.slice D m d), CopyV wA.heap.size 5 BB, CopyV wA.heap.size 5 WI, CopyV wA.heap.size 5 BB] (by kernel_rfl) ?_ ?_ ?_
  · intro φ hφ v w1 w2 h hg
    simp only [List.mem_cons, List.not_mem_nil, or_false] at hφ
    rcases hφ with rfl | rfl | rfl | rfl | rfl | rfl | rfl | rfl
    all_goals first | exact h | exact RdV.gr h hg | exact CopyV.gr h hg
  · refine ⟨?_, ?_, ?_, ?_, ?_, ?_, ?_, ?_, trivial⟩
    · intro a1 w1 hG hF
      have e3 : a1.eval (.tmp 3) = .pointer (some ⟨g3, 0, none⟩) := hF.ol 3 (by kernel_rfl)
      exact s_is rfl (wants0 rfl) _ rfl (run_field (o := 4) (k := 0) Tryd.underlying29 rfl rfl (by kernel_rfl) e3)
    · intro a1 w1 hG hF
      obtain ⟨_, e32, rfl⟩ := hF.dp 0 32 (by kernel_rfl)
      exact s_is rfl (wants0 rfl) _ rfl (run_load1B (.inr (.inr (.inr (.inl ⟨_, Tryd.underlying27⟩)))) e32 (Gr.cell ((Gr.drew wA).trans hG) c4))
    · intro a1 w1 hG hF
      obtain ⟨_, e33, rfl⟩ := hF.dp 1 33 (by kernel_rfl)
      exact s_call rfl (wants0 rfl) _ rfl _ _ (by simp only [execOp, resolve, invoke, List.map_toArray, List.map_cons, List.map_nil, e33]; go_simp) ((HC1.out w1 (((Gr.drew wA).trans hG).rd hrA)).mono fun e w2 ⟨v, he, ho, hb⟩ => ⟨_, he, (by unfold CopyV; rw [hWIl]; exact own_lower ho ((Gr.drew wA).trans hG).size), hb⟩)
    · intro a1 w1 hG hF
      have e3 : a1.eval (.tmp 3) = .pointer (some ⟨g3, 0, none⟩) := hF.ol 3 (by kernel_rfl)
      exact s_is rfl (wants0 rfl) _ rfl (run_field (o := 5) (k := 0) Tryd.underlying29 rfl rfl (by kernel_rfl) e3)
    · intro a1 w1 hG hF
      obtain ⟨_, e35, rfl⟩ := hF.dp 3 35 (by kernel_rfl)
      exact s_is rfl (wants0 rfl) _ rfl (run_load1B (.inr (.inr (.inr (.inl ⟨_, Tryd.underlying27⟩)))) e35 (Gr.cell ((Gr.drew wA).trans hG) c5))
    · intro a1 w1 hG hF
      obtain ⟨_, e36, rfl⟩ := hF.dp 4 36 (by kernel_rfl)
      exact s_call rfl (wants0 rfl) _ rfl _ _ (by simp only [execOp, resolve, invoke, List.map_toArray, List.map_cons, List.map_nil, e36]; go_simp) ((HC2.out w1 (((Gr.drew wA).trans hG).rd hbA)).mono fun e w2 ⟨v, he, ho, hb⟩ => ⟨_, he, (by unfold CopyV; rw [hBBl]; exact own_lower ho ((Gr.drew wA).trans hG).size), hb⟩)
    · intro a1 w1 hG hF
      exact s_same rfl (wants0 rfl) (.tmp 34) (.inl rfl) (hF.dp 2 34 (by kernel_rfl))
    · intro a1 w1 hG hF
      exact s_same rfl (wants0 rfl) (.tmp 37) (.inl rfl) (hF.dp 5 37 (by kernel_rfl))
  · intro vs w1 hG hf
    have y7 : (CopyV wA.heap.size 5 WI) (vs 6) w1 := hf.2.2.2.2.2.2.1
    have y8 : (CopyV wA.heap.size 5 BB) (vs 7) w1 := hf.2.2.2.2.2.2.2.1
    clear hf
    simp only [putAll, Nat.zero_add, Nat.reduceAdd]
    have hG4 := (Gr.drew wA).trans hG
    obtain ⟨A6, c6, z6', hc6, hA6, hr6⟩ := own_form3 y7
    obtain ⟨A7, c7, z7', hc7, hA7, hr7⟩ := own_form3 y8
    rw [z6', z7']
    rw [z6'] at y7
    rw [z7'] at y8
    unfold CopyV at y7 y8
    rw [hWIl] at y7 hc6 hA6 hr6 ⊢
    rw [hBBl] at y8 hc7 hA7 hr7 ⊢
    have hsA := hG4.size
    have h34 := h3.gr hG4
    generalize w1 = w4 at hG4 h34 hr6 hr7 y7 y8 hsA ⊢
    clear hG h3 hrA hbA c4 c5 z6' z7'
    go_simp
    go_upto_region 2 with fail
    refine wp_region_ssaL (by kernel_rfl) [IsV (.slice A6 k1 c6), IsV (.string ⟨(WI).toArray⟩), IsV (.slice A7 k2 c7), IsV (.string ⟨(BB).toArray⟩), IsV (.string ⟨(WI).toArray⟩), IsV (.string ⟨(BB).toArray⟩)] (by kernel_rfl) ?_ ?_ ?_
    · intro φ hφ v w1 w2 h hg
      simp only [List.mem_cons, List.not_mem_nil, or_false] at hφ
      rcases hφ with rfl | rfl | rfl | rfl | rfl | rfl
      all_goals first | exact h | exact RdV.gr h hg
    · refine ⟨?_, ?_, ?_, ?_, ?_, ?_, trivial⟩
      · intro a1 w1 hG hF
        exact s_old rfl (wants0 rfl) (.tmp 7) (.inr rfl) (.slice A6 k1 c6) (hF.ol 7 (by kernel_rfl)) rfl
      · intro a1 w1 hG hF
        obtain ⟨_, e38, rfl⟩ := hF.dp 0 38 (by kernel_rfl)
        exact s_str rfl (wants0 rfl) 27 9 5 (.tmp 38) rfl Tryd.underlying27 Tryd.underlying5 Tryd.underlying9 _ _ _ (WI) e38 (((Gr.drew w4).trans hG).rd hr6) rfl
      · intro a1 w1 hG hF
        exact s_old rfl (wants0 rfl) (.tmp 8) (.inr rfl) (.slice A7 k2 c7) (hF.ol 8 (by kernel_rfl)) rfl
      · intro a1 w1 hG hF
        obtain ⟨_, e40, rfl⟩ := hF.dp 2 40 (by kernel_rfl)
        exact s_str rfl (wants0 rfl) 27 9 5 (.tmp 40) rfl Tryd.underlying27 Tryd.underlying5 Tryd.underlying9 _ _ _ (BB) e40 (((Gr.drew w4).trans hG).rd hr7) rfl
      · intro a1 w1 hG hF
        exact s_same rfl (wants0 rfl) (.tmp 39) (.inl rfl) (hF.dp 1 39 (by kernel_rfl))
      · intro a1 w1 hG hF
        exact s_same rfl (wants0 rfl) (.tmp 41) (.inl rfl) (hF.dp 3 41 (by kernel_rfl))
    · intro vs w1 hG hf
      have z9 : vs 4 = .string ⟨(WI).toArray⟩ := hf.2.2.2.2.1
      have z10 : vs 5 = .string ⟨(BB).toArray⟩ := hf.2.2.2.2.2.1
      clear hf
      simp only [putAll, Nat.zero_add, Nat.reduceAdd, z9, z10]
      have hG5 := hG4.trans ((Gr.drew w4).trans hG)
      have hG45 := (Gr.drew w4).trans hG
      have h35 := h34.gr hG45
      have y75 := Gr.own hG45 y7
      have y85 := Gr.own hG45 y8
      have hr65 := hG45.rd hr6
      have hr75 := hG45.rd hr7
      have gw5 := gwA.gr hG5
      have hR5 := hRA.gr hG5
      generalize w1 = w5 at hG5 h35 y75 y85 hr65 hr75 gw5 hR5 ⊢
      have hB5 : B ≤ w5.heap.size := Nat.le_trans hBA hG5.size
      have hB05 : Below B w w5 := hB0A.trans (hG5.mono hBA)
      obtain ⟨sW, hsW⟩ : ∃ s : ByteArray, s = ⟨WI.toArray⟩ := ⟨_, rfl⟩
      obtain ⟨sB, hsB⟩ : ∃ s : ByteArray, s = ⟨BB.toArray⟩ := ⟨_, rfl⟩
      rw [← hsW, ← hsB]
      have HSW := Lib.hid hsW
      have HSB := Lib.hid hsB
      have hl6 : ∀ ad, A6 = some ad → wA.heap.size ≤ ad.block := by
        obtain ⟨A', c', e, _, h⟩ := own_form y75
        injection e with e1 _ e2
        subst e1 e2
        exact fun ad e => (h ad e).1
      have hl7 : ∀ ad, A7 = some ad → wA.heap.size ≤ ad.block := by
        obtain ⟨A', c', e, _, h⟩ := own_form y85
        injection e with e1 _ e2
        subst e1 e2
        exact fun ad e => (h ad e).1
      clear hG hG45 hG4 hsA h34 hr6 hr7 y7 y8 hsW hsB gwA hRA hB0A
      have c0 := h35.cell (i := 0) (v := .int .i64 zw) rfl
      have c1 := h35.cell (i := 1) (v := .int .i64 ze) rfl
      have c2 := h35.cell (i := 2) (v := .int .i64 zc) rfl
      have c3 := h35.cell (i := 3) (v := .int .i64 zk) rfl
      go_simp
      have hq := HQK.out
      clear HQK
      have h4 : qk = 0 ∨ qk = 1 ∨ qk = 2 ∨ qk = 3 := by omega
      rcases h4 with rfl | rfl | rfl | rfl
      · by_cases h0 : 1 ≤ k2 ∧ k2 ≤ 64
        · obtain ⟨h01, h02⟩ := h0
          have HQ : Hid (wrap64 ((IntKind.u64.wrap zw).tmod 4) = 0) := hq
          clear hq
          have h1 : 1 ≤ BB.length := by omega
          have h64 : BB.length ≤ 64 := by omega
          obtain ⟨X, hX⟩ : ∃ X, X = v.blind BB := ⟨_, rfl⟩
          have hXl : X.length = 32 := by rw [hX, Vt.blind]; split <;> simp
          have HX := Lib.hid hX
          have hnb := hgd.names
          clear hX
          go_upto_region 4 with fail
          simp only [HQ.out]
          have hV5 := hVA.gr hG5
          have hP := vblind_any hV5 allT_own A7 k2 c7 BB (by omega) (by omega) hc7 hr75 (by omega) gw5
          rw [← HX.out] at hP
          clear hVA hV5 hG5
          go_wp2_with fail
          refine hP.mono ?_
          rintro e w6 ⟨rfl, hV6, hT6⟩
          have hR6 := hR5.own hT6
          have hB6 : B ≤ w6.heap.size := Nat.le_trans hB5 hT6.size
          have hB06 := hB05.trans (hT6.below hB5)
          clear hP hR5 hB5 hT6 hB05 h35 y75 y85 hr65 hr75 gw5
          go_wp2_with (refine wpList_new rfl 31 (.tmp 11) (.tmp 53) rfl _ (u8s X) rfl rfl rfl (by simp only [u8s_length, hXl]; rfl) (infoBl X hXl) (u8s_oneCell _) ?_; intro w7 h11 hG7)
          have hV7 := hV6.gr hG7
          have hR7 := hR6.gr hG7
          have hB7 : B ≤ w7.heap.size := Nat.le_trans hB6 hG7.size
          have hB07 := hB06.trans (hG7.mono hB6)
          generalize w6.heap.size = g11 at h11 ⊢
          obtain ⟨sX, hsX⟩ : ∃ s : ByteArray, s = ⟨X.toArray⟩ := ⟨_, rfl⟩
          have HSX := Lib.hid hsX
          have hQ := rblind_tot hR7 BB h1 h64 (by omega) hB7
          rw [← HSB.out, ← HX.out] at hQ
          simp only [← HSX.out] at hQ
          clear hV6 hR6 hB6 hB06 hG7 hsX
          go_wp2_with fail
          refine hQ.mono ?_
          rintro e w8 ⟨rfl, hR8, hT8⟩
          have hV8 := hV7.ref hT8 allT_ref
          have h118 := h11.tn hT8 (fun _ _ => by rfl)
          have hB08 := hB07.trans (hT8.below hB7)
          have hr11 := h118.rdAll hXl
          have hcv : (convert 27 9 (.slice (some ⟨g11, 0, none⟩) 32 32)).run Tryd.prog w8 = .ok (.string sX) w8 := by
            rw [HSX.out]
            exact run_str (c := 32) (P := Tryd.prog) w8 Tryd.underlying27 Tryd.underlying5 Tryd.underlying9 hr11
          clear hQ hV7 hR7 hT8 h11 hB07 hB7
          go_wp2_with fail
          go_ret
          exact ⟨rfl, ⟨_, hV8, hR8, hgd.named BB, named_ideal v BB⟩, hB08⟩
        · have h01 : k2 < 1 ∨ 64 < k2 := by omega
          clear h0
          have HQ : Hid (wrap64 ((IntKind.u64.wrap zw).tmod 4) = 0) := hq
          clear hq
          have h164 : BB.length < 1 ∨ 64 < BB.length := by omega
          obtain ⟨Z, hZ⟩ : ∃ Z : List UInt8, Z = List.replicate 32 0 := ⟨_, rfl⟩
          have hZl : Z.length = 32 := by rw [hZ]; rfl
          have HZ := Lib.hid hZ
          have HE : Hid (∀ w, (Op.equalIn 10000 31 (.agg (u8s Z).toArray) (.agg #[.int .u8 0, .int .u8 0, .int .u8 0, .int .u8 0, .int .u8 0, .int .u8 0, .int .u8 0, .int .u8 0, .int .u8 0, .int .u8 0, .int .u8 0, .int .u8 0, .int .u8 0, .int .u8 0, .int .u8 0, .int .u8 0, .int .u8 0, .int .u8 0, .int .u8 0, .int .u8 0, .int .u8 0, .int .u8 0, .int .u8 0, .int .u8 0, .int .u8 0, .int .u8 0, .int .u8 0, .int .u8 0, .int .u8 0, .int .u8 0, .int .u8 0, .int .u8 0])).run Tryd.prog w = .ok true w) := by
            intro w
            rw [hZ]
            exact eqBlD (List.replicate 32 0) rfl w
          clear hZ
          go_upto_region 4 with fail
          simp only [HQ.out]
          have hV5 := hVA.gr hG5
          have hP := vblind_no g A7 k2 c7 (by omega) w5
          rw [← HZ.out] at hP
          clear hVA hG5
          go_wp2_with fail
          refine hP.mono ?_
          rintro e w6 ⟨rfl, hG6⟩
          have hR6 := hR5.gr hG6
          have hV6 := hV5.gr hG6
          have hB6 : B ≤ w6.heap.size := Nat.le_trans hB5 hG6.size
          have hB06 := hB05.trans (hG6.mono hB5)
          clear hP hR5 hV5 hB5 hG6 hB05 h35 y75 y85 hr65 hr75 gw5
          go_wp2_with (refine wpList_new rfl 31 (.tmp 11) (.tmp 53) rfl _ (u8s Z) rfl rfl rfl (by simp only [u8s_length, hZl]; rfl) (infoBl Z hZl) (u8s_oneCell _) ?_; intro w7 h11 hG7)
          have hV7 := hV6.gr hG7
          have hR7 := hR6.gr hG7
          have hB07 := hB06.trans (hG7.mono hB6)
          have hB7 : B ≤ w7.heap.size := Nat.le_trans hB6 hG7.size
          generalize w6.heap.size = g11 at h11 ⊢
          have hQ := docBlind_no r BB h164 w7
          rw [← HSB.out] at hQ
          clear hV6 hR6 hB6 hB06 hG7
          go_wp2_with fail
          refine hQ.mono ?_
          rintro e w8 ⟨rfl, hG8⟩
          have hV8 := hV7.gr hG8
          have hR8 := hR7.gr hG8
          have h118 := h11.gr hG8
          have hB08 := hB07.trans (hG8.mono hB7)
          have heq := HE.out w8
          clear hQ hV7 hR7 hG8 h11 hB07 hB7
          go_wp2_with first
            | (refine wpList_loadW rfl 31 (.tmp 11) rfl rfl h118 ⟨_, _, Tryd.underlying31⟩ (infoBl Z hZl) ?_)
          go_ret
          exact ⟨rfl, ⟨v, hV8, hR8, hgd.more (Nat.le_succ N), rfl⟩, hB08⟩
      · have HQ : Hid (wrap64 ((IntKind.u64.wrap zw).tmod 4) = 1) := hq
        clear hq
        obtain ⟨X, z, v2, hsl⟩ : ∃ X z v2, v.seals ze zc zk WI BB = (X, z, v2) := ⟨_, _, _, rfl⟩
        have hgd2 : Good v2 (N + 1) := by
          have h := hgd.seals_ ze zc zk (wi := WI) (b := BB) (by omega) (by omega)
          rwa [hsl] at h
        have hid2 : v2.ideal = v.ideal := by
          have h := seals_ideal v ze zc zk WI BB
          rwa [hsl] at h
        have hLb := hgd.seals
        have HSL := Lib.hid hsl
        clear hsl
        go_upto_region 4 with fail
        simp only [HQ.out]
        obtain ⟨τ, hτ⟩ : ∃ τ : Nat → Obj → Bool, τ = fun k o => allT k o || (rowT A6 k o || rowT A7 k o) := ⟨_, rfl⟩
        have tA : ∀ k o, allT k o = true → τ k o = true := by intro k o h; rw [hτ]; simp [h]
        have t6 : ∀ k o, rowT A6 k o = true → τ k o = true := by intro k o h; rw [hτ]; simp [h]
        have t7 : ∀ k o, rowT A7 k o = true → τ k o = true := by intro k o h; rw [hτ]; simp [h]
        have tN : ∀ k o, k < wA.heap.size → τ k o = true → allT k o = true := by
          intro k o hk h
          rw [hτ] at h
          simp only [Bool.or_eq_true] at h
          rcases h with h | h | h
          · exact h
          · obtain ⟨ad, e, rfl⟩ := rowT_at h
            have := hl6 ad e
            omega
          · obtain ⟨ad, e, rfl⟩ := rowT_at h
            have := hl7 ad e
            omega
        have hlt6 : ∀ ad, A6 = some ad → ad.block < w5.heap.size := fun ad h => own_lt y75 ad h
        have hlt7 : ∀ ad, A7 = some ad → ad.block < w5.heap.size := fun ad h => own_lt y85 ad h
        have hτ2 : ∀ k C f, w5.heap.size ≤ k → τ k (.cells C 5 f) = false := by
          intro k C f hk
          rcases hb : τ k (.cells C 5 f)
          · rfl
          · rw [hτ] at hb
            simp only [Bool.or_eq_true] at hb
            rcases hb with h | h | h
            · cases h
            · obtain ⟨ad, e, rfl⟩ := rowT_at h
              have := hlt6 ad e
              omega
            · obtain ⟨ad, e, rfl⟩ := rowT_at h
              have := hlt7 ad e
              omega
        clear hτ
        have hV5 := (hVA.narrow tN).gr hG5
        have hP := seal_tot hV5 (fun k o h => tA k o (allT_own k o h)) hτ2 ze zc zk A6 k1 c6 WI A7 k2 c7 BB (by omega) (by omega) hc7 hr65 hr75 hA7 (by omega) gw5
        rw [HSL.out] at hP
        clear hVA hV5 hG5 hτ2 hlt6 hlt7 tN
        go_wp2_with fail
        refine hP.mono ?_
        rintro e w6 ⟨E, q, cq, rfl, hE, hV6, hT6⟩
        have h36 := h35.tnV hT6
        have y76 := own_tn y75 hT6 (fun _ _ _ => by simp [ownV])
        have y86 := own_tn y85 hT6 (fun _ _ _ => by simp [ownV])
        have hR6 := hR5.own hT6
        have hB6 : B ≤ w6.heap.size := Nat.le_trans hB5 hT6.size
        have hB06 := hB05.trans (hT6.below hB5)
        have c1 := h36.cell (i := 1) (v := .int .i64 ze) rfl
        have c2 := h36.cell (i := 2) (v := .int .i64 zc) rfl
        have c3 := h36.cell (i := 3) (v := .int .i64 zk) rfl
        obtain ⟨sX, hsX⟩ : ∃ s : ByteArray, s = ⟨X.toArray⟩ := ⟨_, rfl⟩
        have HSX := Lib.hid hsX
        have hQ := rseal_tot hR6 ze zc zk WI BB (by omega) (by omega) (by omega) hB6
        rw [← HSW.out, ← HSB.out, HSL.out] at hQ
        simp only [← HSX.out] at hQ
        clear hP h35 y75 y85 hR5 hB05 hB5 hT6 hsX hr65 hr75 gw5
        go_wp2_with fail
        refine hQ.mono ?_
        rintro e w7 ⟨rfl, hR7, hT7⟩
        have hV7 := hV6.ref hT7 (fun k o h => tA k o (allT_ref k o h))
        have hE7 := hE.tn (hT7.wide (fun k o h => tA k o (allT_ref k o h)))
        have y77 := own_tn y76 hT7 (fun _ _ _ => rfl)
        have y87 := own_tn y86 hT7 (fun _ _ _ => rfl)
        have hB7 : B ≤ w7.heap.size := Nat.le_trans hB6 hT7.size
        have hB07 := hB06.trans (hT7.below hB6)
        have hcv : (convert 27 9 (.slice A6 k1 c6)).run Tryd.prog w7 = .ok (.string sW) w7 := by
          rw [HSW.out]
          exact run_str (c := c6) (P := Tryd.prog) w7 Tryd.underlying27 Tryd.underlying5 Tryd.underlying9 (Rd.of_own y77)
        have hcv2 : (convert 27 9 (.slice A7 k2 c7)).run Tryd.prog w7 = .ok (.string sB) w7 := by
          rw [HSB.out]
          exact run_str (c := c7) (P := Tryd.prog) w7 Tryd.underlying27 Tryd.underlying5 Tryd.underlying9 (Rd.of_own y87)
        clear hQ h36 y76 y86 hR6 hB06 hB6 hT7 hE hV6 c0 c1 c2 c3
        go_upto_region 16 with fail
        go_simp
        go_loopw [19] (fun i wr => XorR A6 k1 c6 A7 k2 c7 wA.heap.size w7 i wr) (fun i _ => k1 - (intOf i).toNat)
        case atStart => exact ⟨0, _, _, Nat.zero_le _, rfl, y77, y87, Tn.refl _⟩
        case round =>
          obtain ⟨j, l, l', hj, rfl, ho, hoY, hT⟩ := hrel
          by_cases hlt : j < k1
          · obtain ⟨g6, bb, hAe, _, hcell, hfr, hset⟩ := own_turn ho hlt
            obtain ⟨ho8, hT8, hoo⟩ := hset (bb ^^^ 1)
            obtain ⟨lz, hoo8⟩ := hoo _ _ _ _ _ hoY
            have hxo := Lib.hid (xor_one bb)
            have hlti : (j : Int) < (k1 : Int) := by omega
            have hj1 : (j : Int) ≤ 100 := by omega
            clear hset hoo
            go_wp2_with fail
            rw [hxo.out]
            exact ⟨⟨j + 1, _, _, hlt, by go_num, ho8, hoo8, hT.trans hT8⟩, by simp [intOf]; omega⟩
          · have hlti : ¬ (j : Int) < (k1 : Int) := by omega
            go_wp2_with fail
            have hV8 := hV7.other (hT.down hBA) ((hT.wide t6).down hBA) (fun _ _ _ _ => by simp [rowT]) (fun _ _ => by simp [rowT])
            have hR8 := hR7.tn (hT.down hBA) (fun _ _ _ => by simp [rowT]) (fun _ _ _ => by simp [rowT]) (fun _ _ _ => by simp [rowT])
            have hE8 := hE7.tn ((hT.wide t6).down hBA)
            have hB08 := hB07.trans ((hT.down hBA).below hB7)
            have hB8 : B ≤ wr.heap.size := Nat.le_trans hB7 hT.size
            clear hV7 hR7 hE7 hB07 hB7 y77 y87 hT hj hlt hlti hcv hcv2
            generalize wr = w9 at hV8 hR8 hE8 hB08 hB8 ho hoY ⊢
            have hV7 := hV8
            have hR7 := hR8
            have hE7 := hE8
            have hB07 := hB08
            have hB7 := hB8
            have y77 := ho
            have y87 := hoY
            clear hV8 hR8 hE8 hB08 hB8 ho hoY
            go_simp
            go_loopw [20] (fun i wr => XorR A7 k2 c7 A6 k1 c6 wA.heap.size w9 i wr) (fun i _ => k2 - (intOf i).toNat)
            case atStart => exact ⟨0, _, _, Nat.zero_le _, rfl, y87, y77, Tn.refl _⟩
            case round =>
              obtain ⟨j, l, l', hj, rfl, ho, hoY, hT⟩ := hrel
              by_cases hlt : j < k2
              · obtain ⟨g6, bb, hAe, _, hcell, hfr, hset⟩ := own_turn ho hlt
                obtain ⟨ho8, hT8, hoo⟩ := hset (bb ^^^ 1)
                obtain ⟨lz, hoo8⟩ := hoo _ _ _ _ _ hoY
                have hxo := Lib.hid (xor_one bb)
                have hlti : (j : Int) < (k2 : Int) := by omega
                have hj1 : (j : Int) ≤ 100 := by omega
                clear hset hoo
                go_wp2_with fail
                rw [hxo.out]
                exact ⟨⟨j + 1, _, _, hlt, by go_num, ho8, hoo8, hT.trans hT8⟩, by simp [intOf]; omega⟩
              · have hlti : ¬ (j : Int) < (k2 : Int) := by omega
                go_wp2_with fail
                have hV9 := hV7.other (hT.down hBA) ((hT.wide t7).down hBA) (fun _ _ _ _ => by simp [rowT]) (fun _ _ => by simp [rowT])
                have hR9 := hR7.tn (hT.down hBA) (fun _ _ _ => by simp [rowT]) (fun _ _ _ => by simp [rowT]) (fun _ _ _ => by simp [rowT])
                have hE9 := hE7.tn ((hT.wide t7).down hBA)
                have hB09 := hB07.trans ((hT.down hBA).below hB7)
                have hcv : (convert 27 9 (.slice E q cq)).run Tryd.prog wr = .ok (.string sX) wr := by
                  rw [HSX.out]
                  exact run_str (P := Tryd.prog) (c := cq) wr Tryd.underlying27 Tryd.underlying5 Tryd.underlying9 hE9.rd
                clear hV7 hR7 hE7 hB07 hT
                go_wp2_with fail
                rw [hcv]
                go_wp2_with fail
                go_ret
                exact ⟨rfl, ⟨v2, hV9.narrow (fun k o _ h => tA k o h), hR9, hgd2, hid2⟩, hB09⟩
      · by_cases h01 : v.L.length = 0
        · have HQ : Hid (wrap64 ((IntKind.u64.wrap zw).tmod 4) = 2) := hq
          clear hq
          go_upto_region 4 with fail
          simp only [HQ.out]
          have hV5 := hVA.gr hG5
          obtain ⟨AN, nN, DN, cD, q1, _, _⟩ := hR5.mem
          rw [h01] at q1
          have qc3 := q1.cell (i := 3) (v := .slice DN 0 cD) rfl
          clear q1
          go_wp2_with fail
          go_ret
          exact ⟨rfl, ⟨v, hV5, hR5, hgd.more (Nat.le_succ N), rfl⟩, hB05⟩
        · have h02 : 0 < v.L.length := by omega
          clear h01
          have HQ : Hid (wrap64 ((IntKind.u64.wrap zw).tmod 4) = 2) := hq
          clear hq
          go_upto_region 4 with fail
          simp only [HQ.out]
          have hV5 := hVA.gr hG5
          obtain ⟨AN, nN, DN, cD, q1, q2, q3⟩ := hR5.mem
          obtain ⟨LN, hLN⟩ : ∃ n, n = v.L.length := ⟨_, rfl⟩
          rw [← hLN] at q1 q3
          have hLb := hgd.seals
          have hL0 : ¬ LN = 0 := by omega
          have hL1 : LN ≤ 900 := by omega
          obtain ⟨i, hi, eqi⟩ := wrap_remN zh LN (by omega) (by omega)
          have HIX : Hid (wrap64 ((IntKind.u64.wrap zh).tmod (LN : Int)) = (i : Int)) := eqi
          obtain ⟨x, hx⟩ : ∃ x, v.L[i]? = some x := ⟨v.L[i]'(by omega), List.getElem?_eq_getElem (by omega)⟩
          obtain ⟨gN, rfl, hcx⟩ := own_at6 q3 hi
          obtain ⟨sw, hsw⟩ : ∃ s : ByteArray, s = ⟨x.wi.toArray⟩ := ⟨_, rfl⟩
          obtain ⟨sb, hsb⟩ : ∃ s : ByteArray, s = ⟨x.b.toArray⟩ := ⟨_, rfl⟩
          obtain ⟨so, hso⟩ : ∃ s : ByteArray, s = ⟨x.out.toArray⟩ := ⟨_, rfl⟩
          have qx0 : w5.cell? ⟨gN, i * 6, none⟩ = some (.int .i64 (x.epoch : Int)) := by rw [Nat.mul_comm]; exact hcx 0 _ (by rw [flat6 _ i x hx 0 (by omega)]; rfl)
          have qx1 : w5.cell? ⟨gN, i * 6 + 1, none⟩ = some (.int .i64 (x.client : Int)) := by rw [Nat.mul_comm]; exact hcx 1 _ (by rw [flat6 _ i x hx 1 (by omega)]; rfl)
          have qx2 : w5.cell? ⟨gN, i * 6 + 2, none⟩ = some (.int .i64 (x.counter : Int)) := by rw [Nat.mul_comm]; exact hcx 2 _ (by rw [flat6 _ i x hx 2 (by omega)]; rfl)
          have qx3 : w5.cell? ⟨gN, i * 6 + 3, none⟩ = some (.string sw) := by rw [Nat.mul_comm, hsw]; exact hcx 3 _ (by rw [flat6 _ i x hx 3 (by omega)]; rfl)
          have qx4 : w5.cell? ⟨gN, i * 6 + 4, none⟩ = some (.string sb) := by rw [Nat.mul_comm, hsb]; exact hcx 4 _ (by rw [flat6 _ i x hx 4 (by omega)]; rfl)
          have qx5 : w5.cell? ⟨gN, i * 6 + 5, none⟩ = some (.string so) := by rw [Nat.mul_comm, hso]; exact hcx 5 _ (by rw [flat6 _ i x hx 5 (by omega)]; rfl)
          have qc3 := q1.cell (i := 3) (v := .slice (some ⟨gN, 0, none⟩) LN cD) rfl
          have c6z := h35.cell (i := 6) (v := .int .i64 zh) rfl
          obtain ⟨hxb, hxw, hxo, hxr⟩ := hgd.each x (sealed_mem hx)
          obtain ⟨lo, hlo⟩ : ∃ n, n = x.out.length := ⟨_, rfl⟩
          obtain ⟨lw, hlw⟩ : ∃ n, n = x.wi.length := ⟨_, rfl⟩
          have hlo1 : 16 ≤ lo := by omega
          have hlo2 : lo ≤ 116 := by omega
          have hlw2 : lw ≤ 40 := by omega
          have HSw := Lib.hid hsw
          have HSo := Lib.hid hso
          have HLo := Lib.hid hlo
          have HLw := Lib.hid hlw
          have HXr := Lib.hid hxr
          have zL0 : ¬ (LN : Int) = 0 := by omega
          clear eqi hLN q1 q2 q3 hcx hVA hG5 hsw hsb hso hx hxb hxw hxo hxr hlo hlw y75 y85 hr65 hr75
          go_upto_region 27 with fail
          refine wp_region_cut (by kernel_rfl) [IsV (.pointer (some ⟨r, 0, none⟩)), IsV (.pointer (some ⟨r, 0, none⟩)), IsV (.pointer (some ⟨r, 3, none⟩)), IsV (.slice (some ⟨gN, 0, none⟩) LN cD), IsV (.pointer (some ⟨g3, 6, none⟩)), IsV (.int .i64 (zh)), IsV (.int .u64 (IntKind.u64.wrap zh)), IsV (.pointer (some ⟨r, 0, none⟩)), IsV (.pointer (some ⟨r, 0, none⟩)), IsV (.pointer (some ⟨r, 3, none⟩)), IsV (.slice (some ⟨gN, 0, none⟩) LN cD), IsV (.int .i64 ((LN : Nat) : Int)), IsV (.int .u64 ((LN : Nat) : Int)), IsV (.int .u64 ((IntKind.u64.wrap zh).tmod ((LN : Nat) : Int))), IsV (.int .i64 ((i : Nat) : Int)), IsV (.pointer (some ⟨gN, i * 6, none⟩)), IsV (.agg #[.int .i64 (x.epoch : Int), .int .i64 (x.client : Int), .int .i64 (x.counter : Int), .string sw, .string sb, .string so]), NewA w5.heap.size 78 [.int .i64 0, .int .i64 0, .int .i64 0, .string ⟨#[]⟩, .string ⟨#[]⟩, .string ⟨#[]⟩]] 18 (by decide) (by kernel_rfl) (by kernel_rfl) (by kernel_rfl) ?_ ?_ ?_
          · intro φ hφ v w1 w2 h hg
            simp only [List.mem_cons, List.not_mem_nil, or_false] at hφ
            rcases hφ with rfl | rfl | rfl | rfl | rfl | rfl | rfl | rfl | rfl | rfl | rfl | rfl | rfl | rfl | rfl | rfl | rfl | rfl
            all_goals first | exact h | exact RdV.gr h hg | exact NewA.gr h hg
          · refine ⟨?_, ?_, ?_, ?_, ?_, ?_, ?_, ?_, ?_, ?_, ?_, ?_, ?_, ?_, ?_, ?_, ?_, ?_, trivial⟩
            · intro a1 w1 hG hF
              exact s_old rfl (wants0 rfl) (.tmp 2) (.inr rfl) (.pointer (some ⟨r, 0, none⟩)) (hF.ol 2 (by kernel_rfl)) rfl
            · intro a1 w1 hG hF
              obtain ⟨_, e158, rfl⟩ := hF.dp 0 158 (by kernel_rfl)
              exact s_is rfl (wants0 rfl) _ rfl (run_nil e158)
            · intro a1 w1 hG hF
              obtain ⟨_, e159, rfl⟩ := hF.dp 1 159 (by kernel_rfl)
              exact s_is rfl (wants0 rfl) _ rfl (run_field (o := 3) (k := 0) Tryd.underlying48 rfl rfl (by kernel_rfl) e159)
            · intro a1 w1 hG hF
              obtain ⟨_, e160, rfl⟩ := hF.dp 2 160 (by kernel_rfl)
              exact s_is rfl (wants0 rfl) _ rfl (run_load1B (.inr (.inr (.inr (.inl ⟨_, Tryd.underlying46⟩)))) e160 (Gr.cell ((Gr.drew w5).trans hG) qc3))
            · intro a1 w1 hG hF
              have e3 : a1.eval (.tmp 3) = .pointer (some ⟨g3, 0, none⟩) := hF.ol 3 (by kernel_rfl)
              exact s_is rfl (wants0 rfl) _ rfl (run_field (o := 6) (k := 0) Tryd.underlying29 rfl rfl (by kernel_rfl) e3)
            · intro a1 w1 hG hF
              obtain ⟨_, e162, rfl⟩ := hF.dp 4 162 (by kernel_rfl)
              exact s_is rfl (wants0 rfl) _ rfl (run_load1 Tryd.underlying3 e162 (Gr.cell ((Gr.drew w5).trans hG) c6z))
            · intro a1 w1 hG hF
              obtain ⟨_, e163, rfl⟩ := hF.dp 5 163 (by kernel_rfl)
              exact s_is rfl (wants0 rfl) _ rfl (run_toU Tryd.underlying3 Tryd.underlying39 e163)
            · intro a1 w1 hG hF
              exact s_old rfl (wants0 rfl) (.tmp 2) (.inr rfl) (.pointer (some ⟨r, 0, none⟩)) (hF.ol 2 (by kernel_rfl)) rfl
            · intro a1 w1 hG hF
              obtain ⟨_, e165, rfl⟩ := hF.dp 7 165 (by kernel_rfl)
              exact s_is rfl (wants0 rfl) _ rfl (run_nil e165)
            · intro a1 w1 hG hF
              obtain ⟨_, e166, rfl⟩ := hF.dp 8 166 (by kernel_rfl)
              exact s_is rfl (wants0 rfl) _ rfl (run_field (o := 3) (k := 0) Tryd.underlying48 rfl rfl (by kernel_rfl) e166)
            · intro a1 w1 hG hF
              obtain ⟨_, e167, rfl⟩ := hF.dp 9 167 (by kernel_rfl)
              exact s_is rfl (wants0 rfl) _ rfl (run_load1B (.inr (.inr (.inr (.inl ⟨_, Tryd.underlying46⟩)))) e167 (Gr.cell ((Gr.drew w5).trans hG) qc3))
            · intro a1 w1 hG hF
              obtain ⟨_, e168, rfl⟩ := hF.dp 10 168 (by kernel_rfl)
              exact s_is rfl (wants0 rfl) _ rfl (run_len_slice Tryd.underlying46 e168)
            · intro a1 w1 hG hF
              obtain ⟨_, e169, rfl⟩ := hF.dp 11 169 (by kernel_rfl)
              exact s_is rfl (wants0 rfl) _ rfl (run_toN Tryd.underlying3 Tryd.underlying39 (by omega) e169)
            · intro a1 w1 hG hF
              obtain ⟨_, e164, rfl⟩ := hF.dp 6 164 (by kernel_rfl)
              obtain ⟨_, e170, rfl⟩ := hF.dp 12 170 (by kernel_rfl)
              exact s_is rfl (wants0 rfl) _ rfl (run_remU (m := LN) (by omega) e164 e170)
            · intro a1 w1 hG hF
              obtain ⟨_, e171, rfl⟩ := hF.dp 13 171 (by kernel_rfl)
              exact s_is rfl (wants0 rfl) _ rfl (run_toI Tryd.underlying39 Tryd.underlying3 HIX.out e171)
            · intro a1 w1 hG hF
              obtain ⟨_, e161, rfl⟩ := hF.dp 3 161 (by kernel_rfl)
              obtain ⟨_, e172, rfl⟩ := hF.dp 14 172 (by kernel_rfl)
              exact s_is rfl (wants0 rfl) _ rfl (run_idx6 (c := cD) Tryd.underlying46 (by kernel_rfl) e161 e172 hi)
            · intro a1 w1 hG hF
              obtain ⟨_, e173, rfl⟩ := hF.dp 15 173 (by kernel_rfl)
              exact s_is rfl (wants0 rfl) _ rfl (run_loadSealed e173 (Gr.cell ((Gr.drew w5).trans hG) qx0) (Gr.cell ((Gr.drew w5).trans hG) qx1) (Gr.cell ((Gr.drew w5).trans hG) qx2) (Gr.cell ((Gr.drew w5).trans hG) qx3) (Gr.cell ((Gr.drew w5).trans hG) qx4) (Gr.cell ((Gr.drew w5).trans hG) qx5))
            · intro a1 w1 hG hF
              exact s_val rfl (wants0 rfl) _ rfl _ (w1.alloc (.cells #[.int .i64 0, .int .i64 0, .int .i64 0, .string ⟨#[]⟩, .string ⟨#[]⟩, .string ⟨#[]⟩] 78)) (by simp only [execOp]; go_simp) ⟨_, rfl, ((Gr.drew w5).trans hG).size, Arr.newAt rfl rfl⟩ (Gr.alloc _ _)
          · intro vs w1 hG hf
            have z174 : vs 16 = .agg #[.int .i64 (x.epoch : Int), .int .i64 (x.client : Int), .int .i64 (x.counter : Int), .string sw, .string sb, .string so] := hf.2.2.2.2.2.2.2.2.2.2.2.2.2.2.2.2.1
            have y21 : (NewA w5.heap.size 78 [.int .i64 0, .int .i64 0, .int .i64 0, .string ⟨#[]⟩, .string ⟨#[]⟩, .string ⟨#[]⟩]) (vs 17) w1 := hf.2.2.2.2.2.2.2.2.2.2.2.2.2.2.2.2.2.1
            clear hf
            simp only [List.take_succ_cons, List.take_zero, List.drop_succ_cons, List.drop_zero, putAll, Nat.zero_add, Nat.reduceAdd, z174]
            have hG6 := (Gr.drew w5).trans hG
            have h36 := h35.gr hG6
            clear hG
            obtain ⟨g21, hy21, hg21, h210⟩ := y21
            rw [hy21]
            refine wpList_put h210 rfl 78 (.tmp 21) (.tmp 174) rfl [.int .i64 (x.epoch : Int), .int .i64 (x.client : Int), .int .i64 (x.counter : Int), .string sw, .string sb, .string so] (by kernel_rfl) (by kernel_rfl) rfl (by kernel_rfl) (by simp [Value.oneCell']) ?_
            intro w7 h21 hB7 _
            unfold wpList
            go_simp
            have G7 : Gr w5 w7 := Below.trans hG6 (hB7.mono hg21)
            have h37 := h35.gr G7
            clear hG6 hB7 h36 h210 hy21
            obtain ⟨capO, Wo, hcO⟩ := conv_free (P := Tryd.prog) 9 27 5 x.out lo HLo.out.symm (by omega) Tryd.underlying9 Tryd.underlying27 Tryd.underlying5
            have d5 := h21.cell (i := 5) (v := .string so) rfl
            have hcv := (hcO w7).run
            rw [← HSo.out] at hcv
            have hr22 := (hcO w7).own.rd
            have hfr := (hcO w7).free
            have hlc := (hcO w7).own.le
            have hG8 : Gr w7 (Wo w7) := (hcO w7).below
            have hg22 : w5.heap.size ≤ w7.heap.size := G7.size
            have hg12 : g21 < w7.heap.size := h21.lt
            generalize capO w7 = cO at hcv hlc
            generalize Wo w7 = w8 at hcv hr22 hfr hG8
            generalize w7.heap.size = g22 at hcv hr22 hfr hg22 hg12
            clear hcO
            go_upto_region 29 with fail
            have G8 := Gr.trans G7 hG8
            have h38 := h37.gr hG8
            have h218 := h21.gr hG8
            have hB22 : Hid (∀ w', Below g22 w8 w' → Gr w5 w') := fun w' h => Below.trans G8 (h.mono hg22)
            obtain ⟨jj, hjj, eqj⟩ := wrap_remN zk lo (by omega) (by omega)
            have HJX : Hid (wrap64 ((IntKind.u64.wrap zk).tmod (lo : Int)) = (jj : Int)) := eqj
            obtain ⟨x0, hx0⟩ : ∃ b, x.out[jj]? = some b := ⟨x.out[jj]'(by have := HLo.out; omega), List.getElem?_eq_getElem (by have := HLo.out; omega)⟩
            have cx0 : w8.cell? ⟨g22, jj, none⟩ = some (.int .u8 (x0.toNat : Int)) := by
              obtain ⟨ad, e, hc⟩ := hr22.2 jj _ (u8s_at hx0)
              injection e with e
              subst e
              rw [add_row, Nat.zero_add] at hc
              exact hc
            have c3w := h38.cell (i := 3) (v := .int .i64 zk) rfl
            have c7w := h38.cell (i := 7) (v := .int .u8 (y.toNat : Int)) rfl
            clear eqj hcv h37 h21 hG8 G7 d5
            refine wp_region_cut (by kernel_rfl) [IsV (.slice (some ⟨g22, 0, none⟩) lo cO), IsV (.pointer (some ⟨g3, 3, none⟩)), IsV (.int .i64 (zk)), IsV (.int .u64 (IntKind.u64.wrap zk)), IsV (.slice (some ⟨g22, 0, none⟩) lo cO), IsV (.int .i64 ((lo : Nat) : Int)), IsV (.int .u64 ((lo : Nat) : Int)), IsV (.int .u64 ((IntKind.u64.wrap zk).tmod ((lo : Nat) : Int))), IsV (.int .i64 ((jj : Nat) : Int)), IsV (.pointer (some ⟨g22, jj, none⟩)), IsV (.int .u8 ((x0).toNat : Int)), IsV (.pointer (some ⟨g3, 7, none⟩)), IsV (.int .u8 ((y).toNat : Int)), IsV (.int .u8 ((x0 ^^^ y).toNat : Int)), IsV (.pointer (some ⟨g22, jj, none⟩))] 15 (by decide) (by kernel_rfl) (by kernel_rfl) (by kernel_rfl) ?_ ?_ ?_
            · intro φ hφ v w1 w2 h hg
              simp only [List.mem_cons, List.not_mem_nil, or_false] at hφ
              rcases hφ with rfl | rfl | rfl | rfl | rfl | rfl | rfl | rfl | rfl | rfl | rfl | rfl | rfl | rfl | rfl
              all_goals first | exact h | exact RdV.gr h hg
            · refine ⟨?_, ?_, ?_, ?_, ?_, ?_, ?_, ?_, ?_, ?_, ?_, ?_, ?_, ?_, ?_, trivial⟩
              · intro a1 w1 hG hF
                exact s_old rfl (wants0 rfl) (.tmp 22) (.inr rfl) (.slice (some ⟨g22, 0, none⟩) lo cO) (hF.ol 22 (by kernel_rfl)) rfl
              · intro a1 w1 hG hF
                have e3 : a1.eval (.tmp 3) = .pointer (some ⟨g3, 0, none⟩) := hF.ol 3 (by kernel_rfl)
                exact s_is rfl (wants0 rfl) _ rfl (run_field (o := 3) (k := 0) Tryd.underlying29 rfl rfl (by kernel_rfl) e3)
              · intro a1 w1 hG hF
                obtain ⟨_, e179, rfl⟩ := hF.dp 1 179 (by kernel_rfl)
                exact s_is rfl (wants0 rfl) _ rfl (run_load1 Tryd.underlying3 e179 (Gr.cell ((Gr.drew w8).trans hG) c3w))
              · intro a1 w1 hG hF
                obtain ⟨_, e180, rfl⟩ := hF.dp 2 180 (by kernel_rfl)
                exact s_is rfl (wants0 rfl) _ rfl (run_toU Tryd.underlying3 Tryd.underlying39 e180)
              · intro a1 w1 hG hF
                exact s_old rfl (wants0 rfl) (.tmp 22) (.inr rfl) (.slice (some ⟨g22, 0, none⟩) lo cO) (hF.ol 22 (by kernel_rfl)) rfl
              · intro a1 w1 hG hF
                obtain ⟨_, e182, rfl⟩ := hF.dp 4 182 (by kernel_rfl)
                exact s_is rfl (wants0 rfl) _ rfl (run_len_slice Tryd.underlying27 e182)
              · intro a1 w1 hG hF
                obtain ⟨_, e183, rfl⟩ := hF.dp 5 183 (by kernel_rfl)
                exact s_is rfl (wants0 rfl) _ rfl (run_toN Tryd.underlying3 Tryd.underlying39 (by omega) e183)
              · intro a1 w1 hG hF
                obtain ⟨_, e181, rfl⟩ := hF.dp 3 181 (by kernel_rfl)
                obtain ⟨_, e184, rfl⟩ := hF.dp 6 184 (by kernel_rfl)
                exact s_is rfl (wants0 rfl) _ rfl (run_remU (m := lo) (by omega) e181 e184)
              · intro a1 w1 hG hF
                obtain ⟨_, e185, rfl⟩ := hF.dp 7 185 (by kernel_rfl)
                exact s_is rfl (wants0 rfl) _ rfl (run_toI Tryd.underlying39 Tryd.underlying3 HJX.out e185)
              · intro a1 w1 hG hF
                obtain ⟨_, e178, rfl⟩ := hF.dp 0 178 (by kernel_rfl)
                obtain ⟨_, e186, rfl⟩ := hF.dp 8 186 (by kernel_rfl)
                exact s_is rfl (wants0 rfl) _ rfl (run_idxRow e178 e186 hjj)
              · intro a1 w1 hG hF
                obtain ⟨_, e187, rfl⟩ := hF.dp 9 187 (by kernel_rfl)
                exact s_is rfl (wants0 rfl) _ rfl (run_load1 Tryd.underlying5 e187 (Gr.cell ((Gr.drew w8).trans hG) cx0))
              · intro a1 w1 hG hF
                have e3 : a1.eval (.tmp 3) = .pointer (some ⟨g3, 0, none⟩) := hF.ol 3 (by kernel_rfl)
                exact s_is rfl (wants0 rfl) _ rfl (run_field (o := 7) (k := 0) Tryd.underlying29 rfl rfl (by kernel_rfl) e3)
              · intro a1 w1 hG hF
                obtain ⟨_, e189, rfl⟩ := hF.dp 11 189 (by kernel_rfl)
                exact s_is rfl (wants0 rfl) _ rfl (run_load1 Tryd.underlying5 e189 (Gr.cell ((Gr.drew w8).trans hG) c7w))
              · intro a1 w1 hG hF
                obtain ⟨_, e188, rfl⟩ := hF.dp 10 188 (by kernel_rfl)
                obtain ⟨_, e190, rfl⟩ := hF.dp 12 190 (by kernel_rfl)
                exact s_is rfl (wants0 rfl) _ rfl (run_xor8 (a := x0) (b := y) e188 e190)
              · intro a1 w1 hG hF
                obtain ⟨_, e178, rfl⟩ := hF.dp 0 178 (by kernel_rfl)
                obtain ⟨_, e186, rfl⟩ := hF.dp 8 186 (by kernel_rfl)
                exact s_is rfl (wants0 rfl) _ rfl (run_idxRow e178 e186 hjj)
            · intro vs w1 hG hf
              have z191 : vs 13 = .int .u8 ((x0 ^^^ y).toNat : Int) := hf.2.2.2.2.2.2.2.2.2.2.2.2.2.1
              have z192 : vs 14 = .pointer (some ⟨g22, jj, none⟩) := hf.2.2.2.2.2.2.2.2.2.2.2.2.2.2.1
              clear hf
              simp only [List.take_succ_cons, List.take_zero, List.drop_succ_cons, List.drop_zero, putAll, Nat.zero_add, Nat.reduceAdd, z191, z192]
              have hG9 := (Gr.drew w8).trans hG
              have hr29 := hG9.rd hr22
              have hfr9 : w1.frozen? ⟨g22, jj, none⟩ = false := (Below.frozen hG9 (show g22 < w8.heap.size from lt_of_cell cx0)).trans (hfr jj hjj)
              have hBB : Below g22 w8 w1 := hG9.mono (by have := lt_of_cell cx0; exact Nat.le_of_lt this)
              have h39 := h38.gr hG9
              have h219 := h218.gr hG9
              clear hG hr22 hfr c3w c7w cx0 h38 h218
              refine wpList_setF rfl (.tmp 192) (.tmp 191) rfl hr29 (x0 ^^^ y) (by kernel_rfl) (by kernel_rfl) hjj hfr9 ?_
              intro w10 hr10 hB10
              have G10 := hB22.out w10 (hBB.trans hB10)
              obtain ⟨OUT, hOUT⟩ : ∃ l, l = x.out.set jj (x0 ^^^ y) := ⟨_, rfl⟩
              rw [← hOUT] at hr10
              have hOl : OUT.length = lo := by rw [hOUT, List.length_set, HLo.out]
              have h310 := h35.gr G10
              have h2110 := h219.below hB10 hg12
              have hV10 := hV5.gr G10
              have hR10 := hR5.gr G10
              have gw10 := gw5.gr G10
              have hB010 := hB05.trans (G10.mono hB5)
              have hB10' : B ≤ w10.heap.size := Nat.le_trans hB5 G10.size
              have hg22' : g22 < w10.heap.size := by
                obtain ⟨ad, u, q1, _, q2⟩ := hr10.at_ (show 0 < lo by omega)
                injection q1 with q1
                subst q1
                have := lt_of_cell q2
                rwa [add_block] at this
              have d0 := h2110.cell (i := 0) (v := .int .i64 (x.epoch : Int)) rfl
              have d1 := h2110.cell (i := 1) (v := .int .i64 (x.client : Int)) rfl
              have d2 := h2110.cell (i := 2) (v := .int .i64 (x.counter : Int)) rfl
              have d3 := h2110.cell (i := 3) (v := .string sw) rfl
              have e1 := h310.cell (i := 1) (v := .int .i64 ze) rfl
              have e4 := h310.cell (i := 4) (v := .slice A n c) rfl
              clear hOUT hr29 hfr9 hBB hB10 h39 h219 hB22 G8 hg12 hg21 h35 gw5 hR5 hB5 hB05 hV5 qx0 qx1 qx2 qx3 qx4 qx5 qc3 c6z c0 c1 c2 c3 hL0 zL0 hi
              unfold wpList
              go_simp
              go_upto_region 31 with fail
              obtain ⟨capW, Ww, hcW⟩ := conv_free (P := Tryd.prog) 9 27 5 x.wi lw HLw.out.symm (by omega) Tryd.underlying9 Tryd.underlying27 Tryd.underlying5
              have hcv := (hcW w10).run
              rw [← HSw.out] at hcv
              have hO11 := (hcW w10).own
              have hG11 : Gr w10 (Ww w10) := (hcW w10).below
              have hlcw := (hcW w10).own.le
              generalize capW w10 = cW at hcv hlcw hO11
              generalize Ww w10 = w11 at hcv hO11 hG11
              clear hcW
              have hs10 : w10.heap.size ≤ w11.heap.size := hG11.size
              generalize hgw : w10.heap.size = gW at hcv hO11 hs10 hg22'
              have hbelow : Hid (∀ w', Below gW w11 w' → Gr w10 w') := fun w' h => Below.trans hG11 (h.mono (by omega))
              have HGW : Hid (∀ w', Gr w10 w' → Rd w' (some ⟨g22, 0, none⟩) lo (u8s OUT)) := fun w' h => h.rd hr10
              clear hgw
              have d1' := hG11.cell d1
              have d2' := hG11.cell d2
              have e4' := hG11.cell e4
              clear h310 h2110
              by_cases h3 : 3 < n
              · have h3i : (3 : Int) < (n : Int) := by omega
                go_upto_region 33 with fail
                · go_upto_region 36 with (at_builtin; go_must (refine wpList_appG1 rfl (.tmp 208) (.tmp 209) 27 5 rfl i0 (.int .u8 0) Tryd.underlying27 hi0 hz0 hz1 (by omega) rfl rfl hO11 _ (.int .u8 ((1 : UInt8).toNat : Int)) rfl rfl rfl (by omega) hs10 ?_; intro A13 c13 w13 hA13))
                  have G13 := hbelow.out w13 hA13.below
                  have hr13 : Rd w13 A13 (lw + 1) (u8s (x.wi ++ [1])) := by
                    have h := hA13.own.rd
                    rwa [show u8s x.wi ++ [Value.int .u8 ((1 : UInt8).toNat : Int)] = u8s (x.wi ++ [1]) by simp [u8s]] at h
                  have d1 := G13.cell d1
                  have d2 := G13.cell d2
                  obtain ⟨sL, hsL⟩ : ∃ s : ByteArray, s = ⟨(x.wi ++ [1]).toArray⟩ := ⟨_, rfl⟩
                  have HSL := Lib.hid hsL
                  clear hA13 hcv d1' d2' e4' hsL hO11 hG11
                  have hV13 := hV10.gr G13
                  have hR13 := hR10.gr G13
                  have gw13 := gw10.gr G13
                  have hB013 := hB010.trans (G13.mono hB10')
                  have hB13 : B ≤ w13.heap.size := Nat.le_trans hB10' G13.size
                  have hr22 := HGW.out w13 G13
                  have hP := open_tot hV13 hgd ze (x.client : Int) (x.counter : Int) A13 (lw + 1) c13 (x.wi ++ [1]) (some ⟨g22, 0, none⟩) lo cO OUT (by omega) (by omega) hlc hr13 hr22 gw13
                  go_wp2_with fail
                  refine hP.mono ?_
                  rintro e w14 ⟨X, z, hXz, ⟨E, q, cq, rfl, hE⟩, hG14⟩
                  have hV14 := hV13.gr hG14
                  have hR14 := hR13.gr hG14
                  have hB14 : B ≤ w14.heap.size := Nat.le_trans hB13 hG14.size
                  have hB014 := hB013.trans (hG14.mono hB13)
                  have hr14 := hG14.rd hr13
                  have hr224 := hG14.rd hr22
                  have f1 := hG14.cell d1
                  have f2 := hG14.cell d2
                  have hll : (x.wi ++ [1]).length ≤ 41 := by have := HLw.out; simp; omega
                  have hQ := ropen_tot hR14 ze (x.client : Int) (x.counter : Int) (x.wi ++ [1]) OUT (by omega) (by omega) (by omega)
                  obtain ⟨sO, hsO⟩ : ∃ s : ByteArray, s = ⟨OUT.toArray⟩ := ⟨_, rfl⟩
                  have HSO := Lib.hid hsO
                  rw [← HSL.out, ← HSO.out] at hQ
                  have hcv : (convert 27 9 (.slice A13 (lw + 1) c13)).run Tryd.prog w14 = .ok (.string sL) w14 := by
                    rw [HSL.out]
                    exact run_str (c := c13) (P := Tryd.prog) w14 Tryd.underlying27 Tryd.underlying5 Tryd.underlying9 hr14
                  have hcv2 : (convert 27 9 (.slice (some ⟨g22, 0, none⟩) lo cO)).run Tryd.prog w14 = .ok (.string sO) w14 := by
                    rw [HSO.out]
                    exact run_str (c := cO) (P := Tryd.prog) w14 Tryd.underlying27 Tryd.underlying5 Tryd.underlying9 hr224
                  clear hP hV13 hR13 hB013 hr13 hr22 gw13 hG14 hsO d1 d2 hll
                  go_wp2_with fail
                  refine hQ.mono ?_
                  rintro e w15 ⟨X', z', hXz', rfl, hG15⟩
                  have hxx := openI_fun hgd hXz hXz'
                  injection hxx with hxx hzz
                  subst hxx hzz
                  obtain ⟨sX, hsX⟩ : ∃ s : ByteArray, s = ⟨X.toArray⟩ := ⟨_, rfl⟩
                  rw [← hsX]
                  have HSX := Lib.hid hsX
                  have hV15 := hV14.gr hG15
                  have hR15 := hR14.gr hG15
                  have hB015 := hB014.trans (hG15.mono hB14)
                  have hE15 := hG15.rd hE
                  clear hcv hcv2
                  have hcv : (convert 27 9 (.slice E q cq)).run Tryd.prog w15 = .ok (.string sX) w15 := by
                    rw [HSX.out]
                    exact run_str (c := cq) (P := Tryd.prog) w15 Tryd.underlying27 Tryd.underlying5 Tryd.underlying9 hE15
                  clear hQ hV14 hR14 hG15 hB014 hE hXz hXz' hsX
                  go_wp2_with fail
                  go_ret
                  exact ⟨rfl, ⟨v, hV15, hR15, hgd.more (Nat.le_succ N), rfl⟩, hB015⟩
                · go_upto_region 36 with (at_builtin; go_must (refine wpList_appG1 rfl (.tmp 208) (.tmp 209) 27 5 rfl i0 (.int .u8 0) Tryd.underlying27 hi0 hz0 hz1 (by omega) rfl rfl hO11 _ (.int .u8 ((1 : UInt8).toNat : Int)) rfl rfl rfl (by omega) hs10 ?_; intro A13 c13 w13 hA13))
                  have G13 := hbelow.out w13 hA13.below
                  have hr13 : Rd w13 A13 (lw + 1) (u8s (x.wi ++ [1])) := by
                    have h := hA13.own.rd
                    rwa [show u8s x.wi ++ [Value.int .u8 ((1 : UInt8).toNat : Int)] = u8s (x.wi ++ [1]) by simp [u8s]] at h
                  have d1 := G13.cell d1
                  have d2 := G13.cell d2
                  obtain ⟨sL, hsL⟩ : ∃ s : ByteArray, s = ⟨(x.wi ++ [1]).toArray⟩ := ⟨_, rfl⟩
                  have HSL := Lib.hid hsL
                  clear hA13 hcv d1' d2' e4' hsL hO11 hG11
                  have hV13 := hV10.gr G13
                  have hR13 := hR10.gr G13
                  have gw13 := gw10.gr G13
                  have hB013 := hB010.trans (G13.mono hB10')
                  have hB13 : B ≤ w13.heap.size := Nat.le_trans hB10' G13.size
                  have hr22 := HGW.out w13 G13
                  have hP := open_tot hV13 hgd (x.epoch : Int) (x.client : Int) (x.counter : Int) A13 (lw + 1) c13 (x.wi ++ [1]) (some ⟨g22, 0, none⟩) lo cO OUT (by omega) (by omega) hlc hr13 hr22 gw13
                  go_wp2_with fail
                  refine hP.mono ?_
                  rintro e w14 ⟨X, z, hXz, ⟨E, q, cq, rfl, hE⟩, hG14⟩
                  have hV14 := hV13.gr hG14
                  have hR14 := hR13.gr hG14
                  have hB14 : B ≤ w14.heap.size := Nat.le_trans hB13 hG14.size
                  have hB014 := hB013.trans (hG14.mono hB13)
                  have hr14 := hG14.rd hr13
                  have hr224 := hG14.rd hr22
                  have f1 := hG14.cell d1
                  have f2 := hG14.cell d2
                  have hll : (x.wi ++ [1]).length ≤ 41 := by have := HLw.out; simp; omega
                  have hQ := ropen_tot hR14 (x.epoch : Int) (x.client : Int) (x.counter : Int) (x.wi ++ [1]) OUT (by omega) (by omega) (by omega)
                  obtain ⟨sO, hsO⟩ : ∃ s : ByteArray, s = ⟨OUT.toArray⟩ := ⟨_, rfl⟩
                  have HSO := Lib.hid hsO
                  rw [← HSL.out, ← HSO.out] at hQ
                  have hcv : (convert 27 9 (.slice A13 (lw + 1) c13)).run Tryd.prog w14 = .ok (.string sL) w14 := by
                    rw [HSL.out]
                    exact run_str (c := c13) (P := Tryd.prog) w14 Tryd.underlying27 Tryd.underlying5 Tryd.underlying9 hr14
                  have hcv2 : (convert 27 9 (.slice (some ⟨g22, 0, none⟩) lo cO)).run Tryd.prog w14 = .ok (.string sO) w14 := by
                    rw [HSO.out]
                    exact run_str (c := cO) (P := Tryd.prog) w14 Tryd.underlying27 Tryd.underlying5 Tryd.underlying9 hr224
                  clear hP hV13 hR13 hB013 hr13 hr22 gw13 hG14 hsO d1 d2 hll
                  go_wp2_with fail
                  refine hQ.mono ?_
                  rintro e w15 ⟨X', z', hXz', rfl, hG15⟩
                  have hxx := openI_fun hgd hXz hXz'
                  injection hxx with hxx hzz
                  subst hxx hzz
                  obtain ⟨sX, hsX⟩ : ∃ s : ByteArray, s = ⟨X.toArray⟩ := ⟨_, rfl⟩
                  rw [← hsX]
                  have HSX := Lib.hid hsX
                  have hV15 := hV14.gr hG15
                  have hR15 := hR14.gr hG15
                  have hB015 := hB014.trans (hG15.mono hB14)
                  have hE15 := hG15.rd hE
                  clear hcv hcv2
                  have hcv : (convert 27 9 (.slice E q cq)).run Tryd.prog w15 = .ok (.string sX) w15 := by
                    rw [HSX.out]
                    exact run_str (c := cq) (P := Tryd.prog) w15 Tryd.underlying27 Tryd.underlying5 Tryd.underlying9 hE15
                  clear hQ hV14 hR14 hG15 hB014 hE hXz hXz' hsX
                  go_wp2_with fail
                  go_ret
                  exact ⟨rfl, ⟨v, hV15, hR15, hgd.more (Nat.le_succ N), rfl⟩, hB015⟩
              · have h3i : ¬ (3 : Int) < (n : Int) := by omega
                go_upto_region 33 with fail
                · go_upto_region 36 with fail
                  have hr13 := hO11.rd
                  have G13 := hG11
                  have HSL := HSw
                  clear hcv d1 d2 e4' hO11 hG11
                  have hV13 := hV10.gr G13
                  have hR13 := hR10.gr G13
                  have gw13 := gw10.gr G13
                  have hB013 := hB010.trans (G13.mono hB10')
                  have hB13 : B ≤ w11.heap.size := Nat.le_trans hB10' G13.size
                  have hr22 := HGW.out w11 G13
                  have hP := open_tot hV13 hgd ze (x.client : Int) (x.counter : Int) (some ⟨gW, 0, none⟩) lw cW x.wi (some ⟨g22, 0, none⟩) lo cO OUT (by omega) (by omega) hlc hr13 hr22 gw13
                  go_wp2_with fail
                  refine hP.mono ?_
                  rintro e w14 ⟨X, z, hXz, ⟨E, q, cq, rfl, hE⟩, hG14⟩
                  have hV14 := hV13.gr hG14
                  have hR14 := hR13.gr hG14
                  have hB14 : B ≤ w14.heap.size := Nat.le_trans hB13 hG14.size
                  have hB014 := hB013.trans (hG14.mono hB13)
                  have hr14 := hG14.rd hr13
                  have hr224 := hG14.rd hr22
                  have f1 := hG14.cell d1'
                  have f2 := hG14.cell d2'
                  have hll : x.wi.length ≤ 41 := by have := HLw.out; simp; omega
                  have hQ := ropen_tot hR14 ze (x.client : Int) (x.counter : Int) x.wi OUT (by omega) (by omega) (by omega)
                  obtain ⟨sO, hsO⟩ : ∃ s : ByteArray, s = ⟨OUT.toArray⟩ := ⟨_, rfl⟩
                  have HSO := Lib.hid hsO
                  rw [← HSL.out, ← HSO.out] at hQ
                  have hcv : (convert 27 9 (.slice (some ⟨gW, 0, none⟩) lw cW)).run Tryd.prog w14 = .ok (.string sw) w14 := by
                    rw [HSL.out]
                    exact run_str (c := cW) (P := Tryd.prog) w14 Tryd.underlying27 Tryd.underlying5 Tryd.underlying9 hr14
                  have hcv2 : (convert 27 9 (.slice (some ⟨g22, 0, none⟩) lo cO)).run Tryd.prog w14 = .ok (.string sO) w14 := by
                    rw [HSO.out]
                    exact run_str (c := cO) (P := Tryd.prog) w14 Tryd.underlying27 Tryd.underlying5 Tryd.underlying9 hr224
                  clear hP hV13 hR13 hB013 hr13 hr22 gw13 hG14 hsO d1' d2' hll
                  go_wp2_with fail
                  refine hQ.mono ?_
                  rintro e w15 ⟨X', z', hXz', rfl, hG15⟩
                  have hxx := openI_fun hgd hXz hXz'
                  injection hxx with hxx hzz
                  subst hxx hzz
                  obtain ⟨sX, hsX⟩ : ∃ s : ByteArray, s = ⟨X.toArray⟩ := ⟨_, rfl⟩
                  rw [← hsX]
                  have HSX := Lib.hid hsX
                  have hV15 := hV14.gr hG15
                  have hR15 := hR14.gr hG15
                  have hB015 := hB014.trans (hG15.mono hB14)
                  have hE15 := hG15.rd hE
                  clear hcv hcv2
                  have hcv : (convert 27 9 (.slice E q cq)).run Tryd.prog w15 = .ok (.string sX) w15 := by
                    rw [HSX.out]
                    exact run_str (c := cq) (P := Tryd.prog) w15 Tryd.underlying27 Tryd.underlying5 Tryd.underlying9 hE15
                  clear hQ hV14 hR14 hG15 hB014 hE hXz hXz' hsX
                  go_wp2_with fail
                  go_ret
                  exact ⟨rfl, ⟨v, hV15, hR15, hgd.more (Nat.le_succ N), rfl⟩, hB015⟩
                · go_upto_region 36 with fail
                  have hr13 := hO11.rd
                  have G13 := hG11
                  have HSL := HSw
                  clear hcv d1 d2 e4' hO11 hG11
                  have hV13 := hV10.gr G13
                  have hR13 := hR10.gr G13
                  have gw13 := gw10.gr G13
                  have hB013 := hB010.trans (G13.mono hB10')
                  have hB13 : B ≤ w11.heap.size := Nat.le_trans hB10' G13.size
                  have hr22 := HGW.out w11 G13
                  have hP := open_tot hV13 hgd (x.epoch : Int) (x.client : Int) (x.counter : Int) (some ⟨gW, 0, none⟩) lw cW x.wi (some ⟨g22, 0, none⟩) lo cO OUT (by omega) (by omega) hlc hr13 hr22 gw13
                  go_wp2_with fail
                  refine hP.mono ?_
                  rintro e w14 ⟨X, z, hXz, ⟨E, q, cq, rfl, hE⟩, hG14⟩
                  have hV14 := hV13.gr hG14
                  have hR14 := hR13.gr hG14
                  have hB14 : B ≤ w14.heap.size := Nat.le_trans hB13 hG14.size
                  have hB014 := hB013.trans (hG14.mono hB13)
                  have hr14 := hG14.rd hr13
                  have hr224 := hG14.rd hr22
                  have f1 := hG14.cell d1'
                  have f2 := hG14.cell d2'
                  have hll : x.wi.length ≤ 41 := by have := HLw.out; simp; omega
                  have hQ := ropen_tot hR14 (x.epoch : Int) (x.client : Int) (x.counter : Int) x.wi OUT (by omega) (by omega) (by omega)
                  obtain ⟨sO, hsO⟩ : ∃ s : ByteArray, s = ⟨OUT.toArray⟩ := ⟨_, rfl⟩
                  have HSO := Lib.hid hsO
                  rw [← HSL.out, ← HSO.out] at hQ
                  have hcv : (convert 27 9 (.slice (some ⟨gW, 0, none⟩) lw cW)).run Tryd.prog w14 = .ok (.string sw) w14 := by
                    rw [HSL.out]
                    exact run_str (c := cW) (P := Tryd.prog) w14 Tryd.underlying27 Tryd.underlying5 Tryd.underlying9 hr14
                  have hcv2 : (convert 27 9 (.slice (some ⟨g22, 0, none⟩) lo cO)).run Tryd.prog w14 = .ok (.string sO) w14 := by
                    rw [HSO.out]
                    exact run_str (c := cO) (P := Tryd.prog) w14 Tryd.underlying27 Tryd.underlying5 Tryd.underlying9 hr224
                  clear hP hV13 hR13 hB013 hr13 hr22 gw13 hG14 hsO d1' d2' hll
                  go_wp2_with fail
                  refine hQ.mono ?_
                  rintro e w15 ⟨X', z', hXz', rfl, hG15⟩
                  have hxx := openI_fun hgd hXz hXz'
                  injection hxx with hxx hzz
                  subst hxx hzz
                  obtain ⟨sX, hsX⟩ : ∃ s : ByteArray, s = ⟨X.toArray⟩ := ⟨_, rfl⟩
                  rw [← hsX]
                  have HSX := Lib.hid hsX
                  have hV15 := hV14.gr hG15
                  have hR15 := hR14.gr hG15
                  have hB015 := hB014.trans (hG15.mono hB14)
                  have hE15 := hG15.rd hE
                  clear hcv hcv2
                  have hcv : (convert 27 9 (.slice E q cq)).run Tryd.prog w15 = .ok (.string sX) w15 := by
                    rw [HSX.out]
                    exact run_str (c := cq) (P := Tryd.prog) w15 Tryd.underlying27 Tryd.underlying5 Tryd.underlying9 hE15
                  clear hQ hV14 hR14 hG15 hB014 hE hXz hXz' hsX
                  go_wp2_with fail
                  go_ret
                  exact ⟨rfl, ⟨v, hV15, hR15, hgd.more (Nat.le_succ N), rfl⟩, hB015⟩
      · have HQ : Hid (wrap64 ((IntKind.u64.wrap zw).tmod 4) = 3) := hq
        clear hq
        go_upto_region 4 with fail
        simp only [HQ.out]
        have hV5 := hVA.gr hG5
        have hLb := hgd.seals
        have hP := open_tot hV5 hgd ze zc zk A6 k1 c6 WI A7 k2 c7 BB (by omega) (by omega) hc7 hr65 hr75 gw5
        clear hVA hG5
        go_wp2_with fail
        refine hP.mono ?_
        rintro e w6 ⟨X, z, hXz, ⟨E, q, cq, rfl, hE⟩, hG6⟩
        have h36 := h35.gr hG6
        have hR6 := hR5.gr hG6
        have hV6 := hV5.gr hG6
        have hB6 : B ≤ w6.heap.size := Nat.le_trans hB5 hG6.size
        have hB06 := hB05.trans (hG6.mono hB5)
        have c1 := h36.cell (i := 1) (v := .int .i64 ze) rfl
        have c2 := h36.cell (i := 2) (v := .int .i64 zc) rfl
        have c3 := h36.cell (i := 3) (v := .int .i64 zk) rfl
        have hQ := ropen_tot hR6 ze zc zk WI BB (by omega) (by omega) (by omega)
        rw [← HSW.out, ← HSB.out] at hQ
        clear hP hR5 hV5 hB5 hG6 hB05 h35 y75 y85 hr65 hr75 gw5
        go_wp2_with fail
        refine hQ.mono ?_
        rintro e w7 ⟨X', z', hXz', rfl, hG7⟩
        have hxx := openI_fun hgd hXz hXz'
        injection hxx with hxx hzz
        subst hxx hzz
        obtain ⟨sX, hsX⟩ : ∃ s : ByteArray, s = ⟨X.toArray⟩ := ⟨_, rfl⟩
        rw [← hsX]
        have HSX := Lib.hid hsX
        have hV7 := hV6.gr hG7
        have hR7 := hR6.gr hG7
        have hB07 := hB06.trans (hG7.mono hB6)
        have hE7 := hG7.rd hE
        have hcv : (convert 27 9 (.slice E q cq)).run Tryd.prog w7 = .ok (.string sX) w7 := by
          rw [HSX.out]
          exact run_str (c := cq) (P := Tryd.prog) w7 Tryd.underlying27 Tryd.underlying5 Tryd.underlying9 hE7
        clear hQ hV6 hR6 hG7 hB06 hB6 h36 hE hXz hXz' hsX c0 c1 c2 c3
        go_wp2_with fail
        go_ret
        exact ⟨rfl, ⟨v, hV7, hR7, hgd.more (Nat.le_succ N), rfl⟩, hB07⟩
end Go.Proofs.YtnmhfomnlnlflaaDoor
