/- The walk of the law VaultBack. No condition. -/
import Derived.Test.YtnmhfomnlnlflaaDoorKitF
import Derived.Test.YtnmhfomnlnlflaaDoorOpenAct
namespace Go.Proofs.YtnmhfomnlnlflaaDoor
open Go.RowKit
/-- A copy of some bytes, as a call leaves it. -/
theorem rdS_copy {τ : Nat → Obj → Bool} {B base : Nat} {w : World} {A : Option Addr} {n c : Nat} {l : List UInt8} (h : w.ownsRow base 5 1 (.slice A n c) n (u8s l)) (hτ2 : ∀ k C f, τ k (.cells C 5 f) = false) : RdS τ B w A n (u8s l) := RdS.of_own h fun k C f _ => hτ2 k C f
theorem mapT2 : ∀ k C f, mapT k (.cells C 5 f) = false := fun _ _ _ => rfl
set_option maxRecDepth 100000 in
set_option maxHeartbeats 16000000 in
theorem law_vback (ideal : Bool) (zw ze zc zk : Int) (A : Option Addr) (n c : Nat) (l0 : List UInt8) (D : Option Addr) (m d : Nat) (m0 : List UInt8) (zh : Int) (y : UInt8) (w : World) (hnc : n ≤ c) (hmd : m ≤ d) (hr0 : Rd w A n (u8s l0)) (hb0 : Rd w D m (u8s m0)) (gw : Glob w) :
    Calls Tryd.prog 7 #[.bool ideal, .agg (actC zw ze zc zk A n c D m d zh y).toArray] w fun e w' => e = .returned (.bool true) ∧ Gr w w' := by
  obtain ⟨K, hK⟩ : ∃ K : List UInt8, K = 9 :: List.replicate 31 0 := ⟨_, rfl⟩
  have HI : Hid (∀ w, Calls Tryd.prog 9 #[.agg #[.int .u8 9, .int .u8 0, .int .u8 0, .int .u8 0, .int .u8 0, .int .u8 0, .int .u8 0, .int .u8 0, .int .u8 0, .int .u8 0, .int .u8 0, .int .u8 0, .int .u8 0, .int .u8 0, .int .u8 0, .int .u8 0, .int .u8 0, .int .u8 0, .int .u8 0, .int .u8 0, .int .u8 0, .int .u8 0, .int .u8 0, .int .u8 0, .int .u8 0, .int .u8 0, .int .u8 0, .int .u8 0, .int .u8 0, .int .u8 0, .int .u8 0, .int .u8 0]] w fun e w' => ∃ g b1 b2 b3, e = .returned (.pointer (some ⟨g, 0, none⟩)) ∧ Gr w w' ∧ w.heap.size ≤ b1 ∧ b3 < w'.heap.size ∧ w.heap.size ≤ g ∧ ∀ τ B, B ≤ b1 → VIs τ B w' g b1 b2 b3 ⟨true, K, [], []⟩) := by
    intro w
    rw [hK]
    exact ideal_any (9 :: List.replicate 31 0) rfl w
  have HRe : Hid (∀ w, Calls Tryd.prog 18 #[.agg #[.int .u8 9, .int .u8 0, .int .u8 0, .int .u8 0, .int .u8 0, .int .u8 0, .int .u8 0, .int .u8 0, .int .u8 0, .int .u8 0, .int .u8 0, .int .u8 0, .int .u8 0, .int .u8 0, .int .u8 0, .int .u8 0, .int .u8 0, .int .u8 0, .int .u8 0, .int .u8 0, .int .u8 0, .int .u8 0, .int .u8 0, .int .u8 0, .int .u8 0, .int .u8 0, .int .u8 0, .int .u8 0, .int .u8 0, .int .u8 0, .int .u8 0, .int .u8 0]] w fun e w' => ∃ g b1 b2 b3, e = .returned (.pointer (some ⟨g, 0, none⟩)) ∧ Gr w w' ∧ w.heap.size ≤ b1 ∧ b3 < w'.heap.size ∧ w.heap.size ≤ g ∧ ∀ τ B, B ≤ b1 → VIs τ B w' g b1 b2 b3 ⟨false, K, [], []⟩) := by
    intro w
    rw [hK]
    exact real_any (9 :: List.replicate 31 0) rfl w
  clear hK
  obtain ⟨k1, hk1⟩ : ∃ k, k = min n 40 := ⟨_, rfl⟩
  obtain ⟨k2, hk2⟩ : ∃ k, k = min m 100 := ⟨_, rfl⟩
  have h140 : k1 ≤ 40 := by omega
  have h2100 : k2 ≤ 100 := by omega
  obtain ⟨WI, hWI⟩ : ∃ l, l = l0.take k1 := ⟨_, rfl⟩
  obtain ⟨BB, hBB⟩ : ∃ l, l = m0.take k2 := ⟨_, rfl⟩
  have hl0 : l0.length = n := by simpa using hr0.1
  have hm0 : m0.length = m := by simpa using hb0.1
  have hWIl : WI.length = k1 := by rw [hWI, List.length_take]; omega
  have hBBl : BB.length = k2 := by rw [hBB, List.length_take]; omega
  have HC1 : Hid (∀ w, Rd w A n (u8s l0) → Calls Tryd.prog 11 #[.slice A n c, .int .i64 40] w fun e w' => ∃ v, e = .returned v ∧ w'.ownsRow w.heap.size 5 1 v k1 (u8s WI) ∧ Gr w w') := by
    intro w h
    rw [hWI]
    exact cut_any A n c l0 40 k1 hk1 (by omega) w hnc h
  have HC2 : Hid (∀ w, Rd w D m (u8s m0) → Calls Tryd.prog 11 #[.slice D m d, .int .i64 100] w fun e w' => ∃ v, e = .returned v ∧ w'.ownsRow w.heap.size 5 1 v k2 (u8s BB) ∧ Gr w w') := by
    intro w h
    rw [hBB]
    exact cut_any D m d m0 100 k2 hk2 (by omega) w hmd h
  obtain ⟨sB, hsB⟩ : ∃ s : ByteArray, s = ⟨BB.toArray⟩ := ⟨_, rfl⟩
  have HSB := Lib.hid hsB
  have HVs := Lib.hid vaults_any
  have h3 : Arr (w.alloc (.cells (actC zw ze zc zk A n c D m d zh y).toArray 29)) w.heap.size 29 (actC zw ze zc zk A n c D m d zh y) := Arr.newAt rfl rfl
  have G0 : Gr w (w.alloc (.cells (actC zw ze zc zk A n c D m d zh y).toArray 29)) := Gr.alloc _ _
  clear hk1 hk2 hWI hBB hl0 hm0 hsB
  go_enter Tryd.func7, Tryd.ntmps7
  go_upto_region 1 with fail
  change Code.wp _ _ _ _ (w.alloc (.cells (actC zw ze zc zk A n c D m d zh y).toArray 29))
  generalize w.alloc (.cells (actC zw ze zc zk A n c D m d zh y).toArray 29) = w0 at h3 G0 ⊢
  generalize hg3 : w.heap.size = B at h3 ⊢
  have HB := Lib.hid hg3
  clear hg3
  generalize B = g3 at h3 ⊢
  go_wp2_with fail
  refine (HRe.out w0).mono ?_
  rintro e w1 ⟨g, b1, b2, b3, rfl, hG1, hb1, hb3, hg, hVA⟩
  have hs0 := G0.size
  cases ideal with
  | false =>
    have hV1 := hVA mapT w.heap.size (by omega)
    have h31 := h3.gr hG1
    have hG01 := G0.trans hG1
    clear hVA h3 hG1 G0 HI HRe
    have hrA := hG01.rd hr0
    have hbA := hG01.rd hb0
    have gwA := gw.gr hG01
    have c1 := h31.cell (i := 1) (v := .int .i64 ze) rfl
    have c2 := h31.cell (i := 2) (v := .int .i64 zc) rfl
    have c3 := h31.cell (i := 3) (v := .int .i64 zk) rfl
    have c4 := h31.cell (i := 4) (v := .slice A n c) rfl
    have c5 := h31.cell (i := 5) (v := .slice D m d) rfl
    generalize w1 = wA at *
    go_upto_region 4 with fail
    refine wp_region_ssaL (by kernel_rfl) [IsV (.pointer (some ⟨g3, 4, none⟩)), IsV (.slice A n c), CopyV wA.heap.size 5 WI, IsV (.pointer (some ⟨g3, 5, none⟩)), IsV (.slice D m d), CopyV wA.heap.size 5 BB, CopyV wA.heap.size 5 WI, CopyV wA.heap.size 5 BB] (by kernel_rfl) ?_ ?_ ?_
    · intro φ hφ v w1 w2 h hg
      simp only [List.mem_cons, List.not_mem_nil, or_false] at hφ
      rcases hφ with rfl | rfl | rfl | rfl | rfl | rfl | rfl | rfl
      all_goals first | exact h | exact RdV.gr h hg | exact CopyV.gr h hg
    · refine ⟨?_, ?_, ?_, ?_, ?_, ?_, ?_, ?_, trivial⟩
      · intro a1 w1 hG hF
        have e3 : a1.eval (.tmp 3) = .pointer (some ⟨g3, 0, none⟩) := hF.ol 3 (by kernel_rfl)
        exact s_is rfl (wants0 rfl) _ rfl (run_field (o := 4) (k := 0) Tryd.underlying29 rfl rfl (by kernel_rfl) e3)
      · intro a1 w1 hG hF
        obtain ⟨_, e19, rfl⟩ := hF.dp 0 19 (by kernel_rfl)
        exact s_is rfl (wants0 rfl) _ rfl (run_load1B (.inr (.inr (.inr (.inl ⟨_, Tryd.underlying27⟩)))) e19 (Gr.cell ((Gr.drew wA).trans hG) c4))
      · intro a1 w1 hG hF
        obtain ⟨_, e20, rfl⟩ := hF.dp 1 20 (by kernel_rfl)
        exact s_call rfl (wants0 rfl) _ rfl _ _ (by simp only [execOp, resolve, invoke, List.map_toArray, List.map_cons, List.map_nil, e20]; go_simp) ((HC1.out w1 (((Gr.drew wA).trans hG).rd hrA)).mono fun e w2 ⟨v, he, ho, hb⟩ => ⟨_, he, (by unfold CopyV; rw [hWIl]; exact own_lower ho ((Gr.drew wA).trans hG).size), hb⟩)
      · intro a1 w1 hG hF
        have e3 : a1.eval (.tmp 3) = .pointer (some ⟨g3, 0, none⟩) := hF.ol 3 (by kernel_rfl)
        exact s_is rfl (wants0 rfl) _ rfl (run_field (o := 5) (k := 0) Tryd.underlying29 rfl rfl (by kernel_rfl) e3)
      · intro a1 w1 hG hF
        obtain ⟨_, e22, rfl⟩ := hF.dp 3 22 (by kernel_rfl)
        exact s_is rfl (wants0 rfl) _ rfl (run_load1B (.inr (.inr (.inr (.inl ⟨_, Tryd.underlying27⟩)))) e22 (Gr.cell ((Gr.drew wA).trans hG) c5))
      · intro a1 w1 hG hF
        obtain ⟨_, e23, rfl⟩ := hF.dp 4 23 (by kernel_rfl)
        exact s_call rfl (wants0 rfl) _ rfl _ _ (by simp only [execOp, resolve, invoke, List.map_toArray, List.map_cons, List.map_nil, e23]; go_simp) ((HC2.out w1 (((Gr.drew wA).trans hG).rd hbA)).mono fun e w2 ⟨v, he, ho, hb⟩ => ⟨_, he, (by unfold CopyV; rw [hBBl]; exact own_lower ho ((Gr.drew wA).trans hG).size), hb⟩)
      · intro a1 w1 hG hF
        exact s_same rfl (wants0 rfl) (.tmp 21) (.inl rfl) (hF.dp 2 21 (by kernel_rfl))
      · intro a1 w1 hG hF
        exact s_same rfl (wants0 rfl) (.tmp 24) (.inl rfl) (hF.dp 5 24 (by kernel_rfl))
    · intro vs w1 hG hf
      have y6 : (CopyV wA.heap.size 5 WI) (vs 6) w1 := hf.2.2.2.2.2.2.1
      have y7 : (CopyV wA.heap.size 5 BB) (vs 7) w1 := hf.2.2.2.2.2.2.2.1
      clear hf
      simp only [putAll, Nat.zero_add, Nat.reduceAdd]
      have hG4 := (Gr.drew wA).trans hG
      obtain ⟨A6, c6, z6', hc6, hA6, hr6⟩ := own_form3 y6
      obtain ⟨A7, c7, z7', hc7, hA7, hr7⟩ := own_form3 y7
      rw [z6', z7']
      rw [z6'] at y6
      rw [z7'] at y7
      unfold CopyV at y6 y7
      rw [hWIl] at y6 hc6 hA6 hr6 ⊢
      rw [hBBl] at y7 hc7 hA7 hr7 ⊢
      have hV4 := hV1.gr hG4
      have h34 := h31.gr hG4
      have gw4 := gwA.gr hG4
      have hG04 := hG01.trans hG4
      have s6 : RdS mapT w.heap.size w1 A6 k1 (u8s WI) := rdS_copy y6 mapT2
      have s7 : RdS mapT w.heap.size w1 A7 k2 (u8s BB) := rdS_copy y7 mapT2
      generalize w1 = w4 at hV4 h34 gw4 hG04 hr6 hr7 s6 s7 ⊢
      clear hG4 hG hV1 h31 gwA hG01 hrA hbA c1 c2 c3 c4 c5 z6' z7' y6 y7
      have c1 := h34.cell (i := 1) (v := .int .i64 ze) rfl
      have c2 := h34.cell (i := 2) (v := .int .i64 zc) rfl
      have c3 := h34.cell (i := 3) (v := .int .i64 zk) rfl
      go_simp
      by_cases hR : Right ze zc zk
      · obtain ⟨e, rfl⟩ : ∃ q : Nat, ze = (q : Int) := ⟨ze.toNat, by have := hR.1; omega⟩
        obtain ⟨cl, rfl⟩ : ∃ q : Nat, zc = (q : Int) := ⟨zc.toNat, by have := hR.2.2.1; omega⟩
        obtain ⟨k, rfl⟩ : ∃ q : Nat, zk = (q : Int) := ⟨zk.toNat, by have := hR.2.2.2.2.1; omega⟩
        go_wp2_with fail
        refine (vseal_any hV4 mapT_own (fun _ _ _ _ => rfl) e cl k hR (by simp [Vt.spent]) A6 k1 c6 WI A7 k2 c7 BB (by omega) (by omega) hc7 hr6 hr7 hA7 (by simp) gw4).mono ?_
        rintro r w5 ⟨x, rfl, ho5, hV5, hT5⟩
        obtain ⟨A8, c8, rfl, hc8, _⟩ := own_form ho5
        obtain ⟨X, hX⟩ : ∃ X, X = (⟨false, K, [], []⟩ : Vt).out e cl k WI BB := ⟨_, rfl⟩
        rw [← hX] at ho5
        have s8 : RdS mapT w.heap.size w5 A8 (k2 + 16) (u8s X) := rdS_copy ho5 mapT2
        have s65 := s6.tn (hT5.wide mapT_own)
        have s75 := s7.tn (hT5.wide mapT_own)
        have h35 := h34.tnV hT5
        have gw5 := gw4.tn hT5
        have hT05 := (Tn.of_gr (τ := ownV b1 b2 b3) (B := w.heap.size) hG04).trans hT5
        clear c1 c2 c3 hV4 h34 gw4 hG04 hr6 hr7 s6 s7 hT5 ho5
        go_wp2_with fail
        refine (HVs.out w5 gw5).mono ?_
        rintro r w6 ⟨rfl, hG6⟩
        have hV6 := hV5.gr hG6
        have h36 := h35.gr hG6
        have gw6 := gw5.gr hG6
        have s66 := s65.gr hG6
        have s76 := s75.gr hG6
        have s86 := s8.gr hG6
        have hT06 := hT05.gr hG6
        clear hV5 h35 gw5 s65 s75 s8 hG6 hT05
        have c1 := h36.cell (i := 1) (v := .int .i64 (e : Int)) rfl
        have c2 := h36.cell (i := 2) (v := .int .i64 (cl : Int)) rfl
        have c3 := h36.cell (i := 3) (v := .int .i64 (k : Int)) rfl
        go_wp2_with fail
        refine (vopen_any hV6 e cl k hR (by simp [Vt.put, hBBl]; omega) A6 k1 c6 WI A8 (k2 + 16) c8 X (by omega) (by omega) (by omega) hc8 s66.rd s86.rd gw6).mono ?_
        rintro r w7 ⟨⟨q, hop, A10, c10, rfl, hc10, hr10⟩, hG7⟩
        rw [hX] at hop
        have hq := put_opens (v := ⟨false, K, [], []⟩) (by simp [Vt.spent]) hop
        subst hq
        have hV7 := hV6.gr hG7
        have h37 := h36.gr hG7
        have s77 := s76.gr hG7
        have hT07 := hT06.gr hG7
        rw [show (BB, 0).1.length = k2 from hBBl] at hr10 hc10 ⊢
        clear hX hop hV6 h36 gw6 s66 s76 s86 hT06 c1 c2 c3
        have c1 := h37.cell (i := 1) (v := .int .i64 (e : Int)) rfl
        have c2 := h37.cell (i := 2) (v := .int .i64 (cl : Int)) rfl
        have c3 := h37.cell (i := 3) (v := .int .i64 (k : Int)) rfl
        go_wp2_with fail
        refine (vseal_spent hV7 e cl k hR ⟨_, List.mem_singleton.2 rfl, rfl, rfl⟩ _ _).mono ?_
        rintro r w8 ⟨rfl, hG8⟩
        have hr108 := hG8.rd hr10
        have s78 := s77.gr hG8
        have hT9 := (hT07.gr hG8).below (Nat.le_refl _)
        have hcs1 : (convert 27 9 (.slice A10 k2 c10)).run Tryd.prog w8 = .ok (.string sB) w8 := by rw [HSB.out]; exact run_str (P := Tryd.prog) (c := c10) w8 Tryd.underlying27 Tryd.underlying5 Tryd.underlying9 hr108
        have hcs2 : (convert 27 9 (.slice A7 k2 c7)).run Tryd.prog w8 = .ok (.string sB) w8 := by rw [HSB.out]; exact run_str (P := Tryd.prog) (c := c7) w8 Tryd.underlying27 Tryd.underlying5 Tryd.underlying9 s78.rd
        clear hV7 h37 s77 hT07 hG8 hr10 hr108 s78 c1 c2 c3 hG7
        go_wp2_with fail
        go_ret
        exact ⟨rfl, hT9⟩
      · go_wp2_with fail
        refine (vseal_bad g ze zc zk hR _ _ w4).mono ?_
        rintro r w5 ⟨rfl, hG5⟩
        have gw5 := gw4.gr hG5
        have hG05 := hG04.trans hG5
        go_wp2_with fail
        refine (HVs.out w5 gw5).mono ?_
        rintro r w6 ⟨rfl, hG6⟩
        have gw6 := gw5.gr hG6
        have hG06 := hG05.trans hG6
        go_wp2_with fail
        refine (HVs.out w6 gw6).mono ?_
        rintro r w7 ⟨rfl, hG7⟩
        have hG07 := hG06.trans hG7
        go_wp2_with fail
        go_ret
        exact ⟨rfl, hG07⟩
  | true =>
    have h31 := h3.gr hG1
    have hG01 := G0.trans hG1
    have hs1 := hG1.size
    clear hVA h3 hG1 G0 HRe hb1 hb3 hg
    go_wp2_with fail
    refine (HI.out w1).mono ?_
    rintro e w2 ⟨g', b1', b2', b3', rfl, hG2, hb1, hb3, hg, hVA⟩
    have hV1 := hVA mapT w.heap.size (by omega)
    have h32 := h31.gr hG2
    have hG02 := hG01.trans hG2
    clear hVA h31 hG2 HI hG01
    clear b1 b2 b3
    generalize g' = g, b1' = b1, b2' = b2, b3' = b3 at *
    generalize w2 = w1 at *
    have hrA := hG02.rd hr0
    have hbA := hG02.rd hb0
    have gwA := gw.gr hG02
    have c1 := h32.cell (i := 1) (v := .int .i64 ze) rfl
    have c2 := h32.cell (i := 2) (v := .int .i64 zc) rfl
    have c3 := h32.cell (i := 3) (v := .int .i64 zk) rfl
    have c4 := h32.cell (i := 4) (v := .slice A n c) rfl
    have c5 := h32.cell (i := 5) (v := .slice D m d) rfl
    generalize w1 = wA at *
    go_upto_region 4 with fail
    refine wp_region_ssaL (by kernel_rfl) [IsV (.pointer (some ⟨g3, 4, none⟩)), IsV (.slice A n c), CopyV wA.heap.size 5 WI, IsV (.pointer (some ⟨g3, 5, none⟩)), IsV (.slice D m d), CopyV wA.heap.size 5 BB, CopyV wA.heap.size 5 WI, CopyV wA.heap.size 5 BB] (by kernel_rfl) ?_ ?_ ?_
    · intro φ hφ v w1 w2 h hg
      simp only [List.mem_cons, List.not_mem_nil, or_false] at hφ
      rcases hφ with rfl | rfl | rfl | rfl | rfl | rfl | rfl | rfl
      all_goals first | exact h | exact RdV.gr h hg | exact CopyV.gr h hg
    · refine ⟨?_, ?_, ?_, ?_, ?_, ?_, ?_, ?_, trivial⟩
      · intro a1 w1 hG hF
        have e3 : a1.eval (.tmp 3) = .pointer (some ⟨g3, 0, none⟩) := hF.ol 3 (by kernel_rfl)
        exact s_is rfl (wants0 rfl) _ rfl (run_field (o := 4) (k := 0) Tryd.underlying29 rfl rfl (by kernel_rfl) e3)
      · intro a1 w1 hG hF
        obtain ⟨_, e19, rfl⟩ := hF.dp 0 19 (by kernel_rfl)
        exact s_is rfl (wants0 rfl) _ rfl (run_load1B (.inr (.inr (.inr (.inl ⟨_, Tryd.underlying27⟩)))) e19 (Gr.cell ((Gr.drew wA).trans hG) c4))
      · intro a1 w1 hG hF
        obtain ⟨_, e20, rfl⟩ := hF.dp 1 20 (by kernel_rfl)
        exact s_call rfl (wants0 rfl) _ rfl _ _ (by simp only [execOp, resolve, invoke, List.map_toArray, List.map_cons, List.map_nil, e20]; go_simp) ((HC1.out w1 (((Gr.drew wA).trans hG).rd hrA)).mono fun e w2 ⟨v, he, ho, hb⟩ => ⟨_, he, (by unfold CopyV; rw [hWIl]; exact own_lower ho ((Gr.drew wA).trans hG).size), hb⟩)
      · intro a1 w1 hG hF
        have e3 : a1.eval (.tmp 3) = .pointer (some ⟨g3, 0, none⟩) := hF.ol 3 (by kernel_rfl)
        exact s_is rfl (wants0 rfl) _ rfl (run_field (o := 5) (k := 0) Tryd.underlying29 rfl rfl (by kernel_rfl) e3)
      · intro a1 w1 hG hF
        obtain ⟨_, e22, rfl⟩ := hF.dp 3 22 (by kernel_rfl)
        exact s_is rfl (wants0 rfl) _ rfl (run_load1B (.inr (.inr (.inr (.inl ⟨_, Tryd.underlying27⟩)))) e22 (Gr.cell ((Gr.drew wA).trans hG) c5))
      · intro a1 w1 hG hF
        obtain ⟨_, e23, rfl⟩ := hF.dp 4 23 (by kernel_rfl)
        exact s_call rfl (wants0 rfl) _ rfl _ _ (by simp only [execOp, resolve, invoke, List.map_toArray, List.map_cons, List.map_nil, e23]; go_simp) ((HC2.out w1 (((Gr.drew wA).trans hG).rd hbA)).mono fun e w2 ⟨v, he, ho, hb⟩ => ⟨_, he, (by unfold CopyV; rw [hBBl]; exact own_lower ho ((Gr.drew wA).trans hG).size), hb⟩)
      · intro a1 w1 hG hF
        exact s_same rfl (wants0 rfl) (.tmp 21) (.inl rfl) (hF.dp 2 21 (by kernel_rfl))
      · intro a1 w1 hG hF
        exact s_same rfl (wants0 rfl) (.tmp 24) (.inl rfl) (hF.dp 5 24 (by kernel_rfl))
    · intro vs w1 hG hf
      have y6 : (CopyV wA.heap.size 5 WI) (vs 6) w1 := hf.2.2.2.2.2.2.1
      have y7 : (CopyV wA.heap.size 5 BB) (vs 7) w1 := hf.2.2.2.2.2.2.2.1
      clear hf
      simp only [putAll, Nat.zero_add, Nat.reduceAdd]
      have hG4 := (Gr.drew wA).trans hG
      obtain ⟨A6, c6, z6', hc6, hA6, hr6⟩ := own_form3 y6
      obtain ⟨A7, c7, z7', hc7, hA7, hr7⟩ := own_form3 y7
      rw [z6', z7']
      rw [z6'] at y6
      rw [z7'] at y7
      unfold CopyV at y6 y7
      rw [hWIl] at y6 hc6 hA6 hr6 ⊢
      rw [hBBl] at y7 hc7 hA7 hr7 ⊢
      have hV4 := hV1.gr hG4
      have h34 := h32.gr hG4
      have gw4 := gwA.gr hG4
      have hG04 := hG02.trans hG4
      have s6 : RdS mapT w.heap.size w1 A6 k1 (u8s WI) := rdS_copy y6 mapT2
      have s7 : RdS mapT w.heap.size w1 A7 k2 (u8s BB) := rdS_copy y7 mapT2
      generalize w1 = w4 at hV4 h34 gw4 hG04 hr6 hr7 s6 s7 ⊢
      clear hG4 hG hV1 h32 gwA hG02 hrA hbA c1 c2 c3 c4 c5 z6' z7' y6 y7
      have c1 := h34.cell (i := 1) (v := .int .i64 ze) rfl
      have c2 := h34.cell (i := 2) (v := .int .i64 zc) rfl
      have c3 := h34.cell (i := 3) (v := .int .i64 zk) rfl
      go_simp
      by_cases hR : Right ze zc zk
      · obtain ⟨e, rfl⟩ : ∃ q : Nat, ze = (q : Int) := ⟨ze.toNat, by have := hR.1; omega⟩
        obtain ⟨cl, rfl⟩ : ∃ q : Nat, zc = (q : Int) := ⟨zc.toNat, by have := hR.2.2.1; omega⟩
        obtain ⟨k, rfl⟩ : ∃ q : Nat, zk = (q : Int) := ⟨zk.toNat, by have := hR.2.2.2.2.1; omega⟩
        go_wp2_with fail
        refine (vseal_any hV4 mapT_own (fun _ _ _ _ => rfl) e cl k hR (by simp [Vt.spent]) A6 k1 c6 WI A7 k2 c7 BB (by omega) (by omega) hc7 hr6 hr7 hA7 (by simp) gw4).mono ?_
        rintro r w5 ⟨x, rfl, ho5, hV5, hT5⟩
        obtain ⟨A8, c8, rfl, hc8, _⟩ := own_form ho5
        obtain ⟨X, hX⟩ : ∃ X, X = (⟨true, K, [], []⟩ : Vt).out e cl k WI BB := ⟨_, rfl⟩
        rw [← hX] at ho5
        have s8 : RdS mapT w.heap.size w5 A8 (k2 + 16) (u8s X) := rdS_copy ho5 mapT2
        have s65 := s6.tn (hT5.wide mapT_own)
        have s75 := s7.tn (hT5.wide mapT_own)
        have h35 := h34.tnV hT5
        have gw5 := gw4.tn hT5
        have hT05 := (Tn.of_gr (τ := ownV b1 b2 b3) (B := w.heap.size) hG04).trans hT5
        clear c1 c2 c3 hV4 h34 gw4 hG04 hr6 hr7 s6 s7 hT5 ho5
        go_wp2_with fail
        refine (HVs.out w5 gw5).mono ?_
        rintro r w6 ⟨rfl, hG6⟩
        have hV6 := hV5.gr hG6
        have h36 := h35.gr hG6
        have gw6 := gw5.gr hG6
        have s66 := s65.gr hG6
        have s76 := s75.gr hG6
        have s86 := s8.gr hG6
        have hT06 := hT05.gr hG6
        clear hV5 h35 gw5 s65 s75 s8 hG6 hT05
        have c1 := h36.cell (i := 1) (v := .int .i64 (e : Int)) rfl
        have c2 := h36.cell (i := 2) (v := .int .i64 (cl : Int)) rfl
        have c3 := h36.cell (i := 3) (v := .int .i64 (k : Int)) rfl
        go_wp2_with fail
        refine (vopen_any hV6 e cl k hR (by simp [Vt.put, hBBl]; omega) A6 k1 c6 WI A8 (k2 + 16) c8 X (by omega) (by omega) (by omega) hc8 s66.rd s86.rd gw6).mono ?_
        rintro r w7 ⟨⟨q, hop, A10, c10, rfl, hc10, hr10⟩, hG7⟩
        rw [hX] at hop
        have hq := put_opens (v := ⟨true, K, [], []⟩) (by simp [Vt.spent]) hop
        subst hq
        have hV7 := hV6.gr hG7
        have h37 := h36.gr hG7
        have s77 := s76.gr hG7
        have hT07 := hT06.gr hG7
        rw [show (BB, 0).1.length = k2 from hBBl] at hr10 hc10 ⊢
        clear hX hop hV6 h36 gw6 s66 s76 s86 hT06 c1 c2 c3
        have c1 := h37.cell (i := 1) (v := .int .i64 (e : Int)) rfl
        have c2 := h37.cell (i := 2) (v := .int .i64 (cl : Int)) rfl
        have c3 := h37.cell (i := 3) (v := .int .i64 (k : Int)) rfl
        go_wp2_with fail
        refine (vseal_spent hV7 e cl k hR ⟨_, List.mem_singleton.2 rfl, rfl, rfl⟩ _ _).mono ?_
        rintro r w8 ⟨rfl, hG8⟩
        have hr108 := hG8.rd hr10
        have s78 := s77.gr hG8
        have hT9 := (hT07.gr hG8).below (Nat.le_refl _)
        have hcs1 : (convert 27 9 (.slice A10 k2 c10)).run Tryd.prog w8 = .ok (.string sB) w8 := by rw [HSB.out]; exact run_str (P := Tryd.prog) (c := c10) w8 Tryd.underlying27 Tryd.underlying5 Tryd.underlying9 hr108
        have hcs2 : (convert 27 9 (.slice A7 k2 c7)).run Tryd.prog w8 = .ok (.string sB) w8 := by rw [HSB.out]; exact run_str (P := Tryd.prog) (c := c7) w8 Tryd.underlying27 Tryd.underlying5 Tryd.underlying9 s78.rd
        clear hV7 h37 s77 hT07 hG8 hr10 hr108 s78 c1 c2 c3 hG7
        go_wp2_with fail
        go_ret
        exact ⟨rfl, hT9⟩
      · go_wp2_with fail
        refine (vseal_bad g ze zc zk hR _ _ w4).mono ?_
        rintro r w5 ⟨rfl, hG5⟩
        have gw5 := gw4.gr hG5
        have hG05 := hG04.trans hG5
        go_wp2_with fail
        refine (HVs.out w5 gw5).mono ?_
        rintro r w6 ⟨rfl, hG6⟩
        have gw6 := gw5.gr hG6
        have hG06 := hG05.trans hG6
        go_wp2_with fail
        refine (HVs.out w6 gw6).mono ?_
        rintro r w7 ⟨rfl, hG7⟩
        have hG07 := hG06.trans hG7
        go_wp2_with fail
        go_ret
        exact ⟨rfl, hG07⟩
end Go.Proofs.YtnmhfomnlnlflaaDoor

