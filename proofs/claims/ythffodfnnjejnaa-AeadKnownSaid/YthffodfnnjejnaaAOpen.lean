/- The walk of aead's Open. No condition. -/
import Derived.Test.YthffodfnnjejnaaASeal
import Derived.Test.YthffodfnnjejnaaKitA
namespace Go.Proofs.Ythffodfnnjejnaa
open Go.RowKit
/-- What Open answers: the bytes end too soon; they aren't what was sealed; they are. -/
def OpenQ (K N W s : List UInt8) (e : Ending) (w' : World) : Prop :=
  (s.length < 16 ∧ e = .returned (.tuple #[.slice none 0 0, .int .i64 2])) ∨
  (16 ≤ s.length ∧ aTag K N W (s.take (s.length - 16)) ≠ s.drop (s.length - 16) ∧ e = .returned (.tuple #[.slice none 0 0, .int .i64 6])) ∨
  (16 ≤ s.length ∧ aTag K N W (s.take (s.length - 16)) = s.drop (s.length - 16) ∧ ∃ A c, e = .returned (.tuple #[.slice A (s.length - 16) c, .int .i64 0]) ∧ s.length - 16 ≤ c ∧ Rd w' A (s.length - 16) (u8s (hideL K N (s.take (s.length - 16)))))
theorem below_drewN (w : World) (B k : Nat) : Below B w (w.drewN k) := below_dr ⟨k, rfl⟩
set_option maxRecDepth 100000 in
set_option maxHeartbeats 8000000 in
theorem open_any (K : List UInt8) (hK : K.length = 32) (N : List UInt8) (hN : N.length = 12) (A : Option Addr) (n c : Nat) (W : List UInt8) (B : Option Addr) (m d : Nat) (s : List UInt8) (hn : n ≤ 90000) (hm : m ≤ 90000) (hmd : m ≤ d) (w : World) (hr : Rd w A n (u8s W)) (hb : Rd w B m (u8s s)) :
    Calls Try.prog 9 #[.agg (u8s K).toArray, .agg (u8s N).toArray, .slice A n c, .slice B m d] w fun e w' => OpenQ K N W s e w' ∧ Below w.heap.size w w' := by
  have hsl : s.length = m := by simpa using hb.1
  have iK := info22 K hK
  have iN := info24 N hN
  have h4 : Arr ((w.alloc (.cells (u8s K).toArray 22)).alloc (.cells (u8s N).toArray 23)) w.heap.size 22 (u8s K) := Arr.alloc (Arr.newAt rfl rfl) _
  have h5 : Arr ((w.alloc (.cells (u8s K).toArray 22)).alloc (.cells (u8s N).toArray 23)) (w.heap.size + 1) 23 (u8s N) := Arr.newAt (asz _ _) rfl
  have G0 : Gr w ((w.alloc (.cells (u8s K).toArray 22)).alloc (.cells (u8s N).toArray 23)) := (Gr.alloc _ _).trans (Gr.alloc _ _)
  by_cases h16 : m < 16
  · have hneg : (m : Int) - 16 < 0 := by omega
    have HX : Hid (s.length < 16) := by show _ < _; omega
    clear hsl
    go_enter Try.func9, Try.ntmps9
    go_wp2_with fail
    refine bodyPost_ret (results_tmp2 rfl _ _ _) rfl ?_
    exact ⟨.inl ⟨HX.out, rfl⟩, G0⟩
  · obtain ⟨j, hj⟩ : ∃ j : Nat, m = j + 16 := ⟨m - 16, by omega⟩
    subst hj
    have hji : (((j + 16 : Nat) : Int) - 16) = (j : Int) := by omega
    have hnn : ¬ (j : Int) < 0 := by omega
    have e1 : s.length - 16 = j := by omega
    obtain ⟨C, hC⟩ : ∃ C, C = s.take j := ⟨_, rfl⟩
    obtain ⟨E, hE⟩ : ∃ E, E = s.drop j := ⟨_, rfl⟩
    have hCl : C.length = j := by rw [hC, List.length_take]; omega
    have hEl : E.length = 16 := by rw [hE, List.length_drop]; omega
    have hbC : Rd w B j (u8s C) := by rw [hC, ← u8s_take]; exact hb.take (by omega)
    have hbE : Rd w (cutA B d j) 16 (u8s E) := by
      have := hb.cutL (lo := j) (c := d) (by omega) hmd
      rw [hE, ← u8s_drop]
      rwa [show j + 16 - j = 16 by omega] at this
    obtain ⟨T, hT⟩ : ∃ T, T = aTag K N W C := ⟨_, rfl⟩
    have hTl : T.length = 16 := by rw [hT]; simp
    have HQ1 : Hid (T ≠ E → ∀ w', OpenQ K N W s (.returned (.tuple #[.slice none 0 0, .int .i64 6])) w') := fun h w' => .inr (.inl ⟨by omega, by rw [e1, ← hC, ← hE, ← hT]; exact h, rfl⟩)
    have HQ2 : Hid (T = E → ∀ A c w', j ≤ c → Rd w' A j (u8s (hideL K N C)) → OpenQ K N W s (.returned (.tuple #[.slice A j c, .int .i64 0])) w') := fun h A c w' hc hr => .inr (.inr ⟨by omega, by rw [e1, ← hC, ← hE, ← hT]; exact h, A, c, by rw [e1], by rw [e1]; exact hc, by rw [e1, ← hC]; exact hr⟩)
    have HT : Hid (∀ w d, Rd w A n (u8s W) → Rd w B j (u8s C) → Calls Try.prog 14 #[.agg (u8s K).toArray, .agg (u8s N).toArray, .slice A n c, .slice B j d] w fun e w' => e = .returned (.agg (u8s T).toArray) ∧ Below w.heap.size w w') := by
      intro w d hr hb
      rw [hT]
      exact aTag_any K hK N hN A n c W B j d C (by omega) (by omega) w hr hb
    have HS : Hid (∀ w, Rd w B j (u8s C) → Calls Try.prog 13 #[.agg (u8s K).toArray, .int .u32 1, .agg (u8s N).toArray, .slice B j d] w fun e w' => ∃ v, e = .returned v ∧ w'.ownsRow w.heap.size 5 1 v j (u8s (hideL K N C)) ∧ Below w.heap.size w w') := by
      intro w hb
      exact stream_any K hK 1 N hN B j d C (by omega) (by omega) w hb
    have HM : Hid (∀ w g, Rd w (some ⟨g, 0, none⟩) 16 (u8s T) → Rd w (cutA B d j) 16 (u8s E) → Calls Try.prog 15 #[.slice (some ⟨g, 0, none⟩) 16 16, .slice (cutA B d j) 16 (d - j)] w fun e w' => e = .returned (.bool (decide (T = E))) ∧ Below w.heap.size w w') := by
      intro w g h1 h2
      refine (same_any _ _ 16 16 (d - j) T E (by omega) w h1 h2).mono ?_
      rintro e w' ⟨he, k, rfl⟩
      exact ⟨he, below_drewN _ _ _⟩
    have HC1 := Lib.hid fun w1 => run_cut_h (P := Try.prog) Try.underlying26 (by kernel_rfl) (A := B) (n := j + 16) (c := d) (hi := j) (h := (j : Int)) rfl (by omega) w1
    have HC2 : Hid (∀ w1, (Instr.sliceAt 26 (.slice B (j + 16) d) (some (.int .i64 (j : Int))) none none).run Try.prog w1 = .ok (.slice (cutA B d j) 16 (d - j)) w1) := by
      intro w1
      rw [run_cut_l (P := Try.prog) (lo := j) Try.underlying26 (by kernel_rfl) rfl (by omega), show j + 16 - j = 16 by omega]
    clear hT hC hE e1 hsl h16
    go_enter Try.func9, Try.ntmps9
    go_upto_region 4 with fail
    generalize (w.alloc (.cells (u8s K).toArray 22)).alloc (.cells (u8s N).toArray 23) = w0 at h4 h5 G0 ⊢
    generalize w.heap.size + 1 = g5 at h5 ⊢
    obtain ⟨g4, hg4⟩ : ∃ g, g = w.heap.size := ⟨_, rfl⟩
    rw [← hg4] at h4
    simp only [← hg4]
    have HG4 := Lib.hid hg4
    clear hg4
    have hr0 := G0.rd hr
    have hbC0 := G0.rd hbC
    have hbE0 := G0.rd hbE
    refine wp_region_cut (by kernel_rfl) [IsV (.agg (u8s K).toArray), IsV (.agg (u8s N).toArray), IsV (.slice A n c), IsV (.slice B (j + 16) d), IsV (.int .i64 ((j : Nat) : Int)), IsV (.slice B j d), IsV (.agg (u8s T).toArray), NewA w0.heap.size 38 (u8s (List.replicate 16 0))] 8 (by decide) (by kernel_rfl) (by kernel_rfl) (by kernel_rfl) ?_ ?_ ?_
    · intro φ hφ v w1 w2 h hg
      simp only [List.mem_cons, List.not_mem_nil, or_false] at hφ
      rcases hφ with rfl | rfl | rfl | rfl | rfl | rfl | rfl | rfl
      all_goals first | exact h | exact RdV.gr h hg | exact NewA.gr h hg
    · refine ⟨?_, ?_, ?_, ?_, ?_, ?_, ?_, ?_, trivial⟩
      · intro a1 w1 hG hF
        have e4 : a1.eval (.tmp 4) = .pointer (some ⟨g4, 0, none⟩) := hF.ol 4 (by kernel_rfl)
        exact s_wp rfl (wants0 rfl) (wp_load_mid _ _ rfl g4 0 e4 (u8s K) _ (Arr.gr h4 ((Gr.drew w0).trans hG)).range Try.underlying22 rfl iK ⟨_, rfl, rfl, Gr.refl _⟩)
      · intro a1 w1 hG hF
        have e5 : a1.eval (.tmp 5) = .pointer (some ⟨g5, 0, none⟩) := hF.ol 5 (by kernel_rfl)
        exact s_wp rfl (wants0 rfl) (wp_load_mid _ _ rfl g5 0 e5 (u8s N) _ (Arr.gr h5 ((Gr.drew w0).trans hG)).range Try.underlying23 rfl iN ⟨_, rfl, rfl, Gr.refl _⟩)
      · intro a1 w1 hG hF
        exact s_old rfl (wants0 rfl) (.tmp 2) (.inr rfl) (.slice A n c) (hF.ol 2 (by kernel_rfl)) rfl
      · intro a1 w1 hG hF
        exact s_old rfl (wants0 rfl) (.tmp 3) (.inr rfl) (.slice B (j + 16) d) (hF.ol 3 (by kernel_rfl)) rfl
      · intro a1 w1 hG hF
        exact s_old rfl (wants0 rfl) (.tmp 10) (.inr rfl) (.int .i64 ((j : Nat) : Int)) (hF.ol 10 (by kernel_rfl)) rfl
      · intro a1 w1 hG hF
        obtain ⟨_, e20, rfl⟩ := hF.dp 3 20 (by kernel_rfl)
        obtain ⟨_, e21, rfl⟩ := hF.dp 4 21 (by kernel_rfl)
        exact s_is rfl (wants0 rfl) _ rfl (by simp only [execOp, e20, e21, Option.map, Sem.run_bind, HC1.out, Result.andThen_ok, Sem.run_pure])
      · intro a1 w1 hG hF
        obtain ⟨_, e17, rfl⟩ := hF.dp 0 17 (by kernel_rfl)
        obtain ⟨_, e18, rfl⟩ := hF.dp 1 18 (by kernel_rfl)
        obtain ⟨_, e19, rfl⟩ := hF.dp 2 19 (by kernel_rfl)
        obtain ⟨_, e22, rfl⟩ := hF.dp 5 22 (by kernel_rfl)
        exact s_call rfl (wants0 rfl) _ rfl _ _ (by simp only [execOp, resolve, invoke, List.map_toArray, List.map_cons, List.map_nil, e17, e18, e19, e22]; go_simp) ((HT.out w1 d (((Gr.drew w0).trans hG).rd hr0) (((Gr.drew w0).trans hG).rd hbC0)).mono fun e w2 ⟨he, hb⟩ => ⟨_, he, rfl, hb⟩)
      · intro a1 w1 hG hF
        exact s_val rfl (wants0 rfl) _ rfl _ (w1.alloc (.cells (u8s (List.replicate 16 0)).toArray 38)) (by simp only [execOp]; go_simp; kernel_rfl) ⟨_, rfl, ((Gr.drew w0).trans hG).size, Arr.newAt rfl rfl⟩ (Gr.alloc _ _)
    · intro vs w1 hG hf
      have z23 : vs 6 = .agg (u8s T).toArray := hf.2.2.2.2.2.2.1
      have y11 : (NewA w0.heap.size 38 (u8s (List.replicate 16 0))) (vs 7) w1 := hf.2.2.2.2.2.2.2.1
      clear hf
      simp only [List.take_succ_cons, List.take_zero, List.drop_succ_cons, List.drop_zero, putAll, Nat.zero_add, Nat.reduceAdd, z23]
      have hG1 := (Gr.drew w0).trans hG
      obtain ⟨g11, z11, n11, h11⟩ := y11
      rw [z11]
      refine wpList_put h11 rfl 38 (.tmp 11) (.tmp 23) rfl (u8s T) (by kernel_rfl) (by kernel_rfl) (by simp [hTl]) (info16 T hTl) (u8s_oneCell _) ?_
      intro w2 h112 hB2 _
      have G2 : Gr w0 w2 := Below.trans hG1 (hB2.mono n11)
      have hbC2 := G2.rd hbC0
      have hbE2 := G2.rd hbE0
      have h42 := h4.gr G2
      have h52 := h5.gr G2
      have hB2 : Below w.heap.size w w2 := Below.trans G0 (Below.mono G2 G0.size)
      have hr11 := h112.rdAll hTl
      clear hG1 hG h11 h112 G2 hbC0 hbE0 h4 h5 G0 z11 n11 HT hr0
      unfold wpList
      go_simp
      by_cases hTE : T = E
      · have HM2 : Hid (∀ w, Rd w (some ⟨g11, 0, none⟩) 16 (u8s T) → Rd w (cutA B d j) 16 (u8s E) → Calls Try.prog 15 #[.slice (some ⟨g11, 0, none⟩) 16 16, .slice (cutA B d j) 16 (d - j)] w fun e w' => e = .returned (.bool true) ∧ Below w.heap.size w w') := by
          intro w h1 h2
          have := HM.out w g11 h1 h2
          rwa [decide_eq_true hTE] at this
        have HQ := Lib.hid (HQ2.out hTE)
        clear HM HQ1 HQ2 hTE
        go_wp2_with fail
        refine wp_region_ssaL (by kernel_rfl) [IsV (.slice (some ⟨g11, 0, none⟩) 16 16), IsV (.slice B (j + 16) d), IsV (.int .i64 ((j : Nat) : Int)), IsV (.slice (cutA B d j) 16 (d - j)), IsV (.bool true), IsV (.bool false)] (by kernel_rfl) ?_ ?_ ?_
        · intro φ hφ v w1 w2 h hg
          simp only [List.mem_cons, List.not_mem_nil, or_false] at hφ
          rcases hφ with rfl | rfl | rfl | rfl | rfl | rfl
          all_goals first | exact h | exact RdV.gr h hg
        · refine ⟨?_, ?_, ?_, ?_, ?_, ?_, trivial⟩
          · intro a1 w1 hG hF
            have e11 : a1.eval (.tmp 11) = .pointer (some ⟨g11, 0, none⟩) := hF.ol 11 (by kernel_rfl)
            exact s_is rfl (wants0 rfl) _ rfl (by simp only [execOp, e11, Option.map, Sem.run_bind, run_cutAll (P := Try.prog) Try.underlying38 (by kernel_rfl), Result.andThen_ok, Sem.run_pure])
          · intro a1 w1 hG hF
            exact s_old rfl (wants0 rfl) (.tmp 3) (.inr rfl) (.slice B (j + 16) d) (hF.ol 3 (by kernel_rfl)) rfl
          · intro a1 w1 hG hF
            exact s_old rfl (wants0 rfl) (.tmp 10) (.inr rfl) (.int .i64 ((j : Nat) : Int)) (hF.ol 10 (by kernel_rfl)) rfl
          · intro a1 w1 hG hF
            obtain ⟨_, e25, rfl⟩ := hF.dp 1 25 (by kernel_rfl)
            obtain ⟨_, e26, rfl⟩ := hF.dp 2 26 (by kernel_rfl)
            exact s_is rfl (wants0 rfl) _ rfl (by simp only [execOp, e25, e26, Option.map, Sem.run_bind, HC2.out, Result.andThen_ok, Sem.run_pure])
          · intro a1 w1 hG hF
            obtain ⟨_, e24, rfl⟩ := hF.dp 0 24 (by kernel_rfl)
            obtain ⟨_, e27, rfl⟩ := hF.dp 3 27 (by kernel_rfl)
            exact s_call rfl (wants0 rfl) _ rfl _ _ (by simp only [execOp, resolve, invoke, List.map_toArray, List.map_cons, List.map_nil, e24, e27]; go_simp) ((HM2.out w1 (((Gr.drew w2).trans hG).rd hr11) (((Gr.drew w2).trans hG).rd hbE2)).mono fun e w2 ⟨he, hb⟩ => ⟨_, he, rfl, hb⟩)
          · intro a1 w1 hG hF
            obtain ⟨_, e28, rfl⟩ := hF.dp 4 28 (by kernel_rfl)
            exact s_is rfl (wants0 rfl) _ rfl (by simp only [execOp, e28]; go_simp)
        · intro vs w1 hG hf
          have z29 : vs 5 = .bool false := hf.2.2.2.2.2.1
          clear hf
          simp only [putAll, Nat.zero_add, Nat.reduceAdd, z29]
          have hG2 := (Gr.drew w2).trans hG
          have hbC3 := hG2.rd hbC2
          have h43 := h42.gr hG2
          have h53 := h52.gr hG2
          have hB3 := hB2.trans (hG2.mono hB2.size)
          generalize w1 = w3 at hbC3 h43 h53 hB3 ⊢
          clear hG2 hG hbC2 h42 h52 hB2
          go_simp
          go_wp2_with fail
          refine wp_region_ssaL (by kernel_rfl) [IsV (.agg (u8s K).toArray), IsV (.agg (u8s N).toArray), IsV (.slice B (j + 16) d), IsV (.int .i64 ((j : Nat) : Int)), IsV (.slice B j d), RdV (j) (hideL K N C), RdV (j) (hideL K N C), IsV (.int .i64 ((0 : Nat) : Int))] (by kernel_rfl) ?_ ?_ ?_
          · intro φ hφ v w1 w2 h hg
            simp only [List.mem_cons, List.not_mem_nil, or_false] at hφ
            rcases hφ with rfl | rfl | rfl | rfl | rfl | rfl | rfl | rfl
            all_goals first | exact h | exact RdV.gr h hg
          · refine ⟨?_, ?_, ?_, ?_, ?_, ?_, ?_, ?_, trivial⟩
            · intro a1 w1 hG hF
              have e4 : a1.eval (.tmp 4) = .pointer (some ⟨g4, 0, none⟩) := hF.ol 4 (by kernel_rfl)
              exact s_wp rfl (wants0 rfl) (wp_load_mid _ _ rfl g4 0 e4 (u8s K) _ (Arr.gr h43 ((Gr.drew w3).trans hG)).range Try.underlying22 rfl iK ⟨_, rfl, rfl, Gr.refl _⟩)
            · intro a1 w1 hG hF
              have e5 : a1.eval (.tmp 5) = .pointer (some ⟨g5, 0, none⟩) := hF.ol 5 (by kernel_rfl)
              exact s_wp rfl (wants0 rfl) (wp_load_mid _ _ rfl g5 0 e5 (u8s N) _ (Arr.gr h53 ((Gr.drew w3).trans hG)).range Try.underlying23 rfl iN ⟨_, rfl, rfl, Gr.refl _⟩)
            · intro a1 w1 hG hF
              exact s_old rfl (wants0 rfl) (.tmp 3) (.inr rfl) (.slice B (j + 16) d) (hF.ol 3 (by kernel_rfl)) rfl
            · intro a1 w1 hG hF
              exact s_old rfl (wants0 rfl) (.tmp 10) (.inr rfl) (.int .i64 ((j : Nat) : Int)) (hF.ol 10 (by kernel_rfl)) rfl
            · intro a1 w1 hG hF
              obtain ⟨_, e32, rfl⟩ := hF.dp 2 32 (by kernel_rfl)
              obtain ⟨_, e33, rfl⟩ := hF.dp 3 33 (by kernel_rfl)
              exact s_is rfl (wants0 rfl) _ rfl (by simp only [execOp, e32, e33, Option.map, Sem.run_bind, HC1.out, Result.andThen_ok, Sem.run_pure])
            · intro a1 w1 hG hF
              obtain ⟨_, e30, rfl⟩ := hF.dp 0 30 (by kernel_rfl)
              obtain ⟨_, e31, rfl⟩ := hF.dp 1 31 (by kernel_rfl)
              obtain ⟨_, e34, rfl⟩ := hF.dp 4 34 (by kernel_rfl)
              exact s_call rfl (wants0 rfl) _ rfl _ _ (by simp only [execOp, resolve, invoke, List.map_toArray, List.map_cons, List.map_nil, e30, e31, e34]; go_simp) ((HS.out w1 (((Gr.drew w3).trans hG).rd hbC3)).mono fun e w2 ⟨v, he, ho, hb⟩ => ⟨_, he, RdV.own ho, hb⟩)
            · intro a1 w1 hG hF
              exact s_same rfl (wants0 rfl) (.tmp 35) (.inl rfl) (hF.dp 5 35 (by kernel_rfl))
            · intro a1 w1 hG hF
              exact s_old rfl (wants0 rfl) _ (.inl rfl) _ rfl rfl
          · intro vs w1 hG hf
            obtain ⟨A8, c8, z8, hc8, r8⟩ : RdV (j) (hideL K N C) (vs 6) w1 := hf.2.2.2.2.2.2.1
            have z9 : vs 7 = .int .i64 ((0 : Nat) : Int) := hf.2.2.2.2.2.2.2.1
            clear hf
            simp only [putAll, Nat.zero_add, Nat.reduceAdd, z8, z9]
            have hG3 := (Gr.drew w3).trans hG
            go_simp
            go_wp2_with fail
            refine bodyPost_ret (results_tmp2 rfl _ _ _) rfl ?_
            rw [HG4.out] at *
            exact ⟨HQ.out _ _ _ hc8 r8, hB3.trans (hG3.mono hB3.size)⟩
      · have HM2 : Hid (∀ w, Rd w (some ⟨g11, 0, none⟩) 16 (u8s T) → Rd w (cutA B d j) 16 (u8s E) → Calls Try.prog 15 #[.slice (some ⟨g11, 0, none⟩) 16 16, .slice (cutA B d j) 16 (d - j)] w fun e w' => e = .returned (.bool false) ∧ Below w.heap.size w w') := by
          intro w h1 h2
          have := HM.out w g11 h1 h2
          rwa [decide_eq_false hTE] at this
        have HQ := Lib.hid (HQ1.out hTE)
        clear HM HQ1 HQ2 hTE
        go_wp2_with fail
        refine wp_region_ssaL (by kernel_rfl) [IsV (.slice (some ⟨g11, 0, none⟩) 16 16), IsV (.slice B (j + 16) d), IsV (.int .i64 ((j : Nat) : Int)), IsV (.slice (cutA B d j) 16 (d - j)), IsV (.bool false), IsV (.bool true)] (by kernel_rfl) ?_ ?_ ?_
        · intro φ hφ v w1 w2 h hg
          simp only [List.mem_cons, List.not_mem_nil, or_false] at hφ
          rcases hφ with rfl | rfl | rfl | rfl | rfl | rfl
          all_goals first | exact h | exact RdV.gr h hg
        · refine ⟨?_, ?_, ?_, ?_, ?_, ?_, trivial⟩
          · intro a1 w1 hG hF
            have e11 : a1.eval (.tmp 11) = .pointer (some ⟨g11, 0, none⟩) := hF.ol 11 (by kernel_rfl)
            exact s_is rfl (wants0 rfl) _ rfl (by simp only [execOp, e11, Option.map, Sem.run_bind, run_cutAll (P := Try.prog) Try.underlying38 (by kernel_rfl), Result.andThen_ok, Sem.run_pure])
          · intro a1 w1 hG hF
            exact s_old rfl (wants0 rfl) (.tmp 3) (.inr rfl) (.slice B (j + 16) d) (hF.ol 3 (by kernel_rfl)) rfl
          · intro a1 w1 hG hF
            exact s_old rfl (wants0 rfl) (.tmp 10) (.inr rfl) (.int .i64 ((j : Nat) : Int)) (hF.ol 10 (by kernel_rfl)) rfl
          · intro a1 w1 hG hF
            obtain ⟨_, e25, rfl⟩ := hF.dp 1 25 (by kernel_rfl)
            obtain ⟨_, e26, rfl⟩ := hF.dp 2 26 (by kernel_rfl)
            exact s_is rfl (wants0 rfl) _ rfl (by simp only [execOp, e25, e26, Option.map, Sem.run_bind, HC2.out, Result.andThen_ok, Sem.run_pure])
          · intro a1 w1 hG hF
            obtain ⟨_, e24, rfl⟩ := hF.dp 0 24 (by kernel_rfl)
            obtain ⟨_, e27, rfl⟩ := hF.dp 3 27 (by kernel_rfl)
            exact s_call rfl (wants0 rfl) _ rfl _ _ (by simp only [execOp, resolve, invoke, List.map_toArray, List.map_cons, List.map_nil, e24, e27]; go_simp) ((HM2.out w1 (((Gr.drew w2).trans hG).rd hr11) (((Gr.drew w2).trans hG).rd hbE2)).mono fun e w2 ⟨he, hb⟩ => ⟨_, he, rfl, hb⟩)
          · intro a1 w1 hG hF
            obtain ⟨_, e28, rfl⟩ := hF.dp 4 28 (by kernel_rfl)
            exact s_is rfl (wants0 rfl) _ rfl (by simp only [execOp, e28]; go_simp)
        · intro vs w1 hG hf
          have z29 : vs 5 = .bool true := hf.2.2.2.2.2.1
          clear hf
          simp only [putAll, Nat.zero_add, Nat.reduceAdd, z29]
          have hG2 := (Gr.drew w2).trans hG
          have hB3 := hB2.trans (hG2.mono hB2.size)
          go_simp
          go_wp2_with fail
          refine bodyPost_ret (results_tmp2 rfl _ _ _) rfl ?_
          rw [HG4.out] at *
          exact ⟨HQ.out _, hB3⟩
end Go.Proofs.Ythffodfnnjejnaa

