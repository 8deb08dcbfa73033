/- The walk of the law RingWalks. No condition. -/
import Derived.Test.YtmcnnjcbgbdeeaaDoorRLaw0
namespace Go.Proofs.YtmcnnjcbgbdeeaaDoor
open Go.RowKit
/-- Where the law's numbers stand. -/
def NumR (w : World) (i : Value) (wr : World) : Prop := ∃ z : Int, -1 ≤ z ∧ z ≤ 10 ∧ i = .int .i64 z ∧ Gr w wr
set_option maxRecDepth 100000 in
set_option maxHeartbeats 16000000 in
theorem law_walks (z1 z2 : Int) (K : List UInt8) (hK : K.length = 32) (w : World) (gw : Glob w) :
    Calls Tryd.prog 5 #[.int .i64 z1, .int .i64 z2, .agg (u8s K).toArray] w fun e w' => e = .returned (.bool true) ∧ Gr w w' := by
  have h5 : Arr (w.alloc (.cells (u8s K).toArray 23)) w.heap.size 23 (u8s K) := Arr.newAt rfl rfl
  have G0 : Gr w (w.alloc (.cells (u8s K).toArray 23)) := Gr.alloc _ _
  go_enter Tryd.func5, Tryd.ntmps5
  go_upto_region 1 with fail
  change Code.wp _ _ _ _ (w.alloc (.cells (u8s K).toArray 23))
  generalize w.alloc (.cells (u8s K).toArray 23) = w0 at h5 G0 ⊢
  obtain ⟨g5, hg⟩ : ∃ g, g = w.heap.size := ⟨_, rfl⟩
  rw [← hg] at h5
  simp only [← hg]
  clear hg
  have gw0 := gw.gr G0
  clear gw
  refine wp_region_ssaL (by kernel_rfl) [IsV (.pointer none), IsV (.agg (u8s (K)).toArray), IsV (.tuple #[.slice none 0 0, .int .i64 ((1 : Nat) : Int)]), IsV (.tuple #[.slice none 0 0, .int .i64 ((1 : Nat) : Int)]), IsV (.slice none 0 0), IsV (.int .i64 ((1 : Nat) : Int)), IsV (.slice none 0 0), IsV (.int .i64 ((1 : Nat) : Int))] (by kernel_rfl) ?_ ?_ ?_
  · intro φ hφ v w1 w2 h hg
    simp only [List.mem_cons, List.not_mem_nil, or_false] at hφ
    rcases hφ with rfl | rfl | rfl | rfl | rfl | rfl | rfl | rfl
    all_goals first | exact h | exact RdV.gr h hg
  · refine ⟨?_, ?_, ?_, ?_, ?_, ?_, ?_, ?_, trivial⟩
    · intro a1 w1 hG hF
      exact s_call rfl (wants0 rfl) _ rfl _ _ (by simp only [execOp, resolve, invoke, List.map_toArray, List.map_nil]; go_simp) ((none_any w1).mono fun e w2 ⟨he, hw⟩ => ⟨_, he, rfl, hw ▸ Gr.refl _⟩)
    · intro a1 w1 hG hF
      have e5 : a1.eval (.tmp 5) = .pointer (some ⟨g5, 0, none⟩) := hF.ol 5 (by kernel_rfl)
      exact s_is rfl (wants0 rfl) _ rfl (run_loadArr ⟨_, _, Tryd.underlying23⟩ (infoK K hK) e5 (h5.gr ((Gr.drew w0).trans hG)))
    · intro a1 w1 hG hF
      obtain ⟨_, e18, rfl⟩ := hF.dp 0 18 (by kernel_rfl)
      obtain ⟨_, e19, rfl⟩ := hF.dp 1 19 (by kernel_rfl)
      exact s_call rfl (wants0 rfl) _ rfl _ _ (by simp only [execOp, resolve, invoke, List.map_toArray, List.map_cons, List.map_nil, e18, e19]; go_simp) ((prefer_nil K 1 w1).mono fun e w2 ⟨he, hb⟩ => ⟨_, he, rfl, hb⟩)
    · intro a1 w1 hG hF
      exact s_same rfl (wants0 rfl) (.tmp 20) (.inr rfl) (hF.dp 2 20 (by kernel_rfl))
    · intro a1 w1 hG hF
      obtain ⟨_, e17, rfl⟩ := hF.dp 3 17 (by kernel_rfl)
      exact s_is rfl (wants0 rfl) _ rfl (by simp only [execOp, e17]; go_simp)
    · intro a1 w1 hG hF
      obtain ⟨_, e17, rfl⟩ := hF.dp 3 17 (by kernel_rfl)
      exact s_is rfl (wants0 rfl) _ rfl (by simp only [execOp, e17]; go_simp)
    · intro a1 w1 hG hF
      exact s_same rfl (wants0 rfl) (.tmp 21) (.inl rfl) (hF.dp 4 21 (by kernel_rfl))
    · intro a1 w1 hG hF
      exact s_same rfl (wants0 rfl) (.tmp 22) (.inl rfl) (hF.dp 5 22 (by kernel_rfl))
  · intro vs wA hG hf
    have z7 : vs 6 = .slice none 0 0 := hf.2.2.2.2.2.2.1
    have z8 : vs 7 = .int .i64 ((1 : Nat) : Int) := hf.2.2.2.2.2.2.2.1
    clear hf
    simp only [putAll, Nat.zero_add, Nat.reduceAdd, z7, z8]
    have hG1 := (Gr.drew w0).trans hG
    have h51 := h5.gr hG1
    have gw1 := gw0.gr hG1
    have G1 := Gr.trans G0 hG1
    clear hG hG1 h5 gw0 G0
    clear z7 z8
    go_simp
    go_upto_region 2 with fail
    refine wp_region_ssaL (by kernel_rfl) [IsV (.pointer none), IsV (.agg (u8s (K)).toArray), IsV (.tuple #[.slice none 0 0, .int .i64 ((1 : Nat) : Int)]), IsV (.tuple #[.slice none 0 0, .int .i64 ((1 : Nat) : Int)]), IsV (.slice none 0 0), IsV (.int .i64 ((1 : Nat) : Int)), IsV (.slice none 0 0), IsV (.int .i64 ((1 : Nat) : Int))] (by kernel_rfl) ?_ ?_ ?_
    · intro φ hφ v w1 w2 h hg
      simp only [List.mem_cons, List.not_mem_nil, or_false] at hφ
      rcases hφ with rfl | rfl | rfl | rfl | rfl | rfl | rfl | rfl
      all_goals first | exact h | exact RdV.gr h hg
    · refine ⟨?_, ?_, ?_, ?_, ?_, ?_, ?_, ?_, trivial⟩
      · intro a1 w1 hG hF
        exact s_call rfl (wants0 rfl) _ rfl _ _ (by simp only [execOp, resolve, invoke, List.map_toArray, List.map_nil]; go_simp) ((none_any w1).mono fun e w2 ⟨he, hw⟩ => ⟨_, he, rfl, hw ▸ Gr.refl _⟩)
      · intro a1 w1 hG hF
        have e5 : a1.eval (.tmp 5) = .pointer (some ⟨g5, 0, none⟩) := hF.ol 5 (by kernel_rfl)
        exact s_is rfl (wants0 rfl) _ rfl (run_loadArr ⟨_, _, Tryd.underlying23⟩ (infoK K hK) e5 (h51.gr ((Gr.drew wA).trans hG)))
      · intro a1 w1 hG hF
        obtain ⟨_, e24, rfl⟩ := hF.dp 0 24 (by kernel_rfl)
        obtain ⟨_, e25, rfl⟩ := hF.dp 1 25 (by kernel_rfl)
        exact s_call rfl (wants0 rfl) _ rfl _ _ (by simp only [execOp, resolve, invoke, List.map_toArray, List.map_cons, List.map_nil, e24, e25]; go_simp) ((stand_nil K 1 none 0 0 w1).mono fun e w2 ⟨he, hb⟩ => ⟨_, he, rfl, hb⟩)
      · intro a1 w1 hG hF
        exact s_same rfl (wants0 rfl) (.tmp 26) (.inr rfl) (hF.dp 2 26 (by kernel_rfl))
      · intro a1 w1 hG hF
        obtain ⟨_, e23, rfl⟩ := hF.dp 3 23 (by kernel_rfl)
        exact s_is rfl (wants0 rfl) _ rfl (by simp only [execOp, e23]; go_simp)
      · intro a1 w1 hG hF
        obtain ⟨_, e23, rfl⟩ := hF.dp 3 23 (by kernel_rfl)
        exact s_is rfl (wants0 rfl) _ rfl (by simp only [execOp, e23]; go_simp)
      · intro a1 w1 hG hF
        exact s_same rfl (wants0 rfl) (.tmp 27) (.inl rfl) (hF.dp 4 27 (by kernel_rfl))
      · intro a1 w1 hG hF
        exact s_same rfl (wants0 rfl) (.tmp 28) (.inl rfl) (hF.dp 5 28 (by kernel_rfl))
    · intro vs wB hG hf
      have z9 : vs 6 = .slice none 0 0 := hf.2.2.2.2.2.2.1
      have z10 : vs 7 = .int .i64 ((1 : Nat) : Int) := hf.2.2.2.2.2.2.2.1
      clear hf
      simp only [putAll, Nat.zero_add, Nat.reduceAdd, z9, z10]
      have hG2 := (Gr.drew wA).trans hG
      have h52 := h51.gr hG2
      have gw2 := gw1.gr hG2
      have G2 := Gr.trans G1 hG2
      clear hG hG2 h51 gw1 G1
      clear z9 z10
      go_simp
      by_cases hb : 1 ≤ z1 ∧ z1 ≤ 8 ∧ 1 ≤ z2 ∧ z2 ≤ 64
      · obtain ⟨hb1, hb2, hb3, hb4⟩ := hb
        obtain ⟨n, rfl⟩ : ∃ n : Nat, z1 = (n : Int) := ⟨z1.toNat, by omega⟩
        obtain ⟨q, rfl⟩ : ∃ q : Nat, z2 = (q : Int) := ⟨z2.toNat, by omega⟩
        have hn1 : 1 ≤ n := by omega
        have hn8 : n ≤ 8 := by omega
        have hq1 : 1 ≤ q := by omega
        have hq2 : q ≤ 64 := by omega
        have HNew := Lib.hid (new_any n q hn1 hn8 hq1 hq2 wB gw2)
        go_wp2_with fail
        refine HNew.out.mono ?_
        rintro e w3 ⟨gR, rfl, hR, hG3⟩
        have h53 := h52.gr hG3
        have gw3 := gw2.gr hG3
        have G3 := Gr.trans G2 hG3
        clear HNew h52 gw2 G2 hG3
        go_upto_region 4 with fail
        refine wp_region_ssaL (by kernel_rfl) [IsV (.bool true), IsV (.bool false), IsV (.bool false), IsV (.int .i64 ((1 : Nat) : Int)), IsV (.bool false), IsV (.bool false), IsV (.bool false), IsV (.int .i64 ((1 : Nat) : Int)), IsV (.bool false), IsV (.bool false), IsV (.bool false), IsV (.pointer none), IsV (.agg (u8s (K)).toArray), IsV (.slice none 0 0), IsV (.int .i64 ((0 : Nat) : Int)), IsV (.bool false), IsV (.bool false)] (by kernel_rfl) ?_ ?_ ?_
        · intro φ hφ v w1 w2 h hg
          simp only [List.mem_cons, List.not_mem_nil, or_false] at hφ
          rcases hφ with rfl | rfl | rfl | rfl | rfl | rfl | rfl | rfl | rfl | rfl | rfl | rfl | rfl | rfl | rfl | rfl | rfl
          all_goals first | exact h | exact RdV.gr h hg
        · refine ⟨?_, ?_, ?_, ?_, ?_, ?_, ?_, ?_, ?_, ?_, ?_, ?_, ?_, ?_, ?_, ?_, ?_, trivial⟩
          · intro a1 w1 hG hF
            exact s_call rfl (wants0 rfl) _ rfl _ _ (by simp only [execOp, resolve, invoke, List.map_toArray, List.map_nil]; go_simp) ((rings_any w1 (gw3.gr ((Gr.drew w3).trans hG))).mono fun e w2 ⟨he, hb⟩ => ⟨_, he, rfl, hb⟩)
          · intro a1 w1 hG hF
            obtain ⟨_, e35, rfl⟩ := hF.dp 0 35 (by kernel_rfl)
            exact s_is rfl (wants0 rfl) _ rfl (by simp only [execOp, e35]; go_simp)
          · intro a1 w1 hG hF
            exact s_same rfl (wants0 rfl) (.tmp 36) (.inr rfl) (hF.dp 1 36 (by kernel_rfl))
          · intro a1 w1 hG hF
            exact s_old rfl (wantsG hF 2 37 false rfl (by kernel_rfl) rfl) (.tmp 8) (.inr rfl) (.int .i64 ((1 : Nat) : Int)) (hF.ol 8 (by kernel_rfl)) rfl
          · intro a1 w1 hG hF
            obtain ⟨_, e38, rfl⟩ := hF.dp 3 38 (by kernel_rfl)
            exact s_is rfl (wantsG hF 2 37 false rfl (by kernel_rfl) rfl) _ rfl (by simp only [execOp, e38]; go_simp)
          · intro a1 w1 hG hF
            obtain ⟨_, e37, rfl⟩ := hF.dp 2 37 (by kernel_rfl)
            obtain ⟨_, e39, rfl⟩ := hF.dp 4 39 (by kernel_rfl)
            exact s_pickF rfl (wants0 rfl) (.tmp 37) _ (.tmp 39) rfl e37 _ e39 rfl
          · intro a1 w1 hG hF
            exact s_same rfl (wants0 rfl) (.tmp 40) (.inr rfl) (hF.dp 5 40 (by kernel_rfl))
          · intro a1 w1 hG hF
            exact s_old rfl (wantsG hF 6 41 false rfl (by kernel_rfl) rfl) (.tmp 10) (.inr rfl) (.int .i64 ((1 : Nat) : Int)) (hF.ol 10 (by kernel_rfl)) rfl
          · intro a1 w1 hG hF
            obtain ⟨_, e42, rfl⟩ := hF.dp 7 42 (by kernel_rfl)
            exact s_is rfl (wantsG hF 6 41 false rfl (by kernel_rfl) rfl) _ rfl (by simp only [execOp, e42]; go_simp)
          · intro a1 w1 hG hF
            obtain ⟨_, e41, rfl⟩ := hF.dp 6 41 (by kernel_rfl)
            obtain ⟨_, e43, rfl⟩ := hF.dp 8 43 (by kernel_rfl)
            exact s_pickF rfl (wants0 rfl) (.tmp 41) _ (.tmp 43) rfl e41 _ e43 rfl
          · intro a1 w1 hG hF
            exact s_same rfl (wants0 rfl) (.tmp 44) (.inr rfl) (hF.dp 9 44 (by kernel_rfl))
          · intro a1 w1 hG hF
            exact s_call rfl (wantsG hF 10 45 false rfl (by kernel_rfl) rfl) _ rfl _ _ (by simp only [execOp, resolve, invoke, List.map_toArray, List.map_nil]; go_simp) ((none_any w1).mono fun e w2 ⟨he, hw⟩ => ⟨_, he, rfl, hw ▸ Gr.refl _⟩)
          · intro a1 w1 hG hF
            have e5 : a1.eval (.tmp 5) = .pointer (some ⟨g5, 0, none⟩) := hF.ol 5 (by kernel_rfl)
            exact s_is rfl (wantsG hF 10 45 false rfl (by kernel_rfl) rfl) _ rfl (run_loadArr ⟨_, _, Tryd.underlying23⟩ (infoK K hK) e5 (h53.gr ((Gr.drew w3).trans hG)))
          · intro a1 w1 hG hF
            obtain ⟨_, e46, rfl⟩ := hF.dp 11 46 (by kernel_rfl)
            obtain ⟨_, e47, rfl⟩ := hF.dp 12 47 (by kernel_rfl)
            exact s_call rfl (wantsG hF 10 45 false rfl (by kernel_rfl) rfl) _ rfl _ _ (by simp only [execOp, resolve, invoke, List.map_toArray, List.map_cons, List.map_nil, e46, e47]; go_simp) ((walk_nil K w1).mono fun e w2 ⟨he, hb⟩ => ⟨_, he, rfl, hb⟩)
          · intro a1 w1 hG hF
            obtain ⟨_, e48, rfl⟩ := hF.dp 13 48 (by kernel_rfl)
            exact s_is rfl (wantsG hF 10 45 false rfl (by kernel_rfl) rfl) _ rfl (run_len_slice Tryd.underlying30 e48)
          · intro a1 w1 hG hF
            obtain ⟨_, e49, rfl⟩ := hF.dp 14 49 (by kernel_rfl)
            exact s_is rfl (wantsG hF 10 45 false rfl (by kernel_rfl) rfl) _ rfl (by simp only [execOp, e49]; go_simp)
          · intro a1 w1 hG hF
            obtain ⟨_, e45, rfl⟩ := hF.dp 10 45 (by kernel_rfl)
            obtain ⟨_, e50, rfl⟩ := hF.dp 15 50 (by kernel_rfl)
            exact s_pickF rfl (wants0 rfl) (.tmp 45) _ (.tmp 50) rfl e45 _ e50 rfl
        · intro vs w4 hG hf
          have z51 : vs 16 = .bool false := hf.2.2.2.2.2.2.2.2.2.2.2.2.2.2.2.2.1
          clear hf
          simp only [putAll, Nat.zero_add, Nat.reduceAdd, z51]
          have hG4 := (Gr.drew w3).trans hG
          have h54 := h53.gr hG4
          have hR4 := hR.gr hG4
          have G4 := Gr.trans G3 hG4
          clear hG hG4 h53 gw3 G3 hR z51
          go_simp
          obtain ⟨W, hW⟩ : ∃ W, W = nearL (nearOf atP (beNat (K.take 8)) q) n := ⟨_, rfl⟩
          have hWl : W.length = n := by rw [hW, nearL_length]
          have HWk : Hid (∀ w, RingAt w gR n q → Calls Tryd.prog 9 #[.pointer (some ⟨gR, 0, none⟩), .agg (u8s K).toArray] w fun e w' => ∃ u, e = .returned u ∧ w'.ownsRow w.heap.size 3 1 u n (numV W) ∧ Gr w w') := fun w h => by
            rw [hW]
            exact walkAt_any h hn1 hn8 hq1 hq2 K hK
          have HPf : Hid (∀ w, RingAt w gR n q → ∀ k : Nat, 1 ≤ k → k ≤ n → Calls Tryd.prog 11 #[.pointer (some ⟨gR, 0, none⟩), .agg (u8s K).toArray, .int .i64 (k : Int)] w fun e w' => PrefAt W k w e w') := fun w h k hk1 hk2 => by
            rw [hW]
            exact prefer_any h hn1 hn8 hq1 hq2 K hK k hk1 hk2
          have HPn : Hid (∀ w, RingAt w gR n q → ∀ z : Int, z < 1 ∨ (n : Int) < z → Calls Tryd.prog 11 #[.pointer (some ⟨gR, 0, none⟩), .agg (u8s K).toArray, .int .i64 z] w fun e w' => e = .returned (.tuple #[.slice none 0 0, .int .i64 1]) ∧ Gr w w') := fun w h z hz => prefer_no h K z hz
          have HRf : Hid (∀ w, Calls Tryd.prog 14 #[.string ⟨K.toArray⟩, .int .i64 (n : Int), .int .i64 (q : Int)] w fun e w' => ∃ v, e = .returned v ∧ w'.ownsRow w.heap.size 3 1 v n (numV W) ∧ Gr w w') := fun w => by
            rw [hW]
            exact refWalk_any K hK n q hn8 hq2 w
          have hcv : ∀ w, Rd w (some ⟨g5, 0, none⟩) 32 (u8s K) → (convert 42 9 (.slice (some ⟨g5, 0, none⟩) 32 32)).run Tryd.prog w = .ok (.string ⟨K.toArray⟩) w := fun w h => run_str w Tryd.underlying42 Tryd.underlying5 Tryd.underlying9 h
          have hcv4 := hcv w4 (h54.rdAll hK)
          have hcutA := fun w => run_cutAll (P := Tryd.prog) (g := g5) (w := w) Tryd.underlying23 (by kernel_rfl)
          obtain ⟨sK, hsK⟩ : ∃ s : ByteArray, s = ⟨K.toArray⟩ := ⟨_, rfl⟩
          rw [← hsK] at HRf hcv4
          have b1 : ¬ (n : Int) < 1 := by omega
          have b2 : ¬ 8 < (n : Int) := by omega
          have b3 : ¬ (q : Int) < 1 := by omega
          have b4 : ¬ 64 < (q : Int) := by omega
          clear hW hcv hsK hb1 hb2 hb3 hb4
          go_wp2_with fail
          refine (HRf.out w4).mono ?_
          rintro e w5 ⟨v, rfl, ho5, hG5⟩
          obtain ⟨A, c, rfl, hnc, _, hr5⟩ := own_form3 ho5
          have h55 := h54.gr hG5
          have hR5 := hR4.gr hG5
          have G5 := Gr.trans G4 hG5
          clear ho5 h54 hR4 G4 hG5 HRf hcv4 hcutA
          go_upto_region 9 with fail
          go_wp2_with first
            | (refine wpList_loadW rfl 23 (.tmp 5) rfl rfl h55 ⟨_, _, Tryd.underlying23⟩ (infoK K hK) ?_)
          refine (HWk.out w5 hR5).mono ?_
          rintro e w6 ⟨v, rfl, ho6, hG6⟩
          obtain ⟨A6, c6, rfl, _, _, hr6⟩ := own_form3 ho6
          have h56 := h55.gr hG6
          have hR6 := hR5.gr hG6
          have G6 := Gr.trans G5 hG6
          have hr5' := hG6.rd hr5
          have HS := Lib.hid (same_any A6 A n c6 n c W W w6 hr6 hr5' (by omega))
          rw [decide_eq_true rfl] at HS
          clear ho6 h55 hR5 G5 hG6 HWk hr5
          go_wp2_with fail
          refine HS.out.mono ?_
          rintro e w7 ⟨rfl, hG7⟩
          have h57 := h56.gr hG7
          have hR7 := hR6.gr hG7
          have G7 := Gr.trans G6 hG7
          have hr7 := hG7.rd hr5'
          clear HS hr5' hr6 G6 hG7 hR6 h56
          go_upto_region 12 with fail
          go_simp
          go_loopw [14] (fun i wr => NumR w7 i wr) (fun i _ => (10 - intOf i).toNat)
          case atStart => exact ⟨-1, by omega, by omega, rfl, Gr.refl _⟩
          case round =>
            obtain ⟨z, hz1, hz2, rfl, hG⟩ := hrel
            by_cases hlt : z ≤ 9
            · have h5r := h57.gr hG
              have hRr := hR7.gr hG
              have hrr := hG.rd hr7
              by_cases hin : 1 ≤ z ∧ z ≤ (n : Int)
              · obtain ⟨k, rfl⟩ : ∃ k : Nat, z = (k : Int) := ⟨z.toNat, by omega⟩
                have hk1 : 1 ≤ k := by omega
                have hkn : k ≤ n := by omega
                have c1 : ¬ (k : Int) < 1 := by omega
                have c2 : ¬ (n : Int) < (k : Int) := by omega
                have hcut := fun w => run_cut_h (P := Tryd.prog) (A := A) (n := n) (c := c) (hi := k) (h := (k : Int)) Tryd.underlying30 (by kernel_rfl) rfl (by omega) w
                have c3 : decide (n < k) = false := by simp; omega
                clear hin hz1 hz2
                go_wp2_with first
                  | (refine wpList_load_mid rfl 23 (.tmp 5) rfl g5 0 rfl (u8s K) _ h5r.range Tryd.underlying23 rfl (infoK K hK) ?_)
                refine (HPf.out wr hRr k hk1 hkn).mono ?_
                rintro e w8 ⟨Al, rfl, hl, hG8⟩
                have hr8 := (hG8.rd hrr).take hkn
                rw [numV_take] at hr8
                have HS := Lib.hid (same_any Al A k k k c (W.take k) (W.take k) w8 hl hr8 (by omega))
                rw [decide_eq_true rfl] at HS
                have G8 := Gr.trans hG hG8
                clear hl hrr hRr h5r hG hG8 hr8
                go_wp2_with fail
                refine HS.out.mono ?_
                rintro e w9 ⟨rfl, hG9⟩
                have G9 := Gr.trans G8 hG9
                clear HS G8 hG9 hcut
                go_wp2_with fail
                exact ⟨⟨(k : Int) + 1, by omega, by omega, by go_num, G9⟩, by simp [intOf]; omega⟩
              · have hout : z < 1 ∨ (n : Int) < z := by omega
                have hP := HPn.out wr hRr z hout
                clear hin hrr hRr
                rcases hout with c1 | c1
                · go_wp2_with first
                    | (refine wpList_load_mid rfl 23 (.tmp 5) rfl g5 0 rfl (u8s K) _ h5r.range Tryd.underlying23 rfl (infoK K hK) ?_)
                  refine hP.mono ?_
                  rintro e w8 ⟨rfl, hG8⟩
                  have G8 := Gr.trans hG hG8
                  clear hP hG hG8 h5r
                  go_wp2_with fail
                  exact ⟨⟨z + 1, by omega, by omega, by go_num, G8⟩, by simp [intOf]; omega⟩
                · have c2 : ¬ z < 1 := by omega
                  go_wp2_with first
                    | (refine wpList_load_mid rfl 23 (.tmp 5) rfl g5 0 rfl (u8s K) _ h5r.range Tryd.underlying23 rfl (infoK K hK) ?_)
                  refine hP.mono ?_
                  rintro e w8 ⟨rfl, hG8⟩
                  have G8 := Gr.trans hG hG8
                  clear hP hG hG8 h5r
                  go_wp2_with fail
                  exact ⟨⟨z + 1, by omega, by omega, by go_num, G8⟩, by simp [intOf]; omega⟩
            · have hlt' : ¬ z ≤ 9 := hlt
              clear hz1 hz2
              go_wp2_with fail
              go_ret
              exact ⟨rfl, Gr.trans G7 hG⟩
      · have hb' : z1 < 1 ∨ 8 < z1 ∨ z2 < 1 ∨ 64 < z2 := by omega
        have HNew := Lib.hid (new_no z1 z2 hb' wB)
        clear hb
        go_wp2_with fail
        refine HNew.out.mono ?_
        rintro e _ ⟨rfl, rfl⟩
        clear HNew
        go_upto_region 4 with fail
        refine wp_region_ssaL (by kernel_rfl) [IsV (.bool true), IsV (.bool false), IsV (.bool false), IsV (.int .i64 ((1 : Nat) : Int)), IsV (.bool false), IsV (.bool false), IsV (.bool false), IsV (.int .i64 ((1 : Nat) : Int)), IsV (.bool false), IsV (.bool false), IsV (.bool false), IsV (.pointer none), IsV (.agg (u8s (K)).toArray), IsV (.slice none 0 0), IsV (.int .i64 ((0 : Nat) : Int)), IsV (.bool false), IsV (.bool false)] (by kernel_rfl) ?_ ?_ ?_
        · intro φ hφ v w1 w2 h hg
          simp only [List.mem_cons, List.not_mem_nil, or_false] at hφ
          rcases hφ with rfl | rfl | rfl | rfl | rfl | rfl | rfl | rfl | rfl | rfl | rfl | rfl | rfl | rfl | rfl | rfl | rfl
          all_goals first | exact h | exact RdV.gr h hg
        · refine ⟨?_, ?_, ?_, ?_, ?_, ?_, ?_, ?_, ?_, ?_, ?_, ?_, ?_, ?_, ?_, ?_, ?_, trivial⟩
          · intro a1 w1 hG hF
            exact s_call rfl (wants0 rfl) _ rfl _ _ (by simp only [execOp, resolve, invoke, List.map_toArray, List.map_nil]; go_simp) ((rings_any w1 (gw2.gr ((Gr.drew wB).trans hG))).mono fun e w2 ⟨he, hb⟩ => ⟨_, he, rfl, hb⟩)
          · intro a1 w1 hG hF
            obtain ⟨_, e35, rfl⟩ := hF.dp 0 35 (by kernel_rfl)
            exact s_is rfl (wants0 rfl) _ rfl (by simp only [execOp, e35]; go_simp)
          · intro a1 w1 hG hF
            exact s_same rfl (wants0 rfl) (.tmp 36) (.inr rfl) (hF.dp 1 36 (by kernel_rfl))
          · intro a1 w1 hG hF
            exact s_old rfl (wantsG hF 2 37 false rfl (by kernel_rfl) rfl) (.tmp 8) (.inr rfl) (.int .i64 ((1 : Nat) : Int)) (hF.ol 8 (by kernel_rfl)) rfl
          · intro a1 w1 hG hF
            obtain ⟨_, e38, rfl⟩ := hF.dp 3 38 (by kernel_rfl)
            exact s_is rfl (wantsG hF 2 37 false rfl (by kernel_rfl) rfl) _ rfl (by simp only [execOp, e38]; go_simp)
          · intro a1 w1 hG hF
            obtain ⟨_, e37, rfl⟩ := hF.dp 2 37 (by kernel_rfl)
            obtain ⟨_, e39, rfl⟩ := hF.dp 4 39 (by kernel_rfl)
            exact s_pickF rfl (wants0 rfl) (.tmp 37) _ (.tmp 39) rfl e37 _ e39 rfl
          · intro a1 w1 hG hF
            exact s_same rfl (wants0 rfl) (.tmp 40) (.inr rfl) (hF.dp 5 40 (by kernel_rfl))
          · intro a1 w1 hG hF
            exact s_old rfl (wantsG hF 6 41 false rfl (by kernel_rfl) rfl) (.tmp 10) (.inr rfl) (.int .i64 ((1 : Nat) : Int)) (hF.ol 10 (by kernel_rfl)) rfl
          · intro a1 w1 hG hF
            obtain ⟨_, e42, rfl⟩ := hF.dp 7 42 (by kernel_rfl)
            exact s_is rfl (wantsG hF 6 41 false rfl (by kernel_rfl) rfl) _ rfl (by simp only [execOp, e42]; go_simp)
          · intro a1 w1 hG hF
            obtain ⟨_, e41, rfl⟩ := hF.dp 6 41 (by kernel_rfl)
            obtain ⟨_, e43, rfl⟩ := hF.dp 8 43 (by kernel_rfl)
            exact s_pickF rfl (wants0 rfl) (.tmp 41) _ (.tmp 43) rfl e41 _ e43 rfl
          · intro a1 w1 hG hF
            exact s_same rfl (wants0 rfl) (.tmp 44) (.inr rfl) (hF.dp 9 44 (by kernel_rfl))
          · intro a1 w1 hG hF
            exact s_call rfl (wantsG hF 10 45 false rfl (by kernel_rfl) rfl) _ rfl _ _ (by simp only [execOp, resolve, invoke, List.map_toArray, List.map_nil]; go_simp) ((none_any w1).mono fun e w2 ⟨he, hw⟩ => ⟨_, he, rfl, hw ▸ Gr.refl _⟩)
          · intro a1 w1 hG hF
            have e5 : a1.eval (.tmp 5) = .pointer (some ⟨g5, 0, none⟩) := hF.ol 5 (by kernel_rfl)
            exact s_is rfl (wantsG hF 10 45 false rfl (by kernel_rfl) rfl) _ rfl (run_loadArr ⟨_, _, Tryd.underlying23⟩ (infoK K hK) e5 (h52.gr ((Gr.drew wB).trans hG)))
          · intro a1 w1 hG hF
            obtain ⟨_, e46, rfl⟩ := hF.dp 11 46 (by kernel_rfl)
            obtain ⟨_, e47, rfl⟩ := hF.dp 12 47 (by kernel_rfl)
            exact s_call rfl (wantsG hF 10 45 false rfl (by kernel_rfl) rfl) _ rfl _ _ (by simp only [execOp, resolve, invoke, List.map_toArray, List.map_cons, List.map_nil, e46, e47]; go_simp) ((walk_nil K w1).mono fun e w2 ⟨he, hb⟩ => ⟨_, he, rfl, hb⟩)
          · intro a1 w1 hG hF
            obtain ⟨_, e48, rfl⟩ := hF.dp 13 48 (by kernel_rfl)
            exact s_is rfl (wantsG hF 10 45 false rfl (by kernel_rfl) rfl) _ rfl (run_len_slice Tryd.underlying30 e48)
          · intro a1 w1 hG hF
            obtain ⟨_, e49, rfl⟩ := hF.dp 14 49 (by kernel_rfl)
            exact s_is rfl (wantsG hF 10 45 false rfl (by kernel_rfl) rfl) _ rfl (by simp only [execOp, e49]; go_simp)
          · intro a1 w1 hG hF
            obtain ⟨_, e45, rfl⟩ := hF.dp 10 45 (by kernel_rfl)
            obtain ⟨_, e50, rfl⟩ := hF.dp 15 50 (by kernel_rfl)
            exact s_pickF rfl (wants0 rfl) (.tmp 45) _ (.tmp 50) rfl e45 _ e50 rfl
        · intro vs w4 hG hf
          have z51 : vs 16 = .bool false := hf.2.2.2.2.2.2.2.2.2.2.2.2.2.2.2.2.1
          clear hf
          simp only [putAll, Nat.zero_add, Nat.reduceAdd, z51]
          have G4 := Gr.trans G2 ((Gr.drew wB).trans hG)
          clear hG G2 gw2 h52 z51
          go_simp
          rcases Int.lt_or_le z1 1 with h1 | h1
          · go_wp2_with fail
            go_ret
            exact ⟨rfl, G4⟩
          · have g1 : ¬ z1 < 1 := by omega
            rcases Int.lt_or_le 8 z1 with h2 | h2
            · go_wp2_with fail
              go_ret
              exact ⟨rfl, G4⟩
            · have g2 : ¬ 8 < z1 := by omega
              rcases Int.lt_or_le z2 1 with h3 | h3
              · go_wp2_with fail
                go_ret
                exact ⟨rfl, G4⟩
              · have g3 : ¬ z2 < 1 := by omega
                have h4 : 64 < z2 := by omega
                go_wp2_with fail
                go_ret
                exact ⟨rfl, G4⟩
end Go.Proofs.YtmcnnjcbgbdeeaaDoor