/- The walk of the law HmacKeys. No condition. -/
import Derived.Test.YtbpgodkdbbiadaaDoorHSums
import Derived.Test.YtbpgodkdbbiadaaDoorRem
namespace Go.Proofs.YtbpgodkdbbiadaaDoor
open Go.RowKit
theorem hA_pos {w : World} {A : Option Addr} {n : Nat} {l : List Value} (h : Rd w A n l) (hn : 0 < n) (c : Nat) : A = none → n = 0 ∧ c = 0 := by
  obtain ⟨ad, _, rfl, _⟩ := h.at_ hn
  intro h
  cases h
/-- Bytes cut at k: what the law's guards leave. -/
theorem cut_at (n : Nat) (N : Nat) : ∃ k : Nat, min (n : Int) (N : Int) = (k : Int) ∧ k ≤ n ∧ k ≤ N := ⟨min n N, by omega, by omega, by omega⟩
set_option maxRecDepth 100000 in
set_option maxHeartbeats 8000000 in
theorem law_hkeys (A : Option Addr) (n c : Nat) (K0 : List UInt8) (B : Option Addr) (m d : Nat) (l0 : List UInt8) (z : Int) (w : World) (hnc : n ≤ c) (hr0 : Rd w A n (u8s K0)) (hA0 : A = none → n = 0 ∧ c = 0)
    (hmd : m ≤ d) (hb0 : Rd w B m (u8s l0)) (gw : Glob w) :
    Calls Tryd.prog 4 #[.slice A n c, .slice B m d, .int .i64 z] w fun e w' => e = .returned (.bool true) ∧ Below w.heap.size w w' := by
  obtain ⟨i0, hi0, hz0, hz1, hz2⟩ := info_parts Tryd.info5
  obtain ⟨k, hki, hkn, hk2⟩ := cut_at n 200
  obtain ⟨j, hji, hjm, hj2⟩ := cut_at m 200
  have hrk : Rd w A k (u8s (K0.take k)) := by rw [← u8s_take]; exact hr0.take hkn
  have hrj : Rd w B j (u8s (l0.take j)) := by rw [← u8s_take]; exact hb0.take hjm
  obtain ⟨K, hK⟩ : ∃ K, K = K0.take k := ⟨_, rfl⟩
  obtain ⟨l, hl⟩ : ∃ l, l = l0.take j := ⟨_, rfl⟩
  rw [← hK] at hrk
  rw [← hl] at hrj
  have hKl : K.length = k := by simpa using hrk.1
  have hll : l.length = j := by simpa using hrj.1
  have hAk : A = none → k = 0 ∧ c = 0 := fun h => ⟨by have := (hA0 h).1; omega, (hA0 h).2⟩
  have HC1 := Lib.hid fun w1 => run_cut_h (P := Tryd.prog) Tryd.underlying22 (by kernel_rfl) (A := A) (n := n) (c := c) (hi := k) (h := (k : Int)) rfl (by omega) w1
  have HC2 := Lib.hid fun w1 => run_cut_h (P := Tryd.prog) Tryd.underlying22 (by kernel_rfl) (A := B) (n := m) (c := d) (hi := j) (h := (j : Int)) rfl (by omega) w1
  have HM1 := Lib.hid hki
  have HM2 := Lib.hid hji
  obtain ⟨D, hD⟩ : ∃ D, D = hmacL K l := ⟨_, rfl⟩
  have hDl : D.length = 32 := by rw [hD]; simp
  have HS : Hid (∀ w A1 n1 c1 K1 B1 ps, n1 ≤ 300 → n1 ≤ c1 → (A1 = none → n1 = 0 ∧ c1 = 0) → Rd w A1 n1 (u8s K1) → Parts w B1 1 ps → allP ps = l → hmacL K1 l = D → Glob w → Calls Tryd.prog 8 #[.slice A1 n1 c1, .slice B1 1 1] w fun e w' => e = .returned (.agg (u8s D).toArray) ∧ Below w.heap.size w w') := by
    intro w A1 n1 c1 K1 B1 ps h1 h2 h3 h4 h5 h6 h7 h8
    rw [← h7]
    exact hmacSum_any A1 n1 c1 K1 B1 1 1 ps l (by omega) h2 (by omega) h6 (by omega) w h4 h3 h5 h8
  have HD := Lib.hid hD
  clear hD hK hl hr0 hb0 hki hji hA0
  go_enter Tryd.func4, Tryd.ntmps4
  go_wp2_with fail
  refine wp_region_ssaL (by kernel_rfl) [IsV (.slice A n c), IsV (.slice A n c), IsV (.int .i64 ((n : Nat) : Int)), IsV (.int .i64 ((k : Nat) : Int)), IsV (.slice A k c), IsV (.slice B m d), IsV (.slice B m d), IsV (.int .i64 ((m : Nat) : Int)), IsV (.int .i64 ((j : Nat) : Int)), IsV (.slice B j d), IsV (.slice A k c), IsV (.slice B j d)] (by kernel_rfl) ?_ ?_ ?_
  · intro φ hφ v w1 w2 h hg
    simp only [List.mem_cons, List.not_mem_nil, or_false] at hφ
    rcases hφ with rfl | rfl | rfl | rfl | rfl | rfl | rfl | rfl | rfl | rfl | rfl | rfl
    all_goals first | exact h | exact RdV.gr h hg
  · refine ⟨?_, ?_, ?_, ?_, ?_, ?_, ?_, ?_, ?_, ?_, ?_, ?_, trivial⟩
    · intro a1 w1 hG hF
      exact s_old rfl (wants0 rfl) (.tmp 0) (.inr rfl) (.slice A n c) (hF.ol 0 (by kernel_rfl)) rfl
    · intro a1 w1 hG hF
      exact s_old rfl (wants0 rfl) (.tmp 0) (.inr rfl) (.slice A n c) (hF.ol 0 (by kernel_rfl)) rfl
    · intro a1 w1 hG hF
      obtain ⟨_, e12, rfl⟩ := hF.dp 1 12 (by kernel_rfl)
      exact s_is rfl (wants0 rfl) _ rfl (run_len_slice Tryd.underlying22 e12)
    · intro a1 w1 hG hF
      obtain ⟨_, e13, rfl⟩ := hF.dp 2 13 (by kernel_rfl)
      exact s_is rfl (wants0 rfl) _ rfl (run_min_ e13 rfl HM1.out)
    · intro a1 w1 hG hF
      obtain ⟨_, e11, rfl⟩ := hF.dp 0 11 (by kernel_rfl)
      obtain ⟨_, e14, rfl⟩ := hF.dp 3 14 (by kernel_rfl)
      exact s_is rfl (wants0 rfl) _ rfl (by simp only [execOp, e11, e14, Option.map, Sem.run_bind, HC1.out, Result.andThen_ok, Sem.run_pure])
    · intro a1 w1 hG hF
      exact s_old rfl (wants0 rfl) (.tmp 1) (.inr rfl) (.slice B m d) (hF.ol 1 (by kernel_rfl)) rfl
    · intro a1 w1 hG hF
      exact s_old rfl (wants0 rfl) (.tmp 1) (.inr rfl) (.slice B m d) (hF.ol 1 (by kernel_rfl)) rfl
    · intro a1 w1 hG hF
      obtain ⟨_, e17, rfl⟩ := hF.dp 6 17 (by kernel_rfl)
      exact s_is rfl (wants0 rfl) _ rfl (run_len_slice Tryd.underlying22 e17)
    · intro a1 w1 hG hF
      obtain ⟨_, e18, rfl⟩ := hF.dp 7 18 (by kernel_rfl)
      exact s_is rfl (wants0 rfl) _ rfl (run_min_ e18 rfl HM2.out)
    · intro a1 w1 hG hF
      obtain ⟨_, e16, rfl⟩ := hF.dp 5 16 (by kernel_rfl)
      obtain ⟨_, e19, rfl⟩ := hF.dp 8 19 (by kernel_rfl)
      exact s_is rfl (wants0 rfl) _ rfl (by simp only [execOp, e16, e19, Option.map, Sem.run_bind, HC2.out, Result.andThen_ok, Sem.run_pure])
    · intro a1 w1 hG hF
      exact s_same rfl (wants0 rfl) (.tmp 15) (.inl rfl) (hF.dp 4 15 (by kernel_rfl))
    · intro a1 w1 hG hF
      exact s_same rfl (wants0 rfl) (.tmp 20) (.inl rfl) (hF.dp 9 20 (by kernel_rfl))
  · intro vs w1 hG hf
    have z0 : vs 10 = .slice A k c := hf.2.2.2.2.2.2.2.2.2.2.1
    have z1 : vs 11 = .slice B j d := hf.2.2.2.2.2.2.2.2.2.2.2.1
    clear hf
    simp only [putAll, Nat.zero_add, Nat.reduceAdd, z0, z1]
    have hG1 := (Gr.drew w).trans hG
    have hr1 := hG1.rd hrk
    have hb1 := hG1.rd hrj
    have gw1 := gw.gr hG1
    clear hG hrk hrj gw
    go_simp
    go_upto_region 3 with first
      | (go_at_call 8; refine (HS.out _ A k c K _ [⟨B, j, d, l⟩] (by omega) (by omega) hAk ((Gr.alloc _ _).rd hr1) (parts1 rfl _ ⟨B, j, d, l⟩ hb1 (by show j ≤ d; omega)) (by simp [allP]) HD.out.symm (gw1.gr (Gr.alloc _ _))).mono ?_; rintro e w2 ⟨rfl, hB2⟩)
      | (refine wpList_new rfl 26 (.tmp 7) (.tmp 24) rfl _ (u8s D) rfl rfl rfl (by simp only [u8s_length, hDl]; rfl) (infoU8_32 D hDl) (u8s_oneCell _) ?_; intro w3 h7 hG3)
    have hG4 : Gr w1 w3 := ((Gr.alloc _ _).trans hB2).trans hG3
    have hr3 := hG4.rd hr1
    have hb3 := hG4.rd hb1
    have gw3 := gw1.gr hG4
    have hB4 : Below w.heap.size w w3 := Below.trans hG1 (Below.mono hG4 hG1.size)
    generalize w2.heap.size = g7 at h7 ⊢
    clear hG4 hB2 hG3 hr1 hb1 gw1 hG1
    go_simp
    by_cases h64 : 64 < k
    · have h64i : (64 : Int) < (k : Int) := by omega
      have hcv := fun (c : Nat) => run_str (P := Tryd.prog) (c := c) w3 Tryd.underlying22 Tryd.underlying5 Tryd.underlying9 hr3
      obtain ⟨E, hE⟩ : ∃ E, E = shaL K := ⟨_, rfl⟩
      have hEl : E.length = 32 := by rw [hE]; simp
      have HE : Hid (hmacL E l = D) := by
        show _ = _
        rw [hE, HD.out]
        exact hmacL_long (by omega) l
      have HR : Hid (∀ w, Calls Tryd.prog 11 #[.string ⟨K.toArray⟩] w fun e w' => e = .returned (.string ⟨E.toArray⟩) ∧ Below w.heap.size w w') := by
        intro w
        rw [hE]
        exact refSum_any K (by omega) w
      clear hE
      go_wp2_with (go_at_call 11; refine (HR.out _).mono ?_; rintro e w4 ⟨rfl, hB5⟩)
      have hb4 := hb3.below hB5
      have gw4 := gw3.gr hB5
      have h74 := h7.gr hB5
      have hB6 := hB4.trans (hB5.mono hB4.size)
      clear hcv hB5 hb3 gw3 h7 hB4 hr3
      go_simp
      refine wp_region_ssaL (by kernel_rfl) [IsV (.bool true), IsV (.bool true), IsV (.agg (u8s D).toArray), IsV (.string ⟨(E).toArray⟩), RdV (32) (E), IsV (.slice B j d), PartsV 1 1 l, IsV (.agg (u8s D).toArray), IsV (.bool true), IsV (.bool true), IsV (.bool true)] (by kernel_rfl) ?_ ?_ ?_
      · intro φ hφ v w1 w2 h hg
        simp only [List.mem_cons, List.not_mem_nil, or_false] at hφ
        rcases hφ with rfl | rfl | rfl | rfl | rfl | rfl | rfl | rfl | rfl | rfl | rfl
        all_goals first | exact h | exact RdV.gr h hg | exact PartsV.gr h hg
      · refine ⟨?_, ?_, ?_, ?_, ?_, ?_, ?_, ?_, ?_, ?_, ?_, trivial⟩
        · intro a1 w1 hG hF
          exact s_call rfl (wants0 rfl) _ rfl _ _ (by simp only [execOp, resolve, invoke, List.map_toArray, List.map_nil]; go_simp) ((keyed_any w1 (gw4.gr ((Gr.drew w4).trans hG))).mono fun e w2 ⟨he, hb⟩ => ⟨_, he, rfl, hb⟩)
        · intro a1 w1 hG hF
          exact s_same rfl (wants0 rfl) (.tmp 31) (.inr rfl) (hF.dp 0 31 (by kernel_rfl))
        · intro a1 w1 hG hF
          have e7 : a1.eval (.tmp 7) = .pointer (some ⟨g7, 0, none⟩) := hF.ol 7 (by kernel_rfl)
          exact s_wp rfl (wantsG hF 1 32 true rfl (by kernel_rfl) rfl) (wp_load_mid _ _ rfl g7 0 e7 (u8s D) _ (Arr.gr h74 ((Gr.drew w4).trans hG)).range Tryd.underlying26 rfl (infoU8_32 D hDl) ⟨_, rfl, rfl, Gr.refl _⟩)
        · intro a1 w1 hG hF
          exact s_old rfl (wantsG hF 1 32 true rfl (by kernel_rfl) rfl) (.tmp 8) (.inr rfl) (.string ⟨(E).toArray⟩) (hF.ol 8 (by kernel_rfl)) rfl
        · intro a1 w1 hG hF
          obtain ⟨_, e34, rfl⟩ := hF.dp 3 34 (by kernel_rfl)
          exact s_bytes rfl (wantsG hF 1 32 true rfl (by kernel_rfl) rfl) 9 22 5 (.tmp 34) rfl Tryd.underlying9 Tryd.underlying22 Tryd.underlying5 32 (E) hEl e34 rfl
        · intro a1 w1 hG hF
          exact s_old rfl (wantsG hF 1 32 true rfl (by kernel_rfl) rfl) (.tmp 1) (.inr rfl) (.slice B j d) (hF.ol 1 (by kernel_rfl)) rfl
        · intro a1 w1 hG hF
          obtain ⟨_, e36, rfl⟩ := hF.dp 5 36 (by kernel_rfl)
          exact s_val rfl (wantsG hF 1 32 true rfl (by kernel_rfl) rfl) _ rfl (.slice (some ⟨w1.heap.size, 0, none⟩) 1 1) (w1.alloc (.cells #[.slice B j d] 22)) (run_build1S e36) ⟨_, [⟨B, j, d, l⟩], rfl, parts1 rfl _ ⟨B, j, d, l⟩ (((Gr.drew w4).trans hG).rd hb4) (by show j ≤ d; omega), by simp [allP]⟩ (Gr.alloc _ _)
        · intro a1 w1 hG hF
          obtain ⟨_, e35, A35, c35, rfl, hc35, r35⟩ := hF.dp 4 35 (by kernel_rfl)
          obtain ⟨x37, e37, f37⟩ := hF.dp 6 37 (by kernel_rfl)
          obtain ⟨A37, p37, rfl, h37, l37⟩ := f37
          exact s_call rfl (wantsG hF 1 32 true rfl (by kernel_rfl) rfl) _ rfl _ _ (by simp only [execOp, resolve, invoke, List.map_toArray, List.map_cons, List.map_nil, e35, e37]; go_simp) ((HS.out w1 A35 32 c35 E A37 p37 (by omega) hc35 (hA_pos r35 (by omega) _) r35 h37 l37 HE.out (gw4.gr ((Gr.drew w4).trans hG))).mono fun e w2 ⟨he, hb⟩ => ⟨_, he, rfl, hb⟩)
        · intro a1 w1 hG hF
          obtain ⟨_, e33, rfl⟩ := hF.dp 2 33 (by kernel_rfl)
          obtain ⟨_, e38, rfl⟩ := hF.dp 7 38 (by kernel_rfl)
          exact s_is rfl (wantsG hF 1 32 true rfl (by kernel_rfl) rfl) _ rfl (run_eqA32 hDl e33 e38)
        · intro a1 w1 hG hF
          obtain ⟨_, e32, rfl⟩ := hF.dp 1 32 (by kernel_rfl)
          obtain ⟨_, e39, rfl⟩ := hF.dp 8 39 (by kernel_rfl)
          exact s_pick rfl (wants0 rfl) (.tmp 32) (.tmp 39) _ rfl e32 _ e39 rfl
        · intro a1 w1 hG hF
          exact s_same rfl (wants0 rfl) (.tmp 40) (.inl rfl) (hF.dp 9 40 (by kernel_rfl))
      · intro vs w1 hG hf
        have z6 : vs 10 = .bool true := hf.2.2.2.2.2.2.2.2.2.2.1
        clear hf
        simp only [putAll, Nat.zero_add, Nat.reduceAdd, z6]
        go_simp
        go_wp2_with fail
        go_ret
        exact ⟨rfl, hB6.trans (((Gr.drew w4).trans hG).mono hB6.size)⟩
    · have h64i : ¬ (64 : Int) < (k : Int) := by omega
      obtain ⟨q, hq, hqe⟩ := wrap_remN z (65 - k) (by omega) (by omega)
      rw [show ((65 - k : Nat) : Int) = 65 - (k : Int) by omega] at hqe
      go_upto_region 7 with fail
      simp only [hqe]
      clear hqe
      have HE : Hid (hmacL (K ++ List.replicate q 0) l = D) := by
        show _ = _
        rw [HD.out]
        exact hmacL_noughts (by omega) l
      go_wp2_with (at_builtin; go_must (refine wpList_clip _ rfl (.tmp 49) (.tmp 50) 22 rfl 5 i0 (.int .u8 0) Tryd.underlying22 hi0 hz0 hz1 hz2 rfl w3.heap.size rfl rfl A k c K rfl hr3 (by omega) ?_))
      intro v5 w5 ho5 hB5
      go_simp
      go_wp2_with (at_builtin; go_must (refine wpList_appZ _ rfl (.tmp 51) (.tmp 52) 22 3 rfl w3.heap.size 5 i0 Tryd.underlying22 Tryd.underlying3 hi0 hz0 hz1 hz2 v5 k K rfl ho5 q rfl (by omega) hB5.size ?_))
      intro v6 w6 ho6 hg6
      obtain ⟨A6, c6, rfl, hc6, hA6, hr6⟩ := own_form3 ho6
      have hG6 : Gr w3 w6 := hB5.grown hg6 hB5.size (fun k hk => (ho5.lt k hk).1)
      have hb6 := hb3.below hG6
      have gw6 := gw3.gr hG6
      have h76 := h7.gr hG6
      have hB6 := Below.trans hB4 (Below.mono hG6 hB4.size)
      clear hG6 ho5 hB5 hg6 ho6 hb3 gw3 h7 hB4 hr3
      go_simp
      go_wp2_with fail
      refine wp_region_ssaL (by kernel_rfl) [IsV (.bool true), IsV (.bool true), IsV (.agg (u8s D).toArray), IsV (.slice A6 (k + q) c6), IsV (.slice B j d), PartsV 1 1 l, IsV (.agg (u8s D).toArray), IsV (.bool true), IsV (.bool true), IsV (.bool true)] (by kernel_rfl) ?_ ?_ ?_
      · intro φ hφ v w1 w2 h hg
        simp only [List.mem_cons, List.not_mem_nil, or_false] at hφ
        rcases hφ with rfl | rfl | rfl | rfl | rfl | rfl | rfl | rfl | rfl | rfl
        all_goals first | exact h | exact RdV.gr h hg | exact PartsV.gr h hg
      · refine ⟨?_, ?_, ?_, ?_, ?_, ?_, ?_, ?_, ?_, ?_, trivial⟩
        · intro a1 w1 hG hF
          exact s_call rfl (wants0 rfl) _ rfl _ _ (by simp only [execOp, resolve, invoke, List.map_toArray, List.map_nil]; go_simp) ((keyed_any w1 (gw6.gr ((Gr.drew w6).trans hG))).mono fun e w2 ⟨he, hb⟩ => ⟨_, he, rfl, hb⟩)
        · intro a1 w1 hG hF
          exact s_same rfl (wants0 rfl) (.tmp 54) (.inr rfl) (hF.dp 0 54 (by kernel_rfl))
        · intro a1 w1 hG hF
          have e7 : a1.eval (.tmp 7) = .pointer (some ⟨g7, 0, none⟩) := hF.ol 7 (by kernel_rfl)
          exact s_wp rfl (wantsG hF 1 55 true rfl (by kernel_rfl) rfl) (wp_load_mid _ _ rfl g7 0 e7 (u8s D) _ (Arr.gr h76 ((Gr.drew w6).trans hG)).range Tryd.underlying26 rfl (infoU8_32 D hDl) ⟨_, rfl, rfl, Gr.refl _⟩)
        · intro a1 w1 hG hF
          exact s_old rfl (wantsG hF 1 55 true rfl (by kernel_rfl) rfl) (.tmp 10) (.inr rfl) (.slice A6 (k + q) c6) (hF.ol 10 (by kernel_rfl)) rfl
        · intro a1 w1 hG hF
          exact s_old rfl (wantsG hF 1 55 true rfl (by kernel_rfl) rfl) (.tmp 1) (.inr rfl) (.slice B j d) (hF.ol 1 (by kernel_rfl)) rfl
        · intro a1 w1 hG hF
          obtain ⟨_, e58, rfl⟩ := hF.dp 4 58 (by kernel_rfl)
          exact s_val rfl (wantsG hF 1 55 true rfl (by kernel_rfl) rfl) _ rfl (.slice (some ⟨w1.heap.size, 0, none⟩) 1 1) (w1.alloc (.cells #[.slice B j d] 22)) (run_build1S e58) ⟨_, [⟨B, j, d, l⟩], rfl, parts1 rfl _ ⟨B, j, d, l⟩ (((Gr.drew w6).trans hG).rd hb6) (by show j ≤ d; omega), by simp [allP]⟩ (Gr.alloc _ _)
        · intro a1 w1 hG hF
          obtain ⟨_, e57, rfl⟩ := hF.dp 3 57 (by kernel_rfl)
          obtain ⟨x59, e59, f59⟩ := hF.dp 5 59 (by kernel_rfl)
          obtain ⟨A59, p59, rfl, h59, l59⟩ := f59
          exact s_call rfl (wantsG hF 1 55 true rfl (by kernel_rfl) rfl) _ rfl _ _ (by simp only [execOp, resolve, invoke, List.map_toArray, List.map_cons, List.map_nil, e57, e59]; go_simp) ((HS.out w1 A6 (k + q) c6 (K ++ List.replicate q 0) A59 p59 (by omega) hc6 hA6 (((Gr.drew w6).trans hG).rd hr6) h59 l59 HE.out (gw6.gr ((Gr.drew w6).trans hG))).mono fun e w2 ⟨he, hb⟩ => ⟨_, he, rfl, hb⟩)
        · intro a1 w1 hG hF
          obtain ⟨_, e56, rfl⟩ := hF.dp 2 56 (by kernel_rfl)
          obtain ⟨_, e60, rfl⟩ := hF.dp 6 60 (by kernel_rfl)
          exact s_is rfl (wantsG hF 1 55 true rfl (by kernel_rfl) rfl) _ rfl (run_eqA32 hDl e56 e60)
        · intro a1 w1 hG hF
          obtain ⟨_, e55, rfl⟩ := hF.dp 1 55 (by kernel_rfl)
          obtain ⟨_, e61, rfl⟩ := hF.dp 7 61 (by kernel_rfl)
          exact s_pick rfl (wants0 rfl) (.tmp 55) (.tmp 61) _ rfl e55 _ e61 rfl
        · intro a1 w1 hG hF
          exact s_same rfl (wants0 rfl) (.tmp 62) (.inl rfl) (hF.dp 8 62 (by kernel_rfl))
      · intro vs w1 hG hf
        have z6 : vs 9 = .bool true := hf.2.2.2.2.2.2.2.2.2.1
        clear hf
        simp only [putAll, Nat.zero_add, Nat.reduceAdd, z6]
        go_simp
        go_wp2_with fail
        go_ret
        exact ⟨rfl, hB6.trans (((Gr.drew w6).trans hG).mono hB6.size)⟩
end Go.Proofs.YtbpgodkdbbiadaaDoor

