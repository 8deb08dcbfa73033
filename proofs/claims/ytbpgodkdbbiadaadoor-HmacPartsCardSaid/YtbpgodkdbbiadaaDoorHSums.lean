/- The walk of the law HmacSums. No condition. -/
import Derived.Test.YtbpgodkdbbiadaaDoorKeyed
namespace Go.Proofs.YtbpgodkdbbiadaaDoor
open Go.RowKit
theorem own_form3 {w : World} {base : Nat} {e : TypeId} {n : Nat} {v : Value} {xs : List Value} (h : w.ownsRow base e 1 v n xs) : ∃ A c, v = .slice A n c ∧ n ≤ c ∧ (A = none → n = 0 ∧ c = 0) ∧ Rd w A n xs := by
  obtain ⟨A, c, hv, hc, _⟩ := own_form h
  refine ⟨A, c, hv, hc, fun hA => ?_, by subst hv; exact Rd.of_own h⟩
  rcases h.2 with ⟨e1, e2⟩ | ⟨g, cap, cur, e1, _⟩
  · rw [hv] at e1
    injection e1 with _ e3 e4
    exact ⟨e3, e4⟩
  · rw [hv, hA] at e1
    cases e1
set_option maxRecDepth 100000 in
set_option maxHeartbeats 4000000 in
theorem law_hsums (A : Option Addr) (n c : Nat) (K0 : List UInt8) (B : Option Addr) (m d : Nat) (ps : List Part) (w : World) (hnc : n ≤ c) (hcm : c ≤ maxLen) (hr0 : Rd w A n (u8s K0)) (hP0 : Parts w B m ps) (gw : Glob w) :
    Calls Tryd.prog 3 #[.slice A n c, .slice B m d] w fun e w' => e = .returned (.bool true) ∧ Below w.heap.size w w' := by
  obtain ⟨i0, hi0, hz0, hz1, hz2⟩ := info_parts Tryd.info5
  unfold maxLen at hcm
  obtain ⟨k, hk⟩ : ∃ k : Nat, k = min n 200 := ⟨_, rfl⟩
  have hki : min (n : Int) 200 = (k : Int) := by omega
  have hkn : k ≤ n := by omega
  have hk2 : k ≤ 200 := by omega
  have hrk : Rd w A k (u8s (K0.take k)) := by rw [← u8s_take]; exact hr0.take hkn
  obtain ⟨K, hK⟩ : ∃ K, K = K0.take k := ⟨_, rfl⟩
  rw [← hK] at hrk
  have hKl : K.length = k := by simpa using hrk.1
  have hcut := fun w1 => run_cut_h (P := Tryd.prog) Tryd.underlying22 (by kernel_rfl) (A := A) (n := n) (c := c) (hi := k) (h := (k : Int)) rfl (by omega) w1
  clear hk hK hr0
  go_enter Tryd.func3, Tryd.ntmps3
  go_wp2_with (at_builtin; go_must (refine wpList_clip _ rfl (.tmp 9) (.tmp 14) 22 rfl 5 i0 (.int .u8 0) Tryd.underlying22 hi0 hz0 hz1 hz2 rfl w.heap.size rfl rfl A k c K rfl hrk (by omega) ?_))
  intro v1 w1 ho1 hB1
  obtain ⟨A1, c1, rfl, hc1, hA1, hr1⟩ := own_form3 ho1
  have hP1 := hP0.gr hB1
  have gw1 := gw.gr hB1
  clear hcut hki ho1 hrk hP0 gw
  go_simp
  go_wp2_with fail
  go_at_call 6
  refine (few_any B m d ps 6 200 (by omega) (by omega) w1 hP1).mono ?_
  rintro e w2 ⟨A2, n2, c2, qs, rfl, hn2, hP2, hq2, hB2⟩
  have hl2 : (allP qs).length ≤ 1200 := by
    have := allP_bound (s := 200) (ps := qs) (fun p hp => by
      have e1 := (hP2.each p hp).1.1
      have e2 := hq2 p hp
      simp only [u8s_length] at e1
      omega)
    have e3 := hP2.len
    have : qs.length * 200 ≤ 6 * 200 := Nat.mul_le_mul_right _ (by omega)
    omega
  have gw2 := gw1.gr hB2
  have hr2 : Rd w2 A1 k (u8s K) := hr1.below hB2
  have hB3 := hB1.trans (hB2.mono hB1.size)
  obtain ⟨l, hl⟩ : ∃ l, l = allP qs := ⟨_, rfl⟩
  have hll : l.length ≤ 1200 := by rw [hl]; exact hl2
  have HA : Hid (∀ w, Parts w A2 n2 qs → Calls Tryd.prog 7 #[.slice A2 n2 c2] w fun e w' => e = .returned (.string ⟨l.toArray⟩) ∧ Below w.heap.size w w') := by
    intro w hw
    rw [hl]
    exact all_any A2 n2 c2 qs (by omega) (by omega) w hw
  have HS : Hid (∀ w, Rd w A1 k (u8s K) → Parts w A2 n2 qs → Glob w → Calls Tryd.prog 8 #[.slice A1 k c1, .slice A2 n2 c2] w fun e w' => e = .returned (.agg (u8s (hmacL K l)).toArray) ∧ Below w.heap.size w w') := by
    intro w hr hw hg
    exact hmacSum_any A1 k c1 K A2 n2 c2 qs l (by omega) hc1 (by omega) hl.symm (by omega) w hr hA1 hw hg
  have HR : Hid (∀ w, Calls Tryd.prog 10 #[.string ⟨K.toArray⟩, .string ⟨l.toArray⟩] w fun e w' => e = .returned (.string ⟨(hmacL K l).toArray⟩) ∧ Below w.heap.size w w') := by
    intro w
    exact refHmac_any K l (by omega) (by omega) w
  obtain ⟨D, hD⟩ : ∃ D, D = hmacL K l := ⟨_, rfl⟩
  have hDl : D.length = 32 := by rw [hD]; simp
  rw [← hD] at HS HR
  clear hD hl hl2 hll hq2 hn2 hP1 gw1 hr1 hB1 hB2 hA1 hc1 hk2 hkn
  go_simp
  go_wp2_with fail
  refine wp_region_ssaL (by kernel_rfl) [IsV (.slice A2 n2 c2), IsV (.string ⟨(l).toArray⟩), IsV (.slice A1 k c1), IsV (.string ⟨(K).toArray⟩), IsV (.string ⟨(l).toArray⟩), IsV (.string ⟨(K).toArray⟩)] (by kernel_rfl) ?_ ?_ ?_
  · intro φ hφ v w1 w2 h hg
    simp only [List.mem_cons, List.not_mem_nil, or_false] at hφ
    rcases hφ with rfl | rfl | rfl | rfl | rfl | rfl
    all_goals first | exact h | exact RdV.gr h hg
  · refine ⟨?_, ?_, ?_, ?_, ?_, ?_, trivial⟩
    · intro a1 w1 hG hF
      exact s_old rfl (wants0 rfl) (.tmp 5) (.inr rfl) (.slice A2 n2 c2) (hF.ol 5 (by kernel_rfl)) rfl
    · intro a1 w1 hG hF
      obtain ⟨_, e18, rfl⟩ := hF.dp 0 18 (by kernel_rfl)
      exact s_call rfl (wants0 rfl) _ rfl _ _ (by simp only [execOp, resolve, invoke, List.map_toArray, List.map_cons, List.map_nil, e18]; go_simp) ((HA.out w1 (hP2.gr ((Gr.drew w2).trans hG))).mono fun e w2 ⟨he, hb⟩ => ⟨_, he, rfl, hb⟩)
    · intro a1 w1 hG hF
      exact s_old rfl (wants0 rfl) (.tmp 0) (.inr rfl) (.slice A1 k c1) (hF.ol 0 (by kernel_rfl)) rfl
    · intro a1 w1 hG hF
      obtain ⟨_, e20, rfl⟩ := hF.dp 2 20 (by kernel_rfl)
      exact s_str rfl (wants0 rfl) 22 9 5 (.tmp 20) rfl Tryd.underlying22 Tryd.underlying5 Tryd.underlying9 _ _ _ (K) e20 (((Gr.drew w2).trans hG).rd hr2) rfl
    · intro a1 w1 hG hF
      exact s_same rfl (wants0 rfl) (.tmp 19) (.inl rfl) (hF.dp 1 19 (by kernel_rfl))
    · intro a1 w1 hG hF
      exact s_same rfl (wants0 rfl) (.tmp 21) (.inl rfl) (hF.dp 3 21 (by kernel_rfl))
  · intro vs w1 hG hf
    have z6 : vs 4 = .string ⟨(l).toArray⟩ := hf.2.2.2.2.1
    have z7 : vs 5 = .string ⟨(K).toArray⟩ := hf.2.2.2.2.2.1
    clear hf
    simp only [putAll, Nat.zero_add, Nat.reduceAdd, z6, z7]
    have hG3 := (Gr.drew w2).trans hG
    have hP3 := hP2.gr hG3
    have gw3 := gw2.gr hG3
    have hr3 := hG3.rd hr2
    have hB4 := hB3.trans (hG3.mono hB3.size)
    clear hG3 hG hP2 gw2 hr2 hB3
    go_simp
    go_wp2_with first
      | (go_at_call 8; refine (HS.out _ hr3 hP3 gw3).mono ?_; rintro e w3 ⟨rfl, hB5⟩)
      | (refine wpList_new rfl 26 (.tmp 8) (.tmp 24) rfl _ (u8s D) rfl rfl rfl (by simp only [u8s_length, hDl]; rfl) (infoU8_32 D hDl) (u8s_oneCell _) ?_; intro w4 h8 hG4)
    have hP4 := (hP3.gr hB5).gr hG4
    have gw4 := (gw3.gr hB5).gr hG4
    have hr4 := hG4.rd (hr3.below hB5)
    have hB6 := (hB4.trans (hB5.mono hB4.size))
    have hB7 := hB6.trans (hG4.mono hB6.size)
    generalize w3.heap.size = g8 at h8 ⊢
    have hr8 := Arr.rdAllS h8 hDl
    clear hP3 gw3 hr3 hB5 hG4 hB4 hB6
    go_simp
    refine wp_region_ssaL (by kernel_rfl) [IsV (.bool true), IsV (.bool true), IsV (.slice (some ⟨g8, 0, none⟩) 32 32), IsV (.string ⟨(D).toArray⟩), IsV (.string ⟨(K).toArray⟩), IsV (.string ⟨(l).toArray⟩), IsV (.string ⟨(D).toArray⟩), IsV (.bool true), IsV (.bool true), IsV (.bool true), IsV (.slice A1 k c1), IsV (.string ⟨(K).toArray⟩), IsV (.string ⟨(K).toArray⟩), IsV (.bool true), IsV (.bool true), IsV (.bool true), IsV (.slice A2 n2 c2), IsV (.string ⟨(l).toArray⟩), IsV (.string ⟨(l).toArray⟩), IsV (.bool true), IsV (.bool true), IsV (.bool true)] (by kernel_rfl) ?_ ?_ ?_
    · intro φ hφ v w1 w2 h hg
      simp only [List.mem_cons, List.not_mem_nil, or_false] at hφ
      rcases hφ with rfl | rfl | rfl | rfl | rfl | rfl | rfl | rfl | rfl | rfl | rfl | rfl | rfl | rfl | rfl | rfl | rfl | rfl | rfl | rfl | rfl | rfl
      all_goals first | exact h | exact RdV.gr h hg
    · refine ⟨?_, ?_, ?_, ?_, ?_, ?_, ?_, ?_, ?_, ?_, ?_, ?_, ?_, ?_, ?_, ?_, ?_, ?_, ?_, ?_, ?_, ?_, trivial⟩
      · intro a1 w1 hG hF
        exact s_call rfl (wants0 rfl) _ rfl _ _ (by simp only [execOp, resolve, invoke, List.map_toArray, List.map_nil]; go_simp) ((keyed_any w1 (gw4.gr ((Gr.drew w4).trans hG))).mono fun e w2 ⟨he, hb⟩ => ⟨_, he, rfl, hb⟩)
      · intro a1 w1 hG hF
        exact s_same rfl (wants0 rfl) (.tmp 25) (.inr rfl) (hF.dp 0 25 (by kernel_rfl))
      · intro a1 w1 hG hF
        have e8 : a1.eval (.tmp 8) = .pointer (some ⟨g8, 0, none⟩) := hF.ol 8 (by kernel_rfl)
        exact s_is rfl (wantsG hF 1 26 true rfl (by kernel_rfl) rfl) _ rfl (by simp only [execOp, e8, Option.map, Sem.run_bind, run_cutAll (P := Tryd.prog) Tryd.underlying26 (by kernel_rfl), Result.andThen_ok, Sem.run_pure])
      · intro a1 w1 hG hF
        obtain ⟨_, e27, rfl⟩ := hF.dp 2 27 (by kernel_rfl)
        exact s_str rfl (wantsG hF 1 26 true rfl (by kernel_rfl) rfl) 22 9 5 (.tmp 27) rfl Tryd.underlying22 Tryd.underlying5 Tryd.underlying9 _ _ _ (D) e27 (((Gr.drew w4).trans hG).rd hr8) rfl
      · intro a1 w1 hG hF
        exact s_old rfl (wantsG hF 1 26 true rfl (by kernel_rfl) rfl) (.tmp 7) (.inr rfl) (.string ⟨(K).toArray⟩) (hF.ol 7 (by kernel_rfl)) rfl
      · intro a1 w1 hG hF
        exact s_old rfl (wantsG hF 1 26 true rfl (by kernel_rfl) rfl) (.tmp 6) (.inr rfl) (.string ⟨(l).toArray⟩) (hF.ol 6 (by kernel_rfl)) rfl
      · intro a1 w1 hG hF
        obtain ⟨_, e29, rfl⟩ := hF.dp 4 29 (by kernel_rfl)
        obtain ⟨_, e30, rfl⟩ := hF.dp 5 30 (by kernel_rfl)
        exact s_call rfl (wantsG hF 1 26 true rfl (by kernel_rfl) rfl) _ rfl _ _ (by simp only [execOp, resolve, invoke, List.map_toArray, List.map_cons, List.map_nil, e29, e30]; go_simp) ((HR.out w1).mono fun e w2 ⟨he, hb⟩ => ⟨_, he, rfl, hb⟩)
      · intro a1 w1 hG hF
        obtain ⟨_, e28, rfl⟩ := hF.dp 3 28 (by kernel_rfl)
        obtain ⟨_, e31, rfl⟩ := hF.dp 6 31 (by kernel_rfl)
        exact s_is rfl (wantsG hF 1 26 true rfl (by kernel_rfl) rfl) _ rfl (by simp only [execOp, e28, e31]; go_simp)
      · intro a1 w1 hG hF
        obtain ⟨_, e26, rfl⟩ := hF.dp 1 26 (by kernel_rfl)
        obtain ⟨_, e32, rfl⟩ := hF.dp 7 32 (by kernel_rfl)
        exact s_pick rfl (wants0 rfl) (.tmp 26) (.tmp 32) _ rfl e26 _ e32 rfl
      · intro a1 w1 hG hF
        exact s_same rfl (wants0 rfl) (.tmp 33) (.inr rfl) (hF.dp 8 33 (by kernel_rfl))
      · intro a1 w1 hG hF
        exact s_old rfl (wantsG hF 9 34 true rfl (by kernel_rfl) rfl) (.tmp 0) (.inr rfl) (.slice A1 k c1) (hF.ol 0 (by kernel_rfl)) rfl
      · intro a1 w1 hG hF
        obtain ⟨_, e35, rfl⟩ := hF.dp 10 35 (by kernel_rfl)
        exact s_str rfl (wantsG hF 9 34 true rfl (by kernel_rfl) rfl) 22 9 5 (.tmp 35) rfl Tryd.underlying22 Tryd.underlying5 Tryd.underlying9 _ _ _ (K) e35 (((Gr.drew w4).trans hG).rd hr4) rfl
      · intro a1 w1 hG hF
        exact s_old rfl (wantsG hF 9 34 true rfl (by kernel_rfl) rfl) (.tmp 7) (.inr rfl) (.string ⟨(K).toArray⟩) (hF.ol 7 (by kernel_rfl)) rfl
      · intro a1 w1 hG hF
        obtain ⟨_, e36, rfl⟩ := hF.dp 11 36 (by kernel_rfl)
        obtain ⟨_, e37, rfl⟩ := hF.dp 12 37 (by kernel_rfl)
        exact s_is rfl (wantsG hF 9 34 true rfl (by kernel_rfl) rfl) _ rfl (by simp only [execOp, e36, e37]; go_simp)
      · intro a1 w1 hG hF
        obtain ⟨_, e34, rfl⟩ := hF.dp 9 34 (by kernel_rfl)
        obtain ⟨_, e38, rfl⟩ := hF.dp 13 38 (by kernel_rfl)
        exact s_pick rfl (wants0 rfl) (.tmp 34) (.tmp 38) _ rfl e34 _ e38 rfl
      · intro a1 w1 hG hF
        exact s_same rfl (wants0 rfl) (.tmp 39) (.inr rfl) (hF.dp 14 39 (by kernel_rfl))
      · intro a1 w1 hG hF
        exact s_old rfl (wantsG hF 15 40 true rfl (by kernel_rfl) rfl) (.tmp 5) (.inr rfl) (.slice A2 n2 c2) (hF.ol 5 (by kernel_rfl)) rfl
      · intro a1 w1 hG hF
        obtain ⟨_, e41, rfl⟩ := hF.dp 16 41 (by kernel_rfl)
        exact s_call rfl (wantsG hF 15 40 true rfl (by kernel_rfl) rfl) _ rfl _ _ (by simp only [execOp, resolve, invoke, List.map_toArray, List.map_cons, List.map_nil, e41]; go_simp) ((HA.out w1 (hP4.gr ((Gr.drew w4).trans hG))).mono fun e w2 ⟨he, hb⟩ => ⟨_, he, rfl, hb⟩)
      · intro a1 w1 hG hF
        exact s_old rfl (wantsG hF 15 40 true rfl (by kernel_rfl) rfl) (.tmp 6) (.inr rfl) (.string ⟨(l).toArray⟩) (hF.ol 6 (by kernel_rfl)) rfl
      · intro a1 w1 hG hF
        obtain ⟨_, e42, rfl⟩ := hF.dp 17 42 (by kernel_rfl)
        obtain ⟨_, e43, rfl⟩ := hF.dp 18 43 (by kernel_rfl)
        exact s_is rfl (wantsG hF 15 40 true rfl (by kernel_rfl) rfl) _ rfl (by simp only [execOp, e42, e43]; go_simp)
      · intro a1 w1 hG hF
        obtain ⟨_, e40, rfl⟩ := hF.dp 15 40 (by kernel_rfl)
        obtain ⟨_, e44, rfl⟩ := hF.dp 19 44 (by kernel_rfl)
        exact s_pick rfl (wants0 rfl) (.tmp 40) (.tmp 44) _ rfl e40 _ e44 rfl
      · intro a1 w1 hG hF
        exact s_same rfl (wants0 rfl) (.tmp 45) (.inl rfl) (hF.dp 20 45 (by kernel_rfl))
    · intro vs w1 hG hf
      have z4 : vs 21 = .bool true := hf.2.2.2.2.2.2.2.2.2.2.2.2.2.2.2.2.2.2.2.2.2.1
      clear hf
      simp only [putAll, Nat.zero_add, Nat.reduceAdd, z4]
      go_simp
      go_wp2_with fail
      go_ret
      exact ⟨rfl, hB7.trans (((Gr.drew w4).trans hG).mono hB7.size)⟩
end Go.Proofs.YtbpgodkdbbiadaaDoor

