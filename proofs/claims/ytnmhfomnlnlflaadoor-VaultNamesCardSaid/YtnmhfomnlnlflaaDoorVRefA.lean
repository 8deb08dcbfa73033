/- The reference's vault: what may be sealed, and its draw. No condition. -/
import Derived.Test.YtnmhfomnlnlflaaDoorKitF
import Derived.Test.YtnmhfomnlnlflaaDoorRemU
namespace Go.Proofs.YtnmhfomnlnlflaaDoor
open Go.RowKit
set_option maxRecDepth 100000 in
set_option maxHeartbeats 1000000 in
theorem repoch_yes (z : Int) (h1 : 1 ≤ z) (h2 : z ≤ 1048576) (w : World) : Calls Tryd.prog 59 #[.int .i64 z] w fun e w' => e = .returned (.bool true) ∧ w = w' := by
  have g1 : z ≥ 1 := h1
  go_enter Tryd.func59, Tryd.ntmps59
  go_wp2_with fail
  go_ret
  exact ⟨rfl, rfl⟩
set_option maxRecDepth 100000 in
set_option maxHeartbeats 1000000 in
theorem repoch_no (z : Int) (h : z < 1 ∨ 1048576 < z) (w : World) : Calls Tryd.prog 59 #[.int .i64 z] w fun e w' => e = .returned (.bool false) ∧ w = w' := by
  by_cases h1 : z < 1
  · have g1 : ¬ 1 ≤ z := by omega
    go_enter Tryd.func59, Tryd.ntmps59
    go_wp2_with fail
    go_ret
    exact ⟨rfl, rfl⟩
  · have g1 : 1 ≤ z := by omega
    have g2 : ¬ z ≤ 1048576 := by omega
    go_enter Tryd.func59, Tryd.ntmps59
    go_wp2_with fail
    go_ret
    exact ⟨rfl, rfl⟩
set_option maxRecDepth 100000 in
set_option maxHeartbeats 1000000 in
theorem rclient_yes (z : Int) (h1 : 1 ≤ z) (h2 : z ≤ 16) (w : World) : Calls Tryd.prog 60 #[.int .i64 z] w fun e w' => e = .returned (.bool true) ∧ w = w' := by
  go_enter Tryd.func60, Tryd.ntmps60
  go_wp2_with fail
  go_ret
  exact ⟨rfl, rfl⟩
set_option maxRecDepth 100000 in
set_option maxHeartbeats 1000000 in
theorem rclient_no (z : Int) (h : z < 1 ∨ 16 < z) (w : World) : Calls Tryd.prog 60 #[.int .i64 z] w fun e w' => e = .returned (.bool false) ∧ w = w' := by
  by_cases h1 : z < 1
  · have g1 : ¬ 1 ≤ z := by omega
    go_enter Tryd.func60, Tryd.ntmps60
    go_wp2_with fail
    go_ret
    exact ⟨rfl, rfl⟩
  · have g1 : 1 ≤ z := by omega
    have g2 : ¬ z ≤ 16 := by omega
    go_enter Tryd.func60, Tryd.ntmps60
    go_wp2_with fail
    go_ret
    exact ⟨rfl, rfl⟩
set_option maxRecDepth 100000 in
set_option maxHeartbeats 1000000 in
theorem rcounter_yes (z : Int) (h1 : 1 ≤ z) (h2 : z ≤ 4611686018427387904) (w : World) : Calls Tryd.prog 61 #[.int .i64 z] w fun e w' => e = .returned (.bool true) ∧ w = w' := by
  go_enter Tryd.func61, Tryd.ntmps61
  go_wp2_with fail
  go_ret
  exact ⟨rfl, rfl⟩
set_option maxRecDepth 100000 in
set_option maxHeartbeats 1000000 in
theorem rcounter_no (z : Int) (h : z < 1 ∨ 4611686018427387904 < z) (w : World) : Calls Tryd.prog 61 #[.int .i64 z] w fun e w' => e = .returned (.bool false) ∧ w = w' := by
  by_cases h1 : z < 1
  · have g1 : ¬ 1 ≤ z := by omega
    go_enter Tryd.func61, Tryd.ntmps61
    go_wp2_with fail
    go_ret
    exact ⟨rfl, rfl⟩
  · have g1 : 1 ≤ z := by omega
    have g2 : ¬ z ≤ 4611686018427387904 := by omega
    go_enter Tryd.func61, Tryd.ntmps61
    go_wp2_with fail
    go_ret
    exact ⟨rfl, rfl⟩
set_option maxRecDepth 100000 in
set_option maxHeartbeats 1000000 in
theorem rname_yes (z : Int) (h1 : 1 ≤ z) (h2 : z ≤ 64) (w : World) : Calls Tryd.prog 39 #[.int .i64 z] w fun e w' => e = .returned (.bool true) ∧ w = w' := by
  go_enter Tryd.func39, Tryd.ntmps39
  go_wp2_with fail
  go_ret
  exact ⟨rfl, rfl⟩
set_option maxRecDepth 100000 in
set_option maxHeartbeats 1000000 in
theorem rname_no (z : Int) (h : z < 1 ∨ 64 < z) (w : World) : Calls Tryd.prog 39 #[.int .i64 z] w fun e w' => e = .returned (.bool false) ∧ w = w' := by
  by_cases h1 : z < 1
  · have g1 : ¬ 1 ≤ z := by omega
    go_enter Tryd.func39, Tryd.ntmps39
    go_wp2_with fail
    go_ret
    exact ⟨rfl, rfl⟩
  · have g1 : 1 ≤ z := by omega
    have g2 : ¬ z ≤ 64 := by omega
    go_enter Tryd.func39, Tryd.ntmps39
    go_wp2_with fail
    go_ret
    exact ⟨rfl, rfl⟩
set_option maxRecDepth 100000 in
set_option maxHeartbeats 2000000 in
theorem rright_yes (e c k : Int) (h : Right e c k) (w : World) : Calls Tryd.prog 42 #[.int .i64 e, .int .i64 c, .int .i64 k] w fun r w' => r = .returned (.bool true) ∧ w = w' := by
  obtain ⟨h1, h2, h3, h4, h5, h6⟩ := h
  have HE := Lib.hid (repoch_yes e h1 h2)
  have HC := Lib.hid (rclient_yes c h3 h4)
  have HK := Lib.hid (rcounter_yes k h5 h6)
  go_enter Tryd.func42, Tryd.ntmps42
  go_wp2_with fail
  refine (HE.out w).mono ?_
  rintro r _ ⟨rfl, rfl⟩
  go_wp2_with fail
  refine (HC.out w).mono ?_
  rintro r _ ⟨rfl, rfl⟩
  go_wp2_with fail
  refine (HK.out w).mono ?_
  rintro r _ ⟨rfl, rfl⟩
  go_wp2_with fail
  go_ret
  exact ⟨rfl, rfl⟩
set_option maxRecDepth 100000 in
set_option maxHeartbeats 2000000 in
theorem rright_no (e c k : Int) (h : ¬ Right e c k) (w : World) : Calls Tryd.prog 42 #[.int .i64 e, .int .i64 c, .int .i64 k] w fun r w' => r = .returned (.bool false) ∧ w = w' := by
  by_cases he : 1 ≤ e ∧ e ≤ 1048576
  · have HE := Lib.hid (repoch_yes e he.1 he.2)
    by_cases hc : 1 ≤ c ∧ c ≤ 16
    · have HC := Lib.hid (rclient_yes c hc.1 hc.2)
      have HK := Lib.hid (rcounter_no k (by unfold Right at h; omega))
      go_enter Tryd.func42, Tryd.ntmps42
      go_wp2_with fail
      refine (HE.out w).mono ?_
      rintro r _ ⟨rfl, rfl⟩
      go_wp2_with fail
      refine (HC.out w).mono ?_
      rintro r _ ⟨rfl, rfl⟩
      go_wp2_with fail
      refine (HK.out w).mono ?_
      rintro r _ ⟨rfl, rfl⟩
      go_wp2_with fail
      go_ret
      exact ⟨rfl, rfl⟩
    · have HC := Lib.hid (rclient_no c (by omega))
      go_enter Tryd.func42, Tryd.ntmps42
      go_wp2_with fail
      refine (HE.out w).mono ?_
      rintro r _ ⟨rfl, rfl⟩
      go_wp2_with fail
      refine (HC.out w).mono ?_
      rintro r _ ⟨rfl, rfl⟩
      go_wp2_with fail
      go_ret
      exact ⟨rfl, rfl⟩
  · have HE := Lib.hid (repoch_no e (by omega))
    go_enter Tryd.func42, Tryd.ntmps42
    go_wp2_with fail
    refine (HE.out w).mono ?_
    rintro r _ ⟨rfl, rfl⟩
    go_wp2_with fail
    go_ret
    exact ⟨rfl, rfl⟩
set_option maxRecDepth 100000 in
set_option maxHeartbeats 4000000 in
theorem rdraw_any (K : List UInt8) (hK : K.length = 32) (kind n size : Nat) (hk : kind ≤ 1000) (hn : n ≤ 1000000) (hs : 8 ≤ size) (hs2 : size ≤ 1000) (w : World) :
    Calls Tryd.prog 41 #[.string ⟨K.toArray⟩, .int .i64 (kind : Int), .int .i64 (n : Int), .int .i64 (size : Int)] w fun r w' => r = .returned (.string ⟨(drawL K kind n size).toArray⟩) ∧ Gr w w' := by
  obtain ⟨i0, hi0, hz0, hz1, hz2⟩ := info_parts Tryd.info5
  obtain ⟨N, hN⟩ : ∃ N, N = beL 4 kind ++ beL 8 n := ⟨_, rfl⟩
  have hNl : N.length = 12 := by rw [hN]; simp
  obtain ⟨p, hp⟩ : ∃ s : ByteArray, s = ⟨(beL 4 kind).toArray⟩ := ⟨_, rfl⟩
  obtain ⟨q, hq⟩ : ∃ s : ByteArray, s = ⟨(beL 8 n).toArray⟩ := ⟨_, rfl⟩
  have hps : p.size = 4 := by rw [hp]; show (beL 4 kind).length = 4; simp
  have hqs : q.size = 8 := by rw [hq]; show (beL 8 n).length = 8; simp
  have HP : Hid (∀ w, Calls Tryd.prog 57 #[.int .u64 (kind : Int), .int .i64 4, .bool true] w fun r w' => r = .returned (.string p) ∧ Below w.heap.size w w') := by
    intro w
    rw [hp]
    exact refPut_any kind (by omega) 4 true w
  have HQ : Hid (∀ w, Calls Tryd.prog 57 #[.int .u64 (n : Int), .int .i64 8, .bool true] w fun r w' => r = .returned (.string q) ∧ Below w.heap.size w w') := by
    intro w
    rw [hq]
    exact refPut_any n (by omega) 8 true w
  have HQL : Hid (∀ w, Calls Tryd.prog 57 #[.int .u64 (n : Int), .int .i64 8, .bool true] w fun r w' => r = .returned (.string ⟨(beL 8 n).toArray⟩) ∧ Below w.heap.size w w') := fun w => refPut_any n (by omega) 8 true w
  have HPQ : Hid (p ++ q = ⟨N.toArray⟩) := by
    show _ = _
    rw [hp, hq, str_append, hN]
  obtain ⟨X, hX⟩ : ∃ X, X = streamL K 0 N (List.replicate (size - 8) 0) := ⟨_, rfl⟩
  have HS : Hid (∀ w, Calls Tryd.prog 58 #[.string ⟨K.toArray⟩, .int .u32 0, .string ⟨N.toArray⟩, .string ⟨(List.replicate (size - 8) (0 : UInt8)).toArray⟩] w fun e w' => e = .returned (.string ⟨X.toArray⟩) ∧ Below w.heap.size w w') := by
    intro w
    rw [hX]
    exact refStream_any K hK 0 N hNl _ (by simp; omega) w
  have HD : Hid (drawL K kind n size = beL 8 n ++ X) := by
    show _ = _
    rw [hX, hN, drawL]
  have hk4 : (kind : Int) ≤ 1000 := by omega
  have hn8 : (n : Int) ≤ 1000000 := by omega
  have n1 : ¬ 9223372036854775807 < p.size + q.size := by omega
  have hXl : X.length ≤ 1000 := by rw [hX, streamL_len]; simp; omega
  clear hp hq hN hX
  go_enter Tryd.func41, Tryd.ntmps41
  go_wp2_with fail
  refine (HP.out w).mono ?_
  rintro e w2 ⟨rfl, hB1⟩
  go_wp2_with fail
  refine (HQ.out w2).mono ?_
  rintro e w3 ⟨rfl, hB2⟩
  have hG3 : Gr w w3 := Gr.trans hB1 hB2
  go_upto_region 2 with fail
  simp only [HPQ.out]
  refine wp_region_ssaL (by kernel_rfl) [IsV (.int .i64 ((n : Nat) : Int)), IsV (.int .u64 ((n : Nat) : Int)), IsV (.string ⟨(beL 8 n).toArray⟩), IsV (.string ⟨(K).toArray⟩), IsV (.string ⟨(N).toArray⟩), IsV (.int .i64 ((size : Nat) : Int)), IsV (.int .i64 ((size - 8 : Nat) : Int)), RdV (size - 8) (List.replicate (size - 8) 0), IsV (.string ⟨(List.replicate (size - 8) 0).toArray⟩), IsV (.string ⟨(X).toArray⟩), IsV (.string ⟨(beL 8 n ++ X).toArray⟩), IsV (.string ⟨(beL 8 n ++ X).toArray⟩)] (by kernel_rfl) ?_ ?_ ?_
  · intro φ hφ v w1 w2 h hg
    simp only [List.mem_cons, List.not_mem_nil, or_false] at hφ
    rcases hφ with rfl | rfl | rfl | rfl | rfl | rfl | rfl | rfl | rfl | rfl | rfl | rfl
    all_goals first | exact h | exact RdV.gr h hg
  · refine ⟨?_, ?_, ?_, ?_, ?_, ?_, ?_, ?_, ?_, ?_, ?_, ?_, trivial⟩
    · intro a1 w1 hG hF
      exact s_old rfl (wants0 rfl) (.tmp 2) (.inr rfl) (.int .i64 ((n : Nat) : Int)) (hF.ol 2 (by kernel_rfl)) rfl
    · intro a1 w1 hG hF
      obtain ⟨_, e17, rfl⟩ := hF.dp 0 17 (by kernel_rfl)
      exact s_is rfl (wants0 rfl) _ rfl (run_toN Tryd.underlying3 Tryd.underlying39 (by omega) e17)
    · intro a1 w1 hG hF
      obtain ⟨_, e18, rfl⟩ := hF.dp 1 18 (by kernel_rfl)
      exact s_call rfl (wants0 rfl) _ rfl _ _ (by simp only [execOp, resolve, invoke, List.map_toArray, List.map_cons, List.map_nil, e18]; go_simp) ((HQL.out w1).mono fun e w2 ⟨he, hb⟩ => ⟨_, he, rfl, hb⟩)
    · intro a1 w1 hG hF
      exact s_old rfl (wants0 rfl) (.tmp 0) (.inr rfl) (.string ⟨(K).toArray⟩) (hF.ol 0 (by kernel_rfl)) rfl
    · intro a1 w1 hG hF
      exact s_old rfl (wants0 rfl) (.tmp 9) (.inr rfl) (.string ⟨(N).toArray⟩) (hF.ol 9 (by kernel_rfl)) rfl
    · intro a1 w1 hG hF
      exact s_old rfl (wants0 rfl) (.tmp 3) (.inr rfl) (.int .i64 ((size : Nat) : Int)) (hF.ol 3 (by kernel_rfl)) rfl
    · intro a1 w1 hG hF
      obtain ⟨_, e22, rfl⟩ := hF.dp 5 22 (by kernel_rfl)
      exact s_is rfl (wants0 rfl) _ rfl (run_subN (a := size) (b := 8) e22 rfl (by omega) (by omega))
    · intro a1 w1 hG hF
      obtain ⟨_, e23, rfl⟩ := hF.dp 6 23 (by kernel_rfl)
      exact s_make rfl (wants0 rfl) rfl Tryd.underlying27 hi0 hz0 hz1 hz2 (size - 8) (by omega) e23 e23 rfl
    · intro a1 w1 hG hF
      obtain ⟨_, e24, A24, c24, rfl, hc24, r24⟩ := hF.dp 7 24 (by kernel_rfl)
      exact s_str rfl (wants0 rfl) 27 9 5 (.tmp 24) rfl Tryd.underlying27 Tryd.underlying5 Tryd.underlying9 _ _ _ (List.replicate (size - 8) 0) e24 r24 rfl
    · intro a1 w1 hG hF
      obtain ⟨_, e20, rfl⟩ := hF.dp 3 20 (by kernel_rfl)
      obtain ⟨_, e21, rfl⟩ := hF.dp 4 21 (by kernel_rfl)
      obtain ⟨_, e25, rfl⟩ := hF.dp 8 25 (by kernel_rfl)
      exact s_call rfl (wants0 rfl) _ rfl _ _ (by simp only [execOp, resolve, invoke, List.map_toArray, List.map_cons, List.map_nil, e20, e21, e25]; go_simp) ((HS.out w1).mono fun e w2 ⟨he, hb⟩ => ⟨_, he, rfl, hb⟩)
    · intro a1 w1 hG hF
      obtain ⟨_, e19, rfl⟩ := hF.dp 2 19 (by kernel_rfl)
      obtain ⟨_, e26, rfl⟩ := hF.dp 9 26 (by kernel_rfl)
      exact s_is rfl (wants0 rfl) _ rfl (run_addS (by rw [beL_length]; omega) e19 e26)
    · intro a1 w1 hG hF
      exact s_same rfl (wants0 rfl) (.tmp 27) (.inl rfl) (hF.dp 10 27 (by kernel_rfl))
  · intro vs w1 hG hf
    have z8 : vs 11 = .string ⟨(beL 8 n ++ X).toArray⟩ := hf.2.2.2.2.2.2.2.2.2.2.2.1
    clear hf
    simp only [putAll, Nat.zero_add, Nat.reduceAdd, z8]
    have hG4 := hG3.trans ((Gr.drew _).trans hG)
    go_simp
    go_wp2_with fail
    go_ret
    rw [HD.out]
    exact ⟨rfl, hG4⟩
end Go.Proofs.YtnmhfomnlnlflaaDoor

