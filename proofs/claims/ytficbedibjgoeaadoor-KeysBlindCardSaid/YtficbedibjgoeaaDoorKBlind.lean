/- The walk of the law KeysBlind. No condition. -/
import Derived.Test.YtficbedibjgoeaaDoorKSeal
import Derived.Test.YtficbedibjgoeaaDoorHBegins
namespace Go.Proofs.YtficbedibjgoeaaDoor
open Go.RowKit
set_option maxHeartbeats 1000000 in
theorem name_yes (z : Int) (h1 : 1 ≤ z) (h2 : z ≤ 64) (w : World) : Calls Tryd.prog 9 #[.int .i64 z] w fun e w' => e = .returned (.bool true) ∧ w = w' := by
  go_enter Tryd.func9, Tryd.ntmps9
  go_wp2_with fail
  go_ret
  exact ⟨rfl, rfl⟩
set_option maxHeartbeats 1000000 in
theorem name_no (z : Int) (h : z < 1 ∨ 64 < z) (w : World) : Calls Tryd.prog 9 #[.int .i64 z] w fun e w' => e = .returned (.bool false) ∧ w = w' := by
  by_cases h1 : z < 1
  · have g1 : ¬ 1 ≤ z := by omega
    go_enter Tryd.func9, Tryd.ntmps9
    go_wp2_with fail
    go_ret
    exact ⟨rfl, rfl⟩
  · have g1 : 1 ≤ z := by omega
    have g2 : ¬ z ≤ 64 := by omega
    go_enter Tryd.func9, Tryd.ntmps9
    go_wp2_with fail
    go_ret
    exact ⟨rfl, rfl⟩
theorem eqBl (D : List UInt8) (hD : D.length = 32) (w : World) : (Op.equalIn 10000 24 (.agg (u8s D).toArray) (.agg (u8s D).toArray)).run Tryd.prog w = .ok true w := by
  have h := run_equalIn_bytes (P := Tryd.prog) w 9998 24 5 32 Tryd.underlying24 Tryd.underlying5 (fun w => by kernel_rfl) D D hD hD
  rw [beq_self_eq_true] at h
  exact h
set_option maxRecDepth 100000 in
set_option maxHeartbeats 8000000 in
theorem law_kblind (M : List UInt8) (hM : M.length = 32) (A : Option Addr) (n c : Nat) (l0 : List UInt8) (w : World) (hnc : n ≤ c) (hr0 : Rd w A n (u8s l0)) (gw : Glob w) :
    Calls Tryd.prog 3 #[.agg (u8s M).toArray, .slice A n c] w fun e w' => e = .returned (.bool true) ∧ Below w.heap.size w w' := by
  obtain ⟨i0, hi0, hz0, hz1, hz2⟩ := info_parts Tryd.info5
  obtain ⟨j, hji, hjn, hj2⟩ := cut_at n 80
  have hrj : Rd w A j (u8s (l0.take j)) := by rw [← u8s_take]; exact hr0.take hjn
  obtain ⟨nm, hnm⟩ : ∃ l, l = l0.take j := ⟨_, rfl⟩
  rw [← hnm] at hrj
  have hll : nm.length = j := by simpa using hrj.1
  obtain ⟨s, hs⟩ : ∃ s : ByteArray, s = ⟨nm.toArray⟩ := ⟨_, rfl⟩
  have hss : s.size = j := by rw [hs]; exact hll
  have HSS := Lib.hid hs
  replace hji : min (n : Int) 80 = (j : Int) := hji
  have hcut := fun w1 => run_cut_h (P := Tryd.prog) Tryd.underlying23 (by kernel_rfl) (A := A) (n := n) (c := c) (hi := j) (h := (j : Int)) rfl (by omega) w1
  have h2 : Arr (w.alloc (.cells (u8s M).toArray 22)) w.heap.size 22 (u8s M) := Arr.newAt rfl rfl
  have G0 : Gr w (w.alloc (.cells (u8s M).toArray 22)) := Gr.alloc _ _
  clear hnm hr0 hs
  go_enter Tryd.func3, Tryd.ntmps3
  go_upto_region 1 with fail
  change Code.wp _ _ _ _ (w.alloc (.cells (u8s M).toArray 22))
  generalize w.alloc (.cells (u8s M).toArray 22) = w0 at h2 G0 ⊢
  obtain ⟨g2, hg2⟩ : ∃ g, g = w.heap.size := ⟨_, rfl⟩
  rw [← hg2] at h2
  simp only [← hg2]
  clear hg2
  have gw0 := gw.gr G0
  have hrj0 := (Gr.alloc w0 (.cells #[] 5)).rd (G0.rd hrj)
  have hO : OwnG (w0.alloc (.cells #[] 5)) w0.heap.size (some ⟨w0.heap.size, 0, none⟩) 0 0 [] :=
    ⟨Nat.le_refl _, (by unfold maxLen; omega), (fun h => by (cases h)), rd_made rfl _ _ _ 0 _ rfl rfl, (fun ad h => by injection h with h; subst h; exact ⟨rfl, Nat.le_refl _⟩), (fun ad _ j h1 h2 => by omega)⟩
  have G1 : Gr w0 (w0.alloc (.cells #[] 5)) := Gr.alloc _ _
  clear hrj gw
  go_upto_region 2 with (at_builtin; go_must (refine wpList_appG rfl (.tmp 8) (.tmp 13) 23 23 5 rfl i0 (.int .u8 0) Tryd.underlying23 hi0 hz0 hz1 (by omega) rfl rfl hO _ rfl (Src.ofRd Tryd.underlying23 hrj0 (u8s_oneCell _)) (by omega) G1.size ?_; intro A3 c3 w3 hA3))
  have hr3 : Rd w3 A3 j (u8s nm) := by
    have := hA3.own.rd
    rwa [List.nil_append, Nat.zero_add] at this
  have hc3 := hA3.own.le
  rw [Nat.zero_add] at hc3
  have G3 : Gr w0 w3 := Below.trans G1 hA3.below
  have h23 := h2.gr G3
  have gw3 := gw0.gr G3
  have GW3 := Gr.trans G0 G3
  have hcv : (convert 23 9 (.slice A3 j c3)).run Tryd.prog w3 = .ok (.string s) w3 := by
    rw [HSS.out]
    exact run_str (P := Tryd.prog) (c := c3) w3 Tryd.underlying23 Tryd.underlying5 Tryd.underlying9 hr3
  clear hA3 hO G1 G3 G0 h2 gw0 hrj0 hcut hji
  by_cases hz : 1 ≤ j ∧ j ≤ 64
  · obtain ⟨hz1, hz2⟩ := hz
    obtain ⟨X, hX⟩ : ∃ X, X = blindL M nm := ⟨_, rfl⟩
    have hXl : X.length = 32 := by rw [hX]; simp
    have HK : Hid (∀ w, Rd w A3 j (u8s nm) → Glob w → Calls Tryd.prog 7 #[.agg (u8s M).toArray, .slice A3 j c3] w fun r w' => r = .returned (.tuple #[.agg (u8s X).toArray, .int .i64 0]) ∧ Below w.heap.size w w') := by
      intro w hr gw
      rw [hX]
      exact blind_any M nm hM A3 j c3 hz1 hz2 hc3 w hr gw
    have HR : Hid (∀ w, Calls Tryd.prog 10 #[.string ⟨M.toArray⟩, .string s] w fun r w' => r = .returned (.string ⟨X.toArray⟩) ∧ Below w.heap.size w w') := by
      intro w
      rw [hX, HSS.out]
      exact refBlind_any M nm hM (by omega) w
    have HE := Lib.hid (name_yes (j : Int) (by omega) (by omega))
    have HH := Lib.hid hides_any
    clear hX hz1 hz2
    go_wp2_with first
      | (refine wpList_load_mid rfl 22 (.tmp 2) rfl g2 0 rfl (u8s M) _ h23.range Tryd.underlying22 rfl (infoU8_32 M hM) ?_)
    refine (HK.out w3 hr3 gw3).mono ?_
    rintro r w4 ⟨rfl, hB4⟩
    have h24 := h23.gr hB4
    go_wp2_with (refine wpList_new rfl 24 (.tmp 6) (.tmp 21) rfl _ (u8s X) rfl rfl rfl (by simp only [u8s_length, hXl]; rfl) (infoBl X hXl) (u8s_oneCell _) ?_; intro w5 h6 hG5)
    have G5 : Gr w3 w5 := Gr.trans hB4 hG5
    have h25 := h24.gr hG5
    have GW5 := Gr.trans GW3 G5
    have hr5 := G5.rd hr3
    generalize w4.heap.size = g6 at h6 ⊢
    clear h23 h24 hB4 hG5 GW3 G5 hr3 gw3 hcv
    refine (HH.out w5).mono ?_
    rintro r w6 ⟨rfl, hB6⟩
    have h26 := h25.gr hB6
    have h66 := h6.gr hB6
    have hr6 := Rd.below hr5 hB6
    have GW6 := Gr.trans GW5 hB6
    have hcv : (convert 23 9 (.slice A3 j c3)).run Tryd.prog w6 = .ok (.string s) w6 := by
      rw [HSS.out]
      exact run_str (P := Tryd.prog) (c := c3) w6 Tryd.underlying23 Tryd.underlying5 Tryd.underlying9 hr6
    clear h25 h6 hr5 GW5 hB6
    go_wp2_with fail
    refine (HE.out w6).mono ?_
    rintro r _ ⟨rfl, rfl⟩
    go_upto_region 8 with fail
    have hr2 := h26.rdAll hM
    have hr66 : Rd w6 (some ⟨g6, 0, none⟩) 32 (u8s X) := h66.rdAll hXl
    refine wp_region_ssaL (by kernel_rfl) [IsV (.int .i64 ((0 : Nat) : Int)), IsV (.bool true), IsV (.bool true), IsV (.slice (some ⟨g6, 0, none⟩) 32 32), IsV (.string ⟨(X).toArray⟩), IsV (.slice (some ⟨g2, 0, none⟩) 32 32), IsV (.string ⟨(M).toArray⟩), IsV (.string s), IsV (.string ⟨(X).toArray⟩), IsV (.bool true), IsV (.bool true), IsV (.bool true)] (by kernel_rfl) ?_ ?_ ?_
    · intro φ hφ v w1 w2 h hg
      simp only [List.mem_cons, List.not_mem_nil, or_false] at hφ
      rcases hφ with rfl | rfl | rfl | rfl | rfl | rfl | rfl | rfl | rfl | rfl | rfl | rfl
      all_goals first | exact h | exact RdV.gr h hg
    · refine ⟨?_, ?_, ?_, ?_, ?_, ?_, ?_, ?_, ?_, ?_, ?_, ?_, trivial⟩
      · intro a1 w1 hG hF
        exact s_old rfl (wants0 rfl) (.tmp 7) (.inr rfl) (.int .i64 ((0 : Nat) : Int)) (hF.ol 7 (by kernel_rfl)) rfl
      · intro a1 w1 hG hF
        obtain ⟨_, e42, rfl⟩ := hF.dp 0 42 (by kernel_rfl)
        exact s_is rfl (wants0 rfl) _ rfl (by simp only [execOp, e42]; go_simp)
      · intro a1 w1 hG hF
        exact s_same rfl (wants0 rfl) (.tmp 43) (.inr rfl) (hF.dp 1 43 (by kernel_rfl))
      · intro a1 w1 hG hF
        have e6 : a1.eval (.tmp 6) = .pointer (some ⟨g6, 0, none⟩) := hF.ol 6 (by kernel_rfl)
        exact s_is rfl (wantsG hF 2 44 true rfl (by kernel_rfl) rfl) _ rfl (by simp only [execOp, e6, Option.map, Sem.run_bind, run_cutAll (P := Tryd.prog) Tryd.underlying24 (by kernel_rfl), Result.andThen_ok, Sem.run_pure])
      · intro a1 w1 hG hF
        obtain ⟨_, e45, rfl⟩ := hF.dp 3 45 (by kernel_rfl)
        exact s_str rfl (wantsG hF 2 44 true rfl (by kernel_rfl) rfl) 23 9 5 (.tmp 45) rfl Tryd.underlying23 Tryd.underlying5 Tryd.underlying9 _ _ _ (X) e45 (((Gr.drew w6).trans hG).rd hr66) rfl
      · intro a1 w1 hG hF
        have e2 : a1.eval (.tmp 2) = .pointer (some ⟨g2, 0, none⟩) := hF.ol 2 (by kernel_rfl)
        exact s_is rfl (wantsG hF 2 44 true rfl (by kernel_rfl) rfl) _ rfl (by simp only [execOp, e2, Option.map, Sem.run_bind, run_cutAll (P := Tryd.prog) Tryd.underlying22 (by kernel_rfl), Result.andThen_ok, Sem.run_pure])
      · intro a1 w1 hG hF
        obtain ⟨_, e47, rfl⟩ := hF.dp 5 47 (by kernel_rfl)
        exact s_str rfl (wantsG hF 2 44 true rfl (by kernel_rfl) rfl) 23 9 5 (.tmp 47) rfl Tryd.underlying23 Tryd.underlying5 Tryd.underlying9 _ _ _ (M) e47 (((Gr.drew w6).trans hG).rd hr2) rfl
      · intro a1 w1 hG hF
        exact s_old rfl (wantsG hF 2 44 true rfl (by kernel_rfl) rfl) (.tmp 5) (.inr rfl) (.string s) (hF.ol 5 (by kernel_rfl)) rfl
      · intro a1 w1 hG hF
        obtain ⟨_, e48, rfl⟩ := hF.dp 6 48 (by kernel_rfl)
        obtain ⟨_, e49, rfl⟩ := hF.dp 7 49 (by kernel_rfl)
        exact s_call rfl (wantsG hF 2 44 true rfl (by kernel_rfl) rfl) _ rfl _ _ (by simp only [execOp, resolve, invoke, List.map_toArray, List.map_cons, List.map_nil, e48, e49]; go_simp) ((HR.out w1).mono fun e w2 ⟨he, hb⟩ => ⟨_, he, rfl, hb⟩)
      · intro a1 w1 hG hF
        obtain ⟨_, e46, rfl⟩ := hF.dp 4 46 (by kernel_rfl)
        obtain ⟨_, e50, rfl⟩ := hF.dp 8 50 (by kernel_rfl)
        exact s_is rfl (wantsG hF 2 44 true rfl (by kernel_rfl) rfl) _ rfl (by simp only [execOp, e46, e50]; go_simp)
      · intro a1 w1 hG hF
        obtain ⟨_, e44, rfl⟩ := hF.dp 2 44 (by kernel_rfl)
        obtain ⟨_, e51, rfl⟩ := hF.dp 9 51 (by kernel_rfl)
        exact s_pick rfl (wants0 rfl) (.tmp 44) (.tmp 51) _ rfl e44 _ e51 rfl
      · intro a1 w1 hG hF
        exact s_same rfl (wants0 rfl) (.tmp 52) (.inl rfl) (hF.dp 10 52 (by kernel_rfl))
    · intro vs w1 hG hf
      have z4 : vs 11 = .bool true := hf.2.2.2.2.2.2.2.2.2.2.2.1
      clear hf
      simp only [putAll, Nat.zero_add, Nat.reduceAdd, z4]
      go_simp
      go_wp2_with fail
      go_ret
      exact ⟨rfl, Gr.trans GW6 ((Gr.drew w6).trans hG)⟩
  · have hz' : j < 1 ∨ 64 < j := by omega
    have hzi : (j : Int) < 1 ∨ 64 < (j : Int) := by omega
    obtain ⟨Z, hZ⟩ : ∃ Z : List UInt8, Z = List.replicate 32 0 := ⟨_, rfl⟩
    have hZl : Z.length = 32 := by rw [hZ]; rfl
    have HK : Hid (∀ w, Calls Tryd.prog 7 #[.agg (u8s M).toArray, .slice A3 j c3] w fun r w' => r = .returned (.tuple #[.agg (u8s Z).toArray, .int .i64 1]) ∧ Below w.heap.size w w') := by
      intro w
      rw [hZ]
      exact blind_no M A3 j c3 hz' w
    have HQ : Hid (∀ w, (Op.equalIn 10000 24 (.agg (u8s Z).toArray) (.agg #[.int .u8 0, .int .u8 0, .int .u8 0, .int .u8 0, .int .u8 0, .int .u8 0, .int .u8 0, .int .u8 0, .int .u8 0, .int .u8 0, .int .u8 0, .int .u8 0, .int .u8 0, .int .u8 0, .int .u8 0, .int .u8 0, .int .u8 0, .int .u8 0, .int .u8 0, .int .u8 0, .int .u8 0, .int .u8 0, .int .u8 0, .int .u8 0, .int .u8 0, .int .u8 0, .int .u8 0, .int .u8 0, .int .u8 0, .int .u8 0, .int .u8 0, .int .u8 0])).run Tryd.prog w = .ok true w) := by
      intro w
      rw [hZ]
      exact eqBl (List.replicate 32 0) rfl w
    have HE := Lib.hid (name_no (j : Int) hzi)
    have HH := Lib.hid hides_any
    clear hz hz' hzi hZ
    go_wp2_with first
      | (refine wpList_load_mid rfl 22 (.tmp 2) rfl g2 0 rfl (u8s M) _ h23.range Tryd.underlying22 rfl (infoU8_32 M hM) ?_)
    refine (HK.out w3).mono ?_
    rintro r w4 ⟨rfl, hB4⟩
    go_wp2_with (refine wpList_new rfl 24 (.tmp 6) (.tmp 21) rfl _ (u8s Z) rfl rfl rfl (by simp only [u8s_length, hZl]; rfl) (infoBl Z hZl) (u8s_oneCell _) ?_; intro w5 h6 hG5)
    have G5 : Gr w3 w5 := Gr.trans hB4 hG5
    have GW5 := Gr.trans GW3 G5
    have hr5 := G5.rd hr3
    generalize w4.heap.size = g6 at h6 ⊢
    clear hB4 hG5 GW3 G5 hr3 gw3 hcv
    refine (HH.out w5).mono ?_
    rintro r w6 ⟨rfl, hB6⟩
    have h66 := h6.gr hB6
    have hr6 := Rd.below hr5 hB6
    have GW6 := Gr.trans GW5 hB6
    have hcv : (convert 23 9 (.slice A3 j c3)).run Tryd.prog w6 = .ok (.string s) w6 := by
      rw [HSS.out]
      exact run_str (P := Tryd.prog) (c := c3) w6 Tryd.underlying23 Tryd.underlying5 Tryd.underlying9 hr6
    clear h6 hr5 GW5 hB6
    go_wp2_with fail
    refine (HE.out w6).mono ?_
    rintro r _ ⟨rfl, rfl⟩
    have heq := HQ.out w6
    go_wp2_with first
      | (refine wpList_loadW rfl 24 (.tmp 6) rfl rfl h66 ⟨_, _, Tryd.underlying24⟩ (infoBl Z hZl) ?_)
    go_ret
    exact ⟨rfl, GW6⟩
end Go.Proofs.YtficbedibjgoeaaDoor

