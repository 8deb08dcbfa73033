/- The walk of the law KeysNonces. No condition. -/
import Derived.Test.YtficbedibjgoeaaDoorKeysN
import Derived.Test.YtficbedibjgoeaaDoorSsaN
import Derived.Test.YtficbedibjgoeaaDoorKeysRef
namespace Go.Proofs.YtficbedibjgoeaaDoor
open Go.RowKit
set_option maxHeartbeats 1000000 in
theorem client_yes (z : Int) (h1 : 1 ≤ z) (h2 : z ≤ 16) (w : World) : Calls Tryd.prog 12 #[.int .i64 z] w fun e w' => e = .returned (.bool true) ∧ w = w' := by
  go_enter Tryd.func12, Tryd.ntmps12
  go_wp2_with fail
  go_ret
  exact ⟨rfl, rfl⟩
set_option maxHeartbeats 1000000 in
theorem client_no (z : Int) (h : z < 1 ∨ 16 < z) (w : World) : Calls Tryd.prog 12 #[.int .i64 z] w fun e w' => e = .returned (.bool false) ∧ w = w' := by
  by_cases h1 : z < 1
  · have g1 : ¬ 1 ≤ z := by omega
    go_enter Tryd.func12, Tryd.ntmps12
    go_wp2_with fail
    go_ret
    exact ⟨rfl, rfl⟩
  · have g1 : 1 ≤ z := by omega
    have g2 : ¬ z ≤ 16 := by omega
    go_enter Tryd.func12, Tryd.ntmps12
    go_wp2_with fail
    go_ret
    exact ⟨rfl, rfl⟩
set_option maxHeartbeats 1000000 in
theorem counter_yes (z : Int) (h1 : 1 ≤ z) (h2 : z ≤ 4611686018427387904) (w : World) : Calls Tryd.prog 13 #[.int .i64 z] w fun e w' => e = .returned (.bool true) ∧ w = w' := by
  go_enter Tryd.func13, Tryd.ntmps13
  go_wp2_with fail
  go_ret
  exact ⟨rfl, rfl⟩
set_option maxHeartbeats 1000000 in
theorem counter_no (z : Int) (h : z < 1 ∨ 4611686018427387904 < z) (w : World) : Calls Tryd.prog 13 #[.int .i64 z] w fun e w' => e = .returned (.bool false) ∧ w = w' := by
  by_cases h1 : z < 1
  · have g1 : ¬ 1 ≤ z := by omega
    go_enter Tryd.func13, Tryd.ntmps13
    go_wp2_with fail
    go_ret
    exact ⟨rfl, rfl⟩
  · have g1 : 1 ≤ z := by omega
    have g2 : ¬ z ≤ 4611686018427387904 := by omega
    go_enter Tryd.func13, Tryd.ntmps13
    go_wp2_with fail
    go_ret
    exact ⟨rfl, rfl⟩
/-- What keys.Nonce hands back, whatever it is handed. -/
theorem nonce_all (a b : Int) : ∃ X E, X.length = 12 ∧ (∀ w, Calls Tryd.prog 11 #[.int .i64 a, .int .i64 b] w fun e w' => e = .returned (.tuple #[.agg (u8s X).toArray, .int .i64 E]) ∧ Below w.heap.size w w') ∧
    ((1 ≤ a ∧ a ≤ 16 ∧ 1 ≤ b ∧ b ≤ 4611686018427387904 ∧ E = 0 ∧ X = nonceL a.toNat b.toNat) ∨ (¬ (1 ≤ a ∧ a ≤ 16 ∧ 1 ≤ b ∧ b ≤ 4611686018427387904) ∧ E = 1 ∧ X = List.replicate 12 0)) := by
  by_cases h : 1 ≤ a ∧ a ≤ 16 ∧ 1 ≤ b ∧ b ≤ 4611686018427387904
  · refine ⟨nonceL a.toNat b.toNat, 0, by simp, fun w => ?_, .inl ⟨h.1, h.2.1, h.2.2.1, h.2.2.2, rfl, rfl⟩⟩
    have := nonce_any a.toNat b.toNat (by omega) (by omega) (by omega) (by omega) w
    rwa [Int.toNat_of_nonneg (by omega), Int.toNat_of_nonneg (by omega)] at this
  · exact ⟨List.replicate 12 0, 1, by simp, fun w => nonce_no a b h w, .inr ⟨h, rfl, rfl⟩⟩
theorem nonce_same {a b c d : Int} (ha1 : 1 ≤ a) (ha : a ≤ 16) (hb1 : 1 ≤ b) (hb : b ≤ 4611686018427387904) (hc1 : 1 ≤ c) (hc : c ≤ 16) (hd1 : 1 ≤ d) (hd : d ≤ 4611686018427387904) : (nonceL a.toNat b.toNat == nonceL c.toNat d.toNat) = ((a == c) && (b == d)) := by
  have h := nonceL_inj (c := a.toNat) (d := c.toNat) (k := b.toNat) (j := d.toNat) (by omega) (by omega) (by omega) (by omega)
  rw [Bool.eq_iff_iff]
  simp only [beq_iff_eq, Bool.and_eq_true, h]
  omega
theorem eq2 (a b c d : Int) (w : World) : (Op.equalIn 10000 32 (.agg #[.int .i64 a, .int .i64 b]) (.agg #[.int .i64 c, .int .i64 d])).run Tryd.prog w = .ok ((a == c) && (b == d)) w := by
  obtain ⟨i, hi⟩ : ∃ i, Tryd.prog.info? 3 = some i := Option.isSome_iff_exists.1 (by kernel_rfl)
  have hc : Tryd.prog.cellsOf 3 = 1 := by kernel_rfl
  rw [run_equalIn_array w 9999 _ _ Tryd.underlying32 hi, hc]
  have p0 : ∀ x y : Int, (part 3 #[.int .i64 x, .int .i64 y] (0 * 1)).run Tryd.prog w = .ok (.int .i64 x) w := fun x y => by simp [part, isAgg, run_underlying Tryd.underlying3]
  have p1 : ∀ x y : Int, (part 3 #[.int .i64 x, .int .i64 y] 1).run Tryd.prog w = .ok (.int .i64 y) w := fun x y => by simp [part, isAgg, run_underlying Tryd.underlying3]
  have q : ∀ x y : Int, (Op.equalIn 9999 3 (.int .i64 x) (.int .i64 y)).run Tryd.prog w = .ok (x == y) w := fun x y => run_equalIn_int (P := Tryd.prog) w 9998 _ .i64 .i64 x y Tryd.underlying3
  rw [show List.range 2 = [0, 1] from rfl]
  simp only [Op.eqItems, Sem.run_bind, p0, q, Result.andThen_ok]
  rcases h1 : (a == c) with _ | _
  · simp
  · rcases h2 : (b == d) with _ | _
    · simp [p1, q]
      simpa using h2
    · simp [p1, q]
      simpa using h2
set_option maxRecDepth 100000 in
set_option maxHeartbeats 16000000 in
theorem law_knonces (ua va ub vb : Int) (w : World) :
    Calls Tryd.prog 4 #[.agg #[.int .i64 ua, .int .i64 va], .agg #[.int .i64 ub, .int .i64 vb]] w fun e w' => e = .returned (.bool true) ∧ Below w.heap.size w w' := by
  obtain ⟨X, E, hXl, hNX, hX⟩ := nonce_all ua va
  obtain ⟨Y, F, hYl, hNY, hY⟩ := nonce_all ub vb
  have HN1 := Lib.hid hNX
  have HN2 := Lib.hid hNY
  have HX := Lib.hid hX
  have HY := Lib.hid hY
  have HH := Lib.hid hides_any
  clear hNX hNY hX hY
  have h2 : Arr ((w.alloc (.cells #[.int .i64 ua, .int .i64 va] 32)).alloc (.cells #[.int .i64 ub, .int .i64 vb] 32)) w.heap.size 32 [.int .i64 ua, .int .i64 va] := Arr.alloc (Arr.newAt rfl rfl) _
  have h3 : Arr ((w.alloc (.cells #[.int .i64 ua, .int .i64 va] 32)).alloc (.cells #[.int .i64 ub, .int .i64 vb] 32)) (w.heap.size + 1) 32 [.int .i64 ub, .int .i64 vb] := Arr.newAt (asz _ _) rfl
  have G0 : Gr w ((w.alloc (.cells #[.int .i64 ua, .int .i64 va] 32)).alloc (.cells #[.int .i64 ub, .int .i64 vb] 32)) := (Gr.alloc _ _).trans (Gr.alloc _ _)
  go_enter Tryd.func4, Tryd.ntmps4
  go_upto_region 1 with fail
  generalize (w.alloc (.cells #[.int .i64 ua, .int .i64 va] 32)).alloc (.cells #[.int .i64 ub, .int .i64 vb] 32) = w0 at h2 h3 G0 ⊢
  obtain ⟨g3, hg3⟩ : ∃ g, g = w.heap.size + 1 := ⟨_, rfl⟩
  rw [← hg3] at h3
  simp only [← hg3]
  obtain ⟨g2, hg2⟩ : ∃ g, g = w.heap.size := ⟨_, rfl⟩
  rw [← hg2] at h2
  simp only [← hg2]
  clear hg3 hg2
  have c20 := h2.cell (i := 0) (v := .int .i64 ua) rfl
  have c21 := h2.cell (i := 1) (v := .int .i64 va) rfl
  go_wp2_with fail
  refine (HN1.out w0).mono ?_
  rintro e w1 ⟨rfl, hB1⟩
  have h31 := h3.gr hB1
  clear c20 c21
  go_upto_region 2 with (refine wpList_new rfl 33 (.tmp 5) (.tmp 17) rfl _ (u8s X) rfl rfl rfl (by simp only [u8s_length, hXl]; rfl) (info12 X hXl) (u8s_oneCell _) ?_; intro w2 h5 hG2)
  have G2 : Gr w0 w2 := Gr.trans hB1 hG2
  have h22 := h2.gr G2
  have h32 := h31.gr hG2
  have GW2 := Gr.trans G0 G2
  generalize w1.heap.size = g5 at h5 ⊢
  clear h2 h3 h31 hB1 hG2 G2 G0
  have c30 := h32.cell (i := 0) (v := .int .i64 ub) rfl
  have c31 := h32.cell (i := 1) (v := .int .i64 vb) rfl
  go_wp2_with fail
  refine (HN2.out w2).mono ?_
  rintro e w3 ⟨rfl, hB3⟩
  have h23 := h22.gr hB3
  have h33 := h32.gr hB3
  have h53 := h5.gr hB3
  have GW3 := Gr.trans GW2 hB3
  clear c30 c31
  go_upto_region 3 with (refine wpList_new rfl 33 (.tmp 7) (.tmp 25) rfl _ (u8s Y) rfl rfl rfl (by simp only [u8s_length, hYl]; rfl) (info12 Y hYl) (u8s_oneCell _) ?_; intro w4 h7 hG4)
  have h24 := h23.gr hG4
  have h34 := h33.gr hG4
  have h54 := h53.gr hG4
  have GW4 := Gr.trans GW3 hG4
  generalize w3.heap.size = g7 at h7 ⊢
  clear hB3 h22 h32 h5 GW2 h23 h33 h53 GW3 hG4
  have c20 := h24.cell (i := 0) (v := .int .i64 ua) rfl
  have c21 := h24.cell (i := 1) (v := .int .i64 va) rfl
  have c30 := h34.cell (i := 0) (v := .int .i64 ub) rfl
  have c31 := h34.cell (i := 1) (v := .int .i64 vb) rfl
  by_cases ag : 1 ≤ ua ∧ ua ≤ 16
  · obtain ⟨a1h, a2⟩ := ag
    by_cases af : 1 ≤ va ∧ va ≤ 4611686018427387904
    · obtain ⟨a3, a4⟩ := af
      by_cases bg : 1 ≤ ub ∧ ub ≤ 16
      · obtain ⟨b1h, b2⟩ := bg
        by_cases bf : 1 ≤ vb ∧ vb ≤ 4611686018427387904
        · obtain ⟨b3, b4⟩ := bf
          have hEX : E = 0 := by rcases HX.out with h | h <;> omega
          have hFY : F = 0 := by rcases HY.out with h | h <;> omega
          have hXe : X = nonceL ua.toNat va.toNat := by rcases HX.out with h | h; exact h.2.2.2.2.2; exact absurd h.2.1 (by omega)
          have hYe : Y = nonceL ub.toNat vb.toNat := by rcases HY.out with h | h; exact h.2.2.2.2.2; exact absurd h.2.1 (by omega)
          subst hEX hFY
          have HR : Hid (∀ w, Calls Tryd.prog 14 #[.int .i64 ua, .int .i64 va] w fun r w' => r = .returned (.string ⟨X.toArray⟩) ∧ Below w.heap.size w w') := by
            intro w
            rw [hXe]
            have := refNonce_any ua.toNat va.toNat (by omega) (by omega) w
            rwa [Int.toNat_of_nonneg (by omega), Int.toNat_of_nonneg (by omega)] at this
          have HS : Hid ((X == Y) = ((ua == ub) && (va == vb))) := by
            show _ = _
            rw [hXe, hYe]
            exact nonce_same a1h a2 a3 a4 b1h b2 b3 b4
          clear hXe HX HY hYe
          refine wp_region_ssaL (by kernel_rfl) [IsV (.pointer (some ⟨g2, 0, none⟩)), IsV (.int .i64 (ua)), IsV (.bool true), IsV (.bool true), IsV (.pointer (some ⟨g2, 1, none⟩)), IsV (.int .i64 (va)), IsV (.bool true), IsV (.bool true), IsV (.pointer (some ⟨g3, 0, none⟩)), IsV (.int .i64 (ub)), IsV (.bool true), IsV (.bool true), IsV (.pointer (some ⟨g3, 1, none⟩)), IsV (.int .i64 (vb)), IsV (.bool true), IsV (.bool true), IsV (.bool true), IsV (.bool true)] (by kernel_rfl) ?_ ?_ ?_
          · intro φ hφ v w1 w2 h hg
            simp only [List.mem_cons, List.not_mem_nil, or_false] at hφ
            rcases hφ with rfl | rfl | rfl | rfl | rfl | rfl | rfl | rfl | rfl | rfl | rfl | rfl | rfl | rfl | rfl | rfl | rfl | rfl
            all_goals first | exact h | exact RdV.gr h hg
          · refine ⟨?_, ?_, ?_, ?_, ?_, ?_, ?_, ?_, ?_, ?_, ?_, ?_, ?_, ?_, ?_, ?_, ?_, ?_, trivial⟩
            · intro a1 w1 hG hF
              have e2 : a1.eval (.tmp 2) = .pointer (some ⟨g2, 0, none⟩) := hF.ol 2 (by kernel_rfl)
              exact s_is rfl (wants0 rfl) _ rfl (run_idx (i := 0) Tryd.underlying32 (by kernel_rfl) e2 rfl (by omega))
            · intro a1 w1 hG hF
              obtain ⟨_, e27, rfl⟩ := hF.dp 0 27 (by kernel_rfl)
              exact s_is rfl (wants0 rfl) _ rfl (run_load1 Tryd.underlying3 e27 (Gr.cell ((Gr.drew w4).trans hG) c20))
            · intro a1 w1 hG hF
              obtain ⟨_, e28, rfl⟩ := hF.dp 1 28 (by kernel_rfl)
              exact s_call rfl (wants0 rfl) _ rfl _ _ (by simp only [execOp, resolve, invoke, List.map_toArray, List.map_cons, List.map_nil, e28]; go_simp) ((client_yes _ a1h a2 w1).mono fun e w2 ⟨he, hw⟩ => ⟨_, he, rfl, hw ▸ Gr.refl _⟩)
            · intro a1 w1 hG hF
              exact s_same rfl (wants0 rfl) (.tmp 29) (.inr rfl) (hF.dp 2 29 (by kernel_rfl))
            · intro a1 w1 hG hF
              have e2 : a1.eval (.tmp 2) = .pointer (some ⟨g2, 0, none⟩) := hF.ol 2 (by kernel_rfl)
              exact s_is rfl (wantsG hF 3 30 true rfl (by kernel_rfl) rfl) _ rfl (run_idx (i := 1) Tryd.underlying32 (by kernel_rfl) e2 rfl (by omega))
            · intro a1 w1 hG hF
              obtain ⟨_, e31, rfl⟩ := hF.dp 4 31 (by kernel_rfl)
              exact s_is rfl (wantsG hF 3 30 true rfl (by kernel_rfl) rfl) _ rfl (run_load1 Tryd.underlying3 e31 (Gr.cell ((Gr.drew w4).trans hG) c21))
            · intro a1 w1 hG hF
              obtain ⟨_, e32, rfl⟩ := hF.dp 5 32 (by kernel_rfl)
              exact s_call rfl (wantsG hF 3 30 true rfl (by kernel_rfl) rfl) _ rfl _ _ (by simp only [execOp, resolve, invoke, List.map_toArray, List.map_cons, List.map_nil, e32]; go_simp) ((counter_yes _ a3 a4 w1).mono fun e w2 ⟨he, hw⟩ => ⟨_, he, rfl, hw ▸ Gr.refl _⟩)
            · intro a1 w1 hG hF
              obtain ⟨_, e30, rfl⟩ := hF.dp 3 30 (by kernel_rfl)
              obtain ⟨_, e33, rfl⟩ := hF.dp 6 33 (by kernel_rfl)
              exact s_pick rfl (wants0 rfl) (.tmp 30) (.tmp 33) _ rfl e30 _ e33 rfl
            · intro a1 w1 hG hF
              have e3 : a1.eval (.tmp 3) = .pointer (some ⟨g3, 0, none⟩) := hF.ol 3 (by kernel_rfl)
              exact s_is rfl (wants0 rfl) _ rfl (run_idx (i := 0) Tryd.underlying32 (by kernel_rfl) e3 rfl (by omega))
            · intro a1 w1 hG hF
              obtain ⟨_, e35, rfl⟩ := hF.dp 8 35 (by kernel_rfl)
              exact s_is rfl (wants0 rfl) _ rfl (run_load1 Tryd.underlying3 e35 (Gr.cell ((Gr.drew w4).trans hG) c30))
            · intro a1 w1 hG hF
              obtain ⟨_, e36, rfl⟩ := hF.dp 9 36 (by kernel_rfl)
              exact s_call rfl (wants0 rfl) _ rfl _ _ (by simp only [execOp, resolve, invoke, List.map_toArray, List.map_cons, List.map_nil, e36]; go_simp) ((client_yes _ b1h b2 w1).mono fun e w2 ⟨he, hw⟩ => ⟨_, he, rfl, hw ▸ Gr.refl _⟩)
            · intro a1 w1 hG hF
              exact s_same rfl (wants0 rfl) (.tmp 37) (.inr rfl) (hF.dp 10 37 (by kernel_rfl))
            · intro a1 w1 hG hF
              have e3 : a1.eval (.tmp 3) = .pointer (some ⟨g3, 0, none⟩) := hF.ol 3 (by kernel_rfl)
              exact s_is rfl (wantsG hF 11 38 true rfl (by kernel_rfl) rfl) _ rfl (run_idx (i := 1) Tryd.underlying32 (by kernel_rfl) e3 rfl (by omega))
            · intro a1 w1 hG hF
              obtain ⟨_, e39, rfl⟩ := hF.dp 12 39 (by kernel_rfl)
              exact s_is rfl (wantsG hF 11 38 true rfl (by kernel_rfl) rfl) _ rfl (run_load1 Tryd.underlying3 e39 (Gr.cell ((Gr.drew w4).trans hG) c31))
            · intro a1 w1 hG hF
              obtain ⟨_, e40, rfl⟩ := hF.dp 13 40 (by kernel_rfl)
              exact s_call rfl (wantsG hF 11 38 true rfl (by kernel_rfl) rfl) _ rfl _ _ (by simp only [execOp, resolve, invoke, List.map_toArray, List.map_cons, List.map_nil, e40]; go_simp) ((counter_yes _ b3 b4 w1).mono fun e w2 ⟨he, hw⟩ => ⟨_, he, rfl, hw ▸ Gr.refl _⟩)
            · intro a1 w1 hG hF
              obtain ⟨_, e38, rfl⟩ := hF.dp 11 38 (by kernel_rfl)
              obtain ⟨_, e41, rfl⟩ := hF.dp 14 41 (by kernel_rfl)
              exact s_pick rfl (wants0 rfl) (.tmp 38) (.tmp 41) _ rfl e38 _ e41 rfl
            · intro a1 w1 hG hF
              exact s_same rfl (wants0 rfl) (.tmp 34) (.inl rfl) (hF.dp 7 34 (by kernel_rfl))
            · intro a1 w1 hG hF
              exact s_same rfl (wants0 rfl) (.tmp 42) (.inl rfl) (hF.dp 15 42 (by kernel_rfl))
          · intro vs w1 hG hf
            have z9 : vs 16 = .bool true := hf.2.2.2.2.2.2.2.2.2.2.2.2.2.2.2.2.1
            have z10 : vs 17 = .bool true := hf.2.2.2.2.2.2.2.2.2.2.2.2.2.2.2.2.2.1
            clear hf
            simp only [putAll, Nat.zero_add, Nat.reduceAdd, z9, z10]
            have GW5 := Gr.trans GW4 ((Gr.drew w4).trans hG)
            have h25 := h24.gr ((Gr.drew w4).trans hG)
            have h35 := h34.gr ((Gr.drew w4).trans hG)
            have h55 := h54.gr ((Gr.drew w4).trans hG)
            have h75 := h7.gr ((Gr.drew w4).trans hG)
            generalize w1 = w5 at h25 h35 h55 h75 GW5 ⊢
            clear hG h24 h34 h54 h7 GW4 c20 c21 c30 c31
            go_simp
            go_wp2_with fail
            refine (HH.out w5).mono ?_
            rintro e w6 ⟨rfl, hB6⟩
            have h26 := h25.gr hB6
            have h36 := h35.gr hB6
            have h56 := h55.gr hB6
            have h76 := h75.gr hB6
            have GW6 := Gr.trans GW5 hB6
            clear hB6 h25 h35 h55 h75 GW5
            go_upto_region 6 with fail
            have c20 := h26.cell (i := 0) (v := .int .i64 ua) rfl
            have c21 := h26.cell (i := 1) (v := .int .i64 va) rfl
            have hr5 := h56.rdAll hXl
            refine wp_region_ssaL (by kernel_rfl) [IsV (.bool true), IsV (.bool false), IsV (.bool false), IsV (.bool true), IsV (.bool false), IsV (.bool false), IsV (.bool false), IsV (.slice (some ⟨g5, 0, none⟩) 12 12), IsV (.string ⟨(X).toArray⟩), IsV (.pointer (some ⟨g2, 0, none⟩)), IsV (.int .i64 (ua)), IsV (.pointer (some ⟨g2, 1, none⟩)), IsV (.int .i64 (va)), IsV (.string ⟨(X).toArray⟩), IsV (.bool true), IsV (.bool true), IsV (.agg (u8s (X)).toArray), IsV (.agg (u8s (Y)).toArray), IsV (.bool (X == Y)), IsV (.agg #[.int .i64 ua, .int .i64 va]), IsV (.agg #[.int .i64 ub, .int .i64 vb]), IsV (.bool ((ua == ub) && (va == vb))), IsV (.bool true), IsV (.bool true), IsV (.bool true), IsV (.bool true)] (by kernel_rfl) ?_ ?_ ?_
            · intro φ hφ v w1 w2 h hg
              simp only [List.mem_cons, List.not_mem_nil, or_false] at hφ
              rcases hφ with rfl | rfl | rfl | rfl | rfl | rfl | rfl | rfl | rfl | rfl | rfl | rfl | rfl | rfl | rfl | rfl | rfl | rfl | rfl | rfl | rfl | rfl | rfl | rfl | rfl | rfl
              all_goals first | exact h | exact RdV.gr h hg
            · refine ⟨?_, ?_, ?_, ?_, ?_, ?_, ?_, ?_, ?_, ?_, ?_, ?_, ?_, ?_, ?_, ?_, ?_, ?_, ?_, ?_, ?_, ?_, ?_, ?_, ?_, ?_, trivial⟩
              · intro a1 w1 hG hF
                exact s_old rfl (wants0 rfl) (.tmp 9) (.inr rfl) (.bool true) (hF.ol 9 (by kernel_rfl)) rfl
              · intro a1 w1 hG hF
                obtain ⟨_, e70, rfl⟩ := hF.dp 0 70 (by kernel_rfl)
                exact s_is rfl (wants0 rfl) _ rfl (by simp only [execOp, e70]; go_simp)
              · intro a1 w1 hG hF
                exact s_same rfl (wants0 rfl) (.tmp 71) (.inr rfl) (hF.dp 1 71 (by kernel_rfl))
              · intro a1 w1 hG hF
                exact s_old rfl (wantsG hF 2 72 false rfl (by kernel_rfl) rfl) (.tmp 10) (.inr rfl) (.bool true) (hF.ol 10 (by kernel_rfl)) rfl
              · intro a1 w1 hG hF
                obtain ⟨_, e73, rfl⟩ := hF.dp 3 73 (by kernel_rfl)
                exact s_is rfl (wantsG hF 2 72 false rfl (by kernel_rfl) rfl) _ rfl (by simp only [execOp, e73]; go_simp)
              · intro a1 w1 hG hF
                obtain ⟨_, e72, rfl⟩ := hF.dp 2 72 (by kernel_rfl)
                obtain ⟨_, e74, rfl⟩ := hF.dp 4 74 (by kernel_rfl)
                exact s_pickF rfl (wants0 rfl) (.tmp 72) _ (.tmp 74) rfl e72 _ e74 rfl
              · intro a1 w1 hG hF
                exact s_same rfl (wants0 rfl) (.tmp 75) (.inr rfl) (hF.dp 5 75 (by kernel_rfl))
              · intro a1 w1 hG hF
                have e5 : a1.eval (.tmp 5) = .pointer (some ⟨g5, 0, none⟩) := hF.ol 5 (by kernel_rfl)
                exact s_is rfl (wantsG hF 6 76 false rfl (by kernel_rfl) rfl) _ rfl (by simp only [execOp, e5, Option.map, Sem.run_bind, run_cutAll (P := Tryd.prog) Tryd.underlying33 (by kernel_rfl), Result.andThen_ok, Sem.run_pure])
              · intro a1 w1 hG hF
                obtain ⟨_, e77, rfl⟩ := hF.dp 7 77 (by kernel_rfl)
                exact s_str rfl (wantsG hF 6 76 false rfl (by kernel_rfl) rfl) 23 9 5 (.tmp 77) rfl Tryd.underlying23 Tryd.underlying5 Tryd.underlying9 _ _ _ (X) e77 (((Gr.drew w6).trans hG).rd hr5) rfl
              · intro a1 w1 hG hF
                have e2 : a1.eval (.tmp 2) = .pointer (some ⟨g2, 0, none⟩) := hF.ol 2 (by kernel_rfl)
                exact s_is rfl (wantsG hF 6 76 false rfl (by kernel_rfl) rfl) _ rfl (run_idx (i := 0) Tryd.underlying32 (by kernel_rfl) e2 rfl (by omega))
              · intro a1 w1 hG hF
                obtain ⟨_, e79, rfl⟩ := hF.dp 9 79 (by kernel_rfl)
                exact s_is rfl (wantsG hF 6 76 false rfl (by kernel_rfl) rfl) _ rfl (run_load1 Tryd.underlying3 e79 (Gr.cell ((Gr.drew w6).trans hG) c20))
              · intro a1 w1 hG hF
                have e2 : a1.eval (.tmp 2) = .pointer (some ⟨g2, 0, none⟩) := hF.ol 2 (by kernel_rfl)
                exact s_is rfl (wantsG hF 6 76 false rfl (by kernel_rfl) rfl) _ rfl (run_idx (i := 1) Tryd.underlying32 (by kernel_rfl) e2 rfl (by omega))
              · intro a1 w1 hG hF
                obtain ⟨_, e81, rfl⟩ := hF.dp 11 81 (by kernel_rfl)
                exact s_is rfl (wantsG hF 6 76 false rfl (by kernel_rfl) rfl) _ rfl (run_load1 Tryd.underlying3 e81 (Gr.cell ((Gr.drew w6).trans hG) c21))
              · intro a1 w1 hG hF
                obtain ⟨_, e80, rfl⟩ := hF.dp 10 80 (by kernel_rfl)
                obtain ⟨_, e82, rfl⟩ := hF.dp 12 82 (by kernel_rfl)
                exact s_call rfl (wantsG hF 6 76 false rfl (by kernel_rfl) rfl) _ rfl _ _ (by simp only [execOp, resolve, invoke, List.map_toArray, List.map_cons, List.map_nil, e80, e82]; go_simp) ((HR.out w1).mono fun e w2 ⟨he, hb⟩ => ⟨_, he, rfl, hb⟩)
              · intro a1 w1 hG hF
                obtain ⟨_, e78, rfl⟩ := hF.dp 8 78 (by kernel_rfl)
                obtain ⟨_, e83, rfl⟩ := hF.dp 13 83 (by kernel_rfl)
                exact s_is rfl (wantsG hF 6 76 false rfl (by kernel_rfl) rfl) _ rfl (by simp only [execOp, e78, e83]; go_simp)
              · intro a1 w1 hG hF
                exact s_same rfl (wantsG hF 6 76 false rfl (by kernel_rfl) rfl) (.tmp 84) (.inr rfl) (hF.dp 14 84 (by kernel_rfl))
              · intro a1 w1 hG hF
                have e5 : a1.eval (.tmp 5) = .pointer (some ⟨g5, 0, none⟩) := hF.ol 5 (by kernel_rfl)
                exact s_is rfl (wantsG hF 15 85 true rfl (by kernel_rfl) rfl) _ rfl (run_loadArr ⟨_, _, Tryd.underlying33⟩ (info12 X hXl) e5 (h56.gr ((Gr.drew w6).trans hG)))
              · intro a1 w1 hG hF
                have e7 : a1.eval (.tmp 7) = .pointer (some ⟨g7, 0, none⟩) := hF.ol 7 (by kernel_rfl)
                exact s_is rfl (wantsG hF 15 85 true rfl (by kernel_rfl) rfl) _ rfl (run_loadArr ⟨_, _, Tryd.underlying33⟩ (info12 Y hYl) e7 (h76.gr ((Gr.drew w6).trans hG)))
              · intro a1 w1 hG hF
                obtain ⟨_, e86, rfl⟩ := hF.dp 16 86 (by kernel_rfl)
                obtain ⟨_, e87, rfl⟩ := hF.dp 17 87 (by kernel_rfl)
                exact s_is rfl (wantsG hF 15 85 true rfl (by kernel_rfl) rfl) _ rfl (run_eqBy (by kernel_rfl) Tryd.underlying33 Tryd.underlying5 (fun w => by kernel_rfl) hXl hYl e86 e87)
              · intro a1 w1 hG hF
                have e2 : a1.eval (.tmp 2) = .pointer (some ⟨g2, 0, none⟩) := hF.ol 2 (by kernel_rfl)
                exact s_is rfl (wantsG hF 15 85 true rfl (by kernel_rfl) rfl) _ rfl (run_loadArr ⟨_, _, Tryd.underlying32⟩ (cs := [.int .i64 ua, .int .i64 va]) (by kernel_rfl) e2 (h26.gr ((Gr.drew w6).trans hG)))
              · intro a1 w1 hG hF
                have e3 : a1.eval (.tmp 3) = .pointer (some ⟨g3, 0, none⟩) := hF.ol 3 (by kernel_rfl)
                exact s_is rfl (wantsG hF 15 85 true rfl (by kernel_rfl) rfl) _ rfl (run_loadArr ⟨_, _, Tryd.underlying32⟩ (cs := [.int .i64 ub, .int .i64 vb]) (by kernel_rfl) e3 (h36.gr ((Gr.drew w6).trans hG)))
              · intro a1 w1 hG hF
                obtain ⟨_, e89, rfl⟩ := hF.dp 19 89 (by kernel_rfl)
                obtain ⟨_, e90, rfl⟩ := hF.dp 20 90 (by kernel_rfl)
                have q := eq2 ua va ub vb w1
                exact s_is rfl (wantsG hF 15 85 true rfl (by kernel_rfl) rfl) _ rfl (by simp only [execOp, e89, e90]; go_simp)
              · intro a1 w1 hG hF
                obtain ⟨_, e88, rfl⟩ := hF.dp 18 88 (by kernel_rfl)
                obtain ⟨_, e91, rfl⟩ := hF.dp 21 91 (by kernel_rfl)
                exact s_is rfl (wantsG hF 15 85 true rfl (by kernel_rfl) rfl) _ rfl (by rw [run_eqT Tryd.underlying4 e88 e91, HS.out, beq_self_eq_true])
              · intro a1 w1 hG hF
                obtain ⟨_, e85, rfl⟩ := hF.dp 15 85 (by kernel_rfl)
                obtain ⟨_, e92, rfl⟩ := hF.dp 22 92 (by kernel_rfl)
                exact s_pick rfl (wantsG hF 6 76 false rfl (by kernel_rfl) rfl) (.tmp 85) (.tmp 92) _ rfl e85 _ e92 rfl
              · intro a1 w1 hG hF
                obtain ⟨_, e76, rfl⟩ := hF.dp 6 76 (by kernel_rfl)
                obtain ⟨_, e93, rfl⟩ := hF.dp 23 93 (by kernel_rfl)
                exact s_pickF rfl (wants0 rfl) (.tmp 76) _ (.tmp 93) rfl e76 _ e93 rfl
              · intro a1 w1 hG hF
                exact s_same rfl (wants0 rfl) (.tmp 94) (.inl rfl) (hF.dp 24 94 (by kernel_rfl))
            · intro vs w1 hG hf
              have z4 : vs 25 = .bool true := hf.2.2.2.2.2.2.2.2.2.2.2.2.2.2.2.2.2.2.2.2.2.2.2.2.2.1
              clear hf
              simp only [putAll, Nat.zero_add, Nat.reduceAdd, z4]
              go_simp
              go_wp2_with fail
              go_ret
              exact ⟨rfl, Gr.trans GW6 ((Gr.drew w6).trans hG)⟩
        · have bk : vb < 1 ∨ 4611686018427387904 < vb := by omega
          have hEX : E = 0 := by rcases HX.out with h | h <;> omega
          have hFY : F = 1 := by rcases HY.out with h | h <;> omega
          have hXe : X = nonceL ua.toNat va.toNat := by rcases HX.out with h | h; exact h.2.2.2.2.2; exact absurd h.2.1 (by omega)
          subst hEX hFY
          have HR : Hid (∀ w, Calls Tryd.prog 14 #[.int .i64 ua, .int .i64 va] w fun r w' => r = .returned (.string ⟨X.toArray⟩) ∧ Below w.heap.size w w') := by
            intro w
            rw [hXe]
            have := refNonce_any ua.toNat va.toNat (by omega) (by omega) w
            rwa [Int.toNat_of_nonneg (by omega), Int.toNat_of_nonneg (by omega)] at this
          clear hXe HX HY
          refine wp_region_ssaL (by kernel_rfl) [IsV (.pointer (some ⟨g2, 0, none⟩)), IsV (.int .i64 (ua)), IsV (.bool true), IsV (.bool true), IsV (.pointer (some ⟨g2, 1, none⟩)), IsV (.int .i64 (va)), IsV (.bool true), IsV (.bool true), IsV (.pointer (some ⟨g3, 0, none⟩)), IsV (.int .i64 (ub)), IsV (.bool true), IsV (.bool true), IsV (.pointer (some ⟨g3, 1, none⟩)), IsV (.int .i64 (vb)), IsV (.bool false), IsV (.bool false), IsV (.bool true), IsV (.bool false)] (by kernel_rfl) ?_ ?_ ?_
          · intro φ hφ v w1 w2 h hg
            simp only [List.mem_cons, List.not_mem_nil, or_false] at hφ
            rcases hφ with rfl | rfl | rfl | rfl | rfl | rfl | rfl | rfl | rfl | rfl | rfl | rfl | rfl | rfl | rfl | rfl | rfl | rfl
            all_goals first | exact h | exact RdV.gr h hg
          · refine ⟨?_, ?_, ?_, ?_, ?_, ?_, ?_, ?_, ?_, ?_, ?_, ?_, ?_, ?_, ?_, ?_, ?_, ?_, trivial⟩
            · intro a1 w1 hG hF
              have e2 : a1.eval (.tmp 2) = .pointer (some ⟨g2, 0, none⟩) := hF.ol 2 (by kernel_rfl)
              exact s_is rfl (wants0 rfl) _ rfl (run_idx (i := 0) Tryd.underlying32 (by kernel_rfl) e2 rfl (by omega))
            · intro a1 w1 hG hF
              obtain ⟨_, e27, rfl⟩ := hF.dp 0 27 (by kernel_rfl)
              exact s_is rfl (wants0 rfl) _ rfl (run_load1 Tryd.underlying3 e27 (Gr.cell ((Gr.drew w4).trans hG) c20))
            · intro a1 w1 hG hF
              obtain ⟨_, e28, rfl⟩ := hF.dp 1 28 (by kernel_rfl)
              exact s_call rfl (wants0 rfl) _ rfl _ _ (by simp only [execOp, resolve, invoke, List.map_toArray, List.map_cons, List.map_nil, e28]; go_simp) ((client_yes _ a1h a2 w1).mono fun e w2 ⟨he, hw⟩ => ⟨_, he, rfl, hw ▸ Gr.refl _⟩)
            · intro a1 w1 hG hF
              exact s_same rfl (wants0 rfl) (.tmp 29) (.inr rfl) (hF.dp 2 29 (by kernel_rfl))
            · intro a1 w1 hG hF
              have e2 : a1.eval (.tmp 2) = .pointer (some ⟨g2, 0, none⟩) := hF.ol 2 (by kernel_rfl)
              exact s_is rfl (wantsG hF 3 30 true rfl (by kernel_rfl) rfl) _ rfl (run_idx (i := 1) Tryd.underlying32 (by kernel_rfl) e2 rfl (by omega))
            · intro a1 w1 hG hF
              obtain ⟨_, e31, rfl⟩ := hF.dp 4 31 (by kernel_rfl)
              exact s_is rfl (wantsG hF 3 30 true rfl (by kernel_rfl) rfl) _ rfl (run_load1 Tryd.underlying3 e31 (Gr.cell ((Gr.drew w4).trans hG) c21))
            · intro a1 w1 hG hF
              obtain ⟨_, e32, rfl⟩ := hF.dp 5 32 (by kernel_rfl)
              exact s_call rfl (wantsG hF 3 30 true rfl (by kernel_rfl) rfl) _ rfl _ _ (by simp only [execOp, resolve, invoke, List.map_toArray, List.map_cons, List.map_nil, e32]; go_simp) ((counter_yes _ a3 a4 w1).mono fun e w2 ⟨he, hw⟩ => ⟨_, he, rfl, hw ▸ Gr.refl _⟩)
            · intro a1 w1 hG hF
              obtain ⟨_, e30, rfl⟩ := hF.dp 3 30 (by kernel_rfl)
              obtain ⟨_, e33, rfl⟩ := hF.dp 6 33 (by kernel_rfl)
              exact s_pick rfl (wants0 rfl) (.tmp 30) (.tmp 33) _ rfl e30 _ e33 rfl
            · intro a1 w1 hG hF
              have e3 : a1.eval (.tmp 3) = .pointer (some ⟨g3, 0, none⟩) := hF.ol 3 (by kernel_rfl)
              exact s_is rfl (wants0 rfl) _ rfl (run_idx (i := 0) Tryd.underlying32 (by kernel_rfl) e3 rfl (by omega))
            · intro a1 w1 hG hF
              obtain ⟨_, e35, rfl⟩ := hF.dp 8 35 (by kernel_rfl)
              exact s_is rfl (wants0 rfl) _ rfl (run_load1 Tryd.underlying3 e35 (Gr.cell ((Gr.drew w4).trans hG) c30))
            · intro a1 w1 hG hF
              obtain ⟨_, e36, rfl⟩ := hF.dp 9 36 (by kernel_rfl)
              exact s_call rfl (wants0 rfl) _ rfl _ _ (by simp only [execOp, resolve, invoke, List.map_toArray, List.map_cons, List.map_nil, e36]; go_simp) ((client_yes _ b1h b2 w1).mono fun e w2 ⟨he, hw⟩ => ⟨_, he, rfl, hw ▸ Gr.refl _⟩)
            · intro a1 w1 hG hF
              exact s_same rfl (wants0 rfl) (.tmp 37) (.inr rfl) (hF.dp 10 37 (by kernel_rfl))
            · intro a1 w1 hG hF
              have e3 : a1.eval (.tmp 3) = .pointer (some ⟨g3, 0, none⟩) := hF.ol 3 (by kernel_rfl)
              exact s_is rfl (wantsG hF 11 38 true rfl (by kernel_rfl) rfl) _ rfl (run_idx (i := 1) Tryd.underlying32 (by kernel_rfl) e3 rfl (by omega))
            · intro a1 w1 hG hF
              obtain ⟨_, e39, rfl⟩ := hF.dp 12 39 (by kernel_rfl)
              exact s_is rfl (wantsG hF 11 38 true rfl (by kernel_rfl) rfl) _ rfl (run_load1 Tryd.underlying3 e39 (Gr.cell ((Gr.drew w4).trans hG) c31))
            · intro a1 w1 hG hF
              obtain ⟨_, e40, rfl⟩ := hF.dp 13 40 (by kernel_rfl)
              exact s_call rfl (wantsG hF 11 38 true rfl (by kernel_rfl) rfl) _ rfl _ _ (by simp only [execOp, resolve, invoke, List.map_toArray, List.map_cons, List.map_nil, e40]; go_simp) ((counter_no _ bk w1).mono fun e w2 ⟨he, hw⟩ => ⟨_, he, rfl, hw ▸ Gr.refl _⟩)
            · intro a1 w1 hG hF
              obtain ⟨_, e38, rfl⟩ := hF.dp 11 38 (by kernel_rfl)
              obtain ⟨_, e41, rfl⟩ := hF.dp 14 41 (by kernel_rfl)
              exact s_pick rfl (wants0 rfl) (.tmp 38) (.tmp 41) _ rfl e38 _ e41 rfl
            · intro a1 w1 hG hF
              exact s_same rfl (wants0 rfl) (.tmp 34) (.inl rfl) (hF.dp 7 34 (by kernel_rfl))
            · intro a1 w1 hG hF
              exact s_same rfl (wants0 rfl) (.tmp 42) (.inl rfl) (hF.dp 15 42 (by kernel_rfl))
          · intro vs w1 hG hf
            have z9 : vs 16 = .bool true := hf.2.2.2.2.2.2.2.2.2.2.2.2.2.2.2.2.1
            have z10 : vs 17 = .bool false := hf.2.2.2.2.2.2.2.2.2.2.2.2.2.2.2.2.2.1
            clear hf
            simp only [putAll, Nat.zero_add, Nat.reduceAdd, z9, z10]
            have GW5 := Gr.trans GW4 ((Gr.drew w4).trans hG)
            have h25 := h24.gr ((Gr.drew w4).trans hG)
            have h35 := h34.gr ((Gr.drew w4).trans hG)
            have h55 := h54.gr ((Gr.drew w4).trans hG)
            have h75 := h7.gr ((Gr.drew w4).trans hG)
            generalize w1 = w5 at h25 h35 h55 h75 GW5 ⊢
            clear hG h24 h34 h54 h7 GW4 c20 c21 c30 c31
            go_simp
            go_wp2_with fail
            refine (HH.out w5).mono ?_
            rintro e w6 ⟨rfl, hB6⟩
            have h26 := h25.gr hB6
            have h36 := h35.gr hB6
            have h56 := h55.gr hB6
            have h76 := h75.gr hB6
            have GW6 := Gr.trans GW5 hB6
            clear hB6 h25 h35 h55 h75 GW5
            go_upto_region 6 with fail
            refine wp_region_ssaL (by kernel_rfl) [IsV (.bool true), IsV (.bool false), IsV (.bool false), IsV (.bool false), IsV (.bool true), IsV (.bool true), IsV (.bool true), IsV (undef), IsV (undef), IsV (undef), IsV (undef), IsV (undef), IsV (undef), IsV (undef), IsV (undef), IsV (undef), IsV (undef), IsV (undef), IsV (undef), IsV (undef), IsV (undef), IsV (undef), IsV (undef), IsV (undef), IsV (.bool true), IsV (.bool true)] (by kernel_rfl) ?_ ?_ ?_
            · intro φ hφ v w1 w2 h hg
              simp only [List.mem_cons, List.not_mem_nil, or_false] at hφ
              rcases hφ with rfl | rfl | rfl | rfl | rfl | rfl | rfl | rfl | rfl | rfl | rfl | rfl | rfl | rfl | rfl | rfl | rfl | rfl | rfl | rfl | rfl | rfl | rfl | rfl | rfl | rfl
              all_goals first | exact h | exact RdV.gr h hg
            · refine ⟨?_, ?_, ?_, ?_, ?_, ?_, ?_, ?_, ?_, ?_, ?_, ?_, ?_, ?_, ?_, ?_, ?_, ?_, ?_, ?_, ?_, ?_, ?_, ?_, ?_, ?_, trivial⟩
              · intro a1 w1 hG hF
                exact s_old rfl (wants0 rfl) (.tmp 9) (.inr rfl) (.bool true) (hF.ol 9 (by kernel_rfl)) rfl
              · intro a1 w1 hG hF
                obtain ⟨_, e70, rfl⟩ := hF.dp 0 70 (by kernel_rfl)
                exact s_is rfl (wants0 rfl) _ rfl (by simp only [execOp, e70]; go_simp)
              · intro a1 w1 hG hF
                exact s_same rfl (wants0 rfl) (.tmp 71) (.inr rfl) (hF.dp 1 71 (by kernel_rfl))
              · intro a1 w1 hG hF
                exact s_old rfl (wantsG hF 2 72 false rfl (by kernel_rfl) rfl) (.tmp 10) (.inr rfl) (.bool false) (hF.ol 10 (by kernel_rfl)) rfl
              · intro a1 w1 hG hF
                obtain ⟨_, e73, rfl⟩ := hF.dp 3 73 (by kernel_rfl)
                exact s_is rfl (wantsG hF 2 72 false rfl (by kernel_rfl) rfl) _ rfl (by simp only [execOp, e73]; go_simp)
              · intro a1 w1 hG hF
                obtain ⟨_, e72, rfl⟩ := hF.dp 2 72 (by kernel_rfl)
                obtain ⟨_, e74, rfl⟩ := hF.dp 4 74 (by kernel_rfl)
                exact s_pickF rfl (wants0 rfl) (.tmp 72) _ (.tmp 74) rfl e72 _ e74 rfl
              · intro a1 w1 hG hF
                exact s_same rfl (wants0 rfl) (.tmp 75) (.inr rfl) (hF.dp 5 75 (by kernel_rfl))
              · intro a1 w1 hG hF
                exact s_not rfl (notN hF 6 76 false rfl (by kernel_rfl) rfl) rfl
              · intro a1 w1 hG hF
                exact s_not rfl (notN hF 6 76 false rfl (by kernel_rfl) rfl) rfl
              · intro a1 w1 hG hF
                exact s_not rfl (notN hF 6 76 false rfl (by kernel_rfl) rfl) rfl
              · intro a1 w1 hG hF
                exact s_not rfl (notN hF 6 76 false rfl (by kernel_rfl) rfl) rfl
              · intro a1 w1 hG hF
                exact s_not rfl (notN hF 6 76 false rfl (by kernel_rfl) rfl) rfl
              · intro a1 w1 hG hF
                exact s_not rfl (notN hF 6 76 false rfl (by kernel_rfl) rfl) rfl
              · intro a1 w1 hG hF
                exact s_not rfl (notN hF 6 76 false rfl (by kernel_rfl) rfl) rfl
              · intro a1 w1 hG hF
                exact s_not rfl (notN hF 6 76 false rfl (by kernel_rfl) rfl) rfl
              · intro a1 w1 hG hF
                exact s_not rfl (notN hF 6 76 false rfl (by kernel_rfl) rfl) rfl
              · intro a1 w1 hG hF
                exact s_not rfl (notU hF 15 85 true rfl (by kernel_rfl) rfl) rfl
              · intro a1 w1 hG hF
                exact s_not rfl (notU hF 15 85 true rfl (by kernel_rfl) rfl) rfl
              · intro a1 w1 hG hF
                exact s_not rfl (notU hF 15 85 true rfl (by kernel_rfl) rfl) rfl
              · intro a1 w1 hG hF
                exact s_not rfl (notU hF 15 85 true rfl (by kernel_rfl) rfl) rfl
              · intro a1 w1 hG hF
                exact s_not rfl (notU hF 15 85 true rfl (by kernel_rfl) rfl) rfl
              · intro a1 w1 hG hF
                exact s_not rfl (notU hF 15 85 true rfl (by kernel_rfl) rfl) rfl
              · intro a1 w1 hG hF
                exact s_not rfl (notU hF 15 85 true rfl (by kernel_rfl) rfl) rfl
              · intro a1 w1 hG hF
                exact s_not rfl (notN hF 6 76 false rfl (by kernel_rfl) rfl) rfl
              · intro a1 w1 hG hF
                obtain ⟨_, e76, rfl⟩ := hF.dp 6 76 (by kernel_rfl)
                exact s_pick rfl (wants0 rfl) (.tmp 76) _ _ rfl e76 _ rfl rfl
              · intro a1 w1 hG hF
                exact s_same rfl (wants0 rfl) (.tmp 94) (.inl rfl) (hF.dp 24 94 (by kernel_rfl))
            · intro vs w1 hG hf
              have z4 : vs 25 = .bool true := hf.2.2.2.2.2.2.2.2.2.2.2.2.2.2.2.2.2.2.2.2.2.2.2.2.2.1
              clear hf
              simp only [putAll, Nat.zero_add, Nat.reduceAdd, z4]
              go_simp
              go_wp2_with fail
              go_ret
              exact ⟨rfl, Gr.trans GW6 ((Gr.drew w6).trans hG)⟩
      · have bc : ub < 1 ∨ 16 < ub := by omega
        have hEX : E = 0 := by rcases HX.out with h | h <;> omega
        have hFY : F = 1 := by rcases HY.out with h | h <;> omega
        have hXe : X = nonceL ua.toNat va.toNat := by rcases HX.out with h | h; exact h.2.2.2.2.2; exact absurd h.2.1 (by omega)
        subst hEX hFY
        have HR : Hid (∀ w, Calls Tryd.prog 14 #[.int .i64 ua, .int .i64 va] w fun r w' => r = .returned (.string ⟨X.toArray⟩) ∧ Below w.heap.size w w') := by
          intro w
          rw [hXe]
          have := refNonce_any ua.toNat va.toNat (by omega) (by omega) w
          rwa [Int.toNat_of_nonneg (by omega), Int.toNat_of_nonneg (by omega)] at this
        clear hXe HX HY
        refine wp_region_ssaL (by kernel_rfl) [IsV (.pointer (some ⟨g2, 0, none⟩)), IsV (.int .i64 (ua)), IsV (.bool true), IsV (.bool true), IsV (.pointer (some ⟨g2, 1, none⟩)), IsV (.int .i64 (va)), IsV (.bool true), IsV (.bool true), IsV (.pointer (some ⟨g3, 0, none⟩)), IsV (.int .i64 (ub)), IsV (.bool false), IsV (.bool false), IsV (undef), IsV (undef), IsV (undef), IsV (.bool false), IsV (.bool true), IsV (.bool false)] (by kernel_rfl) ?_ ?_ ?_
        · intro φ hφ v w1 w2 h hg
          simp only [List.mem_cons, List.not_mem_nil, or_false] at hφ
          rcases hφ with rfl | rfl | rfl | rfl | rfl | rfl | rfl | rfl | rfl | rfl | rfl | rfl | rfl | rfl | rfl | rfl | rfl | rfl
          all_goals first | exact h | exact RdV.gr h hg
        · refine ⟨?_, ?_, ?_, ?_, ?_, ?_, ?_, ?_, ?_, ?_, ?_, ?_, ?_, ?_, ?_, ?_, ?_, ?_, trivial⟩
          · intro a1 w1 hG hF
            have e2 : a1.eval (.tmp 2) = .pointer (some ⟨g2, 0, none⟩) := hF.ol 2 (by kernel_rfl)
            exact s_is rfl (wants0 rfl) _ rfl (run_idx (i := 0) Tryd.underlying32 (by kernel_rfl) e2 rfl (by omega))
          · intro a1 w1 hG hF
            obtain ⟨_, e27, rfl⟩ := hF.dp 0 27 (by kernel_rfl)
            exact s_is rfl (wants0 rfl) _ rfl (run_load1 Tryd.underlying3 e27 (Gr.cell ((Gr.drew w4).trans hG) c20))
          · intro a1 w1 hG hF
            obtain ⟨_, e28, rfl⟩ := hF.dp 1 28 (by kernel_rfl)
            exact s_call rfl (wants0 rfl) _ rfl _ _ (by simp only [execOp, resolve, invoke, List.map_toArray, List.map_cons, List.map_nil, e28]; go_simp) ((client_yes _ a1h a2 w1).mono fun e w2 ⟨he, hw⟩ => ⟨_, he, rfl, hw ▸ Gr.refl _⟩)
          · intro a1 w1 hG hF
            exact s_same rfl (wants0 rfl) (.tmp 29) (.inr rfl) (hF.dp 2 29 (by kernel_rfl))
          · intro a1 w1 hG hF
            have e2 : a1.eval (.tmp 2) = .pointer (some ⟨g2, 0, none⟩) := hF.ol 2 (by kernel_rfl)
            exact s_is rfl (wantsG hF 3 30 true rfl (by kernel_rfl) rfl) _ rfl (run_idx (i := 1) Tryd.underlying32 (by kernel_rfl) e2 rfl (by omega))
          · intro a1 w1 hG hF
            obtain ⟨_, e31, rfl⟩ := hF.dp 4 31 (by kernel_rfl)
            exact s_is rfl (wantsG hF 3 30 true rfl (by kernel_rfl) rfl) _ rfl (run_load1 Tryd.underlying3 e31 (Gr.cell ((Gr.drew w4).trans hG) c21))
          · intro a1 w1 hG hF
            obtain ⟨_, e32, rfl⟩ := hF.dp 5 32 (by kernel_rfl)
            exact s_call rfl (wantsG hF 3 30 true rfl (by kernel_rfl) rfl) _ rfl _ _ (by simp only [execOp, resolve, invoke, List.map_toArray, List.map_cons, List.map_nil, e32]; go_simp) ((counter_yes _ a3 a4 w1).mono fun e w2 ⟨he, hw⟩ => ⟨_, he, rfl, hw ▸ Gr.refl _⟩)
          · intro a1 w1 hG hF
            obtain ⟨_, e30, rfl⟩ := hF.dp 3 30 (by kernel_rfl)
            obtain ⟨_, e33, rfl⟩ := hF.dp 6 33 (by kernel_rfl)
            exact s_pick rfl (wants0 rfl) (.tmp 30) (.tmp 33) _ rfl e30 _ e33 rfl
          · intro a1 w1 hG hF
            have e3 : a1.eval (.tmp 3) = .pointer (some ⟨g3, 0, none⟩) := hF.ol 3 (by kernel_rfl)
            exact s_is rfl (wants0 rfl) _ rfl (run_idx (i := 0) Tryd.underlying32 (by kernel_rfl) e3 rfl (by omega))
          · intro a1 w1 hG hF
            obtain ⟨_, e35, rfl⟩ := hF.dp 8 35 (by kernel_rfl)
            exact s_is rfl (wants0 rfl) _ rfl (run_load1 Tryd.underlying3 e35 (Gr.cell ((Gr.drew w4).trans hG) c30))
          · intro a1 w1 hG hF
            obtain ⟨_, e36, rfl⟩ := hF.dp 9 36 (by kernel_rfl)
            exact s_call rfl (wants0 rfl) _ rfl _ _ (by simp only [execOp, resolve, invoke, List.map_toArray, List.map_cons, List.map_nil, e36]; go_simp) ((client_no _ bc w1).mono fun e w2 ⟨he, hw⟩ => ⟨_, he, rfl, hw ▸ Gr.refl _⟩)
          · intro a1 w1 hG hF
            exact s_same rfl (wants0 rfl) (.tmp 37) (.inr rfl) (hF.dp 10 37 (by kernel_rfl))
          · intro a1 w1 hG hF
            exact s_not rfl (notN hF 11 38 true rfl (by kernel_rfl) rfl) rfl
          · intro a1 w1 hG hF
            exact s_not rfl (notN hF 11 38 true rfl (by kernel_rfl) rfl) rfl
          · intro a1 w1 hG hF
            exact s_not rfl (notN hF 11 38 true rfl (by kernel_rfl) rfl) rfl
          · intro a1 w1 hG hF
            obtain ⟨_, e38, rfl⟩ := hF.dp 11 38 (by kernel_rfl)
            exact s_pickF rfl (wants0 rfl) (.tmp 38) _ _ rfl e38 _ rfl rfl
          · intro a1 w1 hG hF
            exact s_same rfl (wants0 rfl) (.tmp 34) (.inl rfl) (hF.dp 7 34 (by kernel_rfl))
          · intro a1 w1 hG hF
            exact s_same rfl (wants0 rfl) (.tmp 42) (.inl rfl) (hF.dp 15 42 (by kernel_rfl))
        · intro vs w1 hG hf
          have z9 : vs 16 = .bool true := hf.2.2.2.2.2.2.2.2.2.2.2.2.2.2.2.2.1
          have z10 : vs 17 = .bool false := hf.2.2.2.2.2.2.2.2.2.2.2.2.2.2.2.2.2.1
          clear hf
          simp only [putAll, Nat.zero_add, Nat.reduceAdd, z9, z10]
          have GW5 := Gr.trans GW4 ((Gr.drew w4).trans hG)
          have h25 := h24.gr ((Gr.drew w4).trans hG)
          have h35 := h34.gr ((Gr.drew w4).trans hG)
          have h55 := h54.gr ((Gr.drew w4).trans hG)
          have h75 := h7.gr ((Gr.drew w4).trans hG)
          generalize w1 = w5 at h25 h35 h55 h75 GW5 ⊢
          clear hG h24 h34 h54 h7 GW4 c20 c21 c30 c31
          go_simp
          go_wp2_with fail
          refine (HH.out w5).mono ?_
          rintro e w6 ⟨rfl, hB6⟩
          have h26 := h25.gr hB6
          have h36 := h35.gr hB6
          have h56 := h55.gr hB6
          have h76 := h75.gr hB6
          have GW6 := Gr.trans GW5 hB6
          clear hB6 h25 h35 h55 h75 GW5
          go_upto_region 6 with fail
          refine wp_region_ssaL (by kernel_rfl) [IsV (.bool true), IsV (.bool false), IsV (.bool false), IsV (.bool false), IsV (.bool true), IsV (.bool true), IsV (.bool true), IsV (undef), IsV (undef), IsV (undef), IsV (undef), IsV (undef), IsV (undef), IsV (undef), IsV (undef), IsV (undef), IsV (undef), IsV (undef), IsV (undef), IsV (undef), IsV (undef), IsV (undef), IsV (undef), IsV (undef), IsV (.bool true), IsV (.bool true)] (by kernel_rfl) ?_ ?_ ?_
          · intro φ hφ v w1 w2 h hg
            simp only [List.mem_cons, List.not_mem_nil, or_false] at hφ
            rcases hφ with rfl | rfl | rfl | rfl | rfl | rfl | rfl | rfl | rfl | rfl | rfl | rfl | rfl | rfl | rfl | rfl | rfl | rfl | rfl | rfl | rfl | rfl | rfl | rfl | rfl | rfl
            all_goals first | exact h | exact RdV.gr h hg
          · refine ⟨?_, ?_, ?_, ?_, ?_, ?_, ?_, ?_, ?_, ?_, ?_, ?_, ?_, ?_, ?_, ?_, ?_, ?_, ?_, ?_, ?_, ?_, ?_, ?_, ?_, ?_, trivial⟩
            · intro a1 w1 hG hF
              exact s_old rfl (wants0 rfl) (.tmp 9) (.inr rfl) (.bool true) (hF.ol 9 (by kernel_rfl)) rfl
            · intro a1 w1 hG hF
              obtain ⟨_, e70, rfl⟩ := hF.dp 0 70 (by kernel_rfl)
              exact s_is rfl (wants0 rfl) _ rfl (by simp only [execOp, e70]; go_simp)
            · intro a1 w1 hG hF
              exact s_same rfl (wants0 rfl) (.tmp 71) (.inr rfl) (hF.dp 1 71 (by kernel_rfl))
            · intro a1 w1 hG hF
              exact s_old rfl (wantsG hF 2 72 false rfl (by kernel_rfl) rfl) (.tmp 10) (.inr rfl) (.bool false) (hF.ol 10 (by kernel_rfl)) rfl
            · intro a1 w1 hG hF
              obtain ⟨_, e73, rfl⟩ := hF.dp 3 73 (by kernel_rfl)
              exact s_is rfl (wantsG hF 2 72 false rfl (by kernel_rfl) rfl) _ rfl (by simp only [execOp, e73]; go_simp)
            · intro a1 w1 hG hF
              obtain ⟨_, e72, rfl⟩ := hF.dp 2 72 (by kernel_rfl)
              obtain ⟨_, e74, rfl⟩ := hF.dp 4 74 (by kernel_rfl)
              exact s_pickF rfl (wants0 rfl) (.tmp 72) _ (.tmp 74) rfl e72 _ e74 rfl
            · intro a1 w1 hG hF
              exact s_same rfl (wants0 rfl) (.tmp 75) (.inr rfl) (hF.dp 5 75 (by kernel_rfl))
            · intro a1 w1 hG hF
              exact s_not rfl (notN hF 6 76 false rfl (by kernel_rfl) rfl) rfl
            · intro a1 w1 hG hF
              exact s_not rfl (notN hF 6 76 false rfl (by kernel_rfl) rfl) rfl
            · intro a1 w1 hG hF
              exact s_not rfl (notN hF 6 76 false rfl (by kernel_rfl) rfl) rfl
            · intro a1 w1 hG hF
              exact s_not rfl (notN hF 6 76 false rfl (by kernel_rfl) rfl) rfl
            · intro a1 w1 hG hF
              exact s_not rfl (notN hF 6 76 false rfl (by kernel_rfl) rfl) rfl
            · intro a1 w1 hG hF
              exact s_not rfl (notN hF 6 76 false rfl (by kernel_rfl) rfl) rfl
            · intro a1 w1 hG hF
              exact s_not rfl (notN hF 6 76 false rfl (by kernel_rfl) rfl) rfl
            · intro a1 w1 hG hF
              exact s_not rfl (notN hF 6 76 false rfl (by kernel_rfl) rfl) rfl
            · intro a1 w1 hG hF
              exact s_not rfl (notN hF 6 76 false rfl (by kernel_rfl) rfl) rfl
            · intro a1 w1 hG hF
              exact s_not rfl (notU hF 15 85 true rfl (by kernel_rfl) rfl) rfl
            · intro a1 w1 hG hF
              exact s_not rfl (notU hF 15 85 true rfl (by kernel_rfl) rfl) rfl
            · intro a1 w1 hG hF
              exact s_not rfl (notU hF 15 85 true rfl (by kernel_rfl) rfl) rfl
            · intro a1 w1 hG hF
              exact s_not rfl (notU hF 15 85 true rfl (by kernel_rfl) rfl) rfl
            · intro a1 w1 hG hF
              exact s_not rfl (notU hF 15 85 true rfl (by kernel_rfl) rfl) rfl
            · intro a1 w1 hG hF
              exact s_not rfl (notU hF 15 85 true rfl (by kernel_rfl) rfl) rfl
            · intro a1 w1 hG hF
              exact s_not rfl (notU hF 15 85 true rfl (by kernel_rfl) rfl) rfl
            · intro a1 w1 hG hF
              exact s_not rfl (notN hF 6 76 false rfl (by kernel_rfl) rfl) rfl
            · intro a1 w1 hG hF
              obtain ⟨_, e76, rfl⟩ := hF.dp 6 76 (by kernel_rfl)
              exact s_pick rfl (wants0 rfl) (.tmp 76) _ _ rfl e76 _ rfl rfl
            · intro a1 w1 hG hF
              exact s_same rfl (wants0 rfl) (.tmp 94) (.inl rfl) (hF.dp 24 94 (by kernel_rfl))
          · intro vs w1 hG hf
            have z4 : vs 25 = .bool true := hf.2.2.2.2.2.2.2.2.2.2.2.2.2.2.2.2.2.2.2.2.2.2.2.2.2.1
            clear hf
            simp only [putAll, Nat.zero_add, Nat.reduceAdd, z4]
            go_simp
            go_wp2_with fail
            go_ret
            exact ⟨rfl, Gr.trans GW6 ((Gr.drew w6).trans hG)⟩
    · have ak : va < 1 ∨ 4611686018427387904 < va := by omega
      by_cases bg : 1 ≤ ub ∧ ub ≤ 16
      · obtain ⟨b1h, b2⟩ := bg
        by_cases bf : 1 ≤ vb ∧ vb ≤ 4611686018427387904
        · obtain ⟨b3, b4⟩ := bf
          have hEX : E = 1 := by rcases HX.out with h | h <;> omega
          have hFY : F = 0 := by rcases HY.out with h | h <;> omega
          have hXe : X = List.replicate 12 0 := by rcases HX.out with h | h; exact absurd h.2.2.2.2.1 (by omega); exact h.2.2
          have hYe : Y = nonceL ub.toNat vb.toNat := by rcases HY.out with h | h; exact h.2.2.2.2.2; exact absurd h.2.1 (by omega)
          subst hEX hFY
          have HQ : Hid (∀ w, (Op.equalIn 10000 33 (.agg (u8s X).toArray) (.agg #[.int .u8 0, .int .u8 0, .int .u8 0, .int .u8 0, .int .u8 0, .int .u8 0, .int .u8 0, .int .u8 0, .int .u8 0, .int .u8 0, .int .u8 0, .int .u8 0])).run Tryd.prog w = .ok true w) := by
            intro w
            rw [hXe]
            exact run_equalIn_bytes (P := Tryd.prog) w 9998 33 5 12 Tryd.underlying33 Tryd.underlying5 (fun w => by kernel_rfl) (List.replicate 12 0) (List.replicate 12 0) rfl rfl
          clear hXe HX HY hYe
          refine wp_region_ssaL (by kernel_rfl) [IsV (.pointer (some ⟨g2, 0, none⟩)), IsV (.int .i64 (ua)), IsV (.bool true), IsV (.bool true), IsV (.pointer (some ⟨g2, 1, none⟩)), IsV (.int .i64 (va)), IsV (.bool false), IsV (.bool false), IsV (.pointer (some ⟨g3, 0, none⟩)), IsV (.int .i64 (ub)), IsV (.bool true), IsV (.bool true), IsV (.pointer (some ⟨g3, 1, none⟩)), IsV (.int .i64 (vb)), IsV (.bool true), IsV (.bool true), IsV (.bool false), IsV (.bool true)] (by kernel_rfl) ?_ ?_ ?_
          · intro φ hφ v w1 w2 h hg
            simp only [List.mem_cons, List.not_mem_nil, or_false] at hφ
            rcases hφ with rfl | rfl | rfl | rfl | rfl | rfl | rfl | rfl | rfl | rfl | rfl | rfl | rfl | rfl | rfl | rfl | rfl | rfl
            all_goals first | exact h | exact RdV.gr h hg
          · refine ⟨?_, ?_, ?_, ?_, ?_, ?_, ?_, ?_, ?_, ?_, ?_, ?_, ?_, ?_, ?_, ?_, ?_, ?_, trivial⟩
            · intro a1 w1 hG hF
              have e2 : a1.eval (.tmp 2) = .pointer (some ⟨g2, 0, none⟩) := hF.ol 2 (by kernel_rfl)
              exact s_is rfl (wants0 rfl) _ rfl (run_idx (i := 0) Tryd.underlying32 (by kernel_rfl) e2 rfl (by omega))
            · intro a1 w1 hG hF
              obtain ⟨_, e27, rfl⟩ := hF.dp 0 27 (by kernel_rfl)
              exact s_is rfl (wants0 rfl) _ rfl (run_load1 Tryd.underlying3 e27 (Gr.cell ((Gr.drew w4).trans hG) c20))
            · intro a1 w1 hG hF
              obtain ⟨_, e28, rfl⟩ := hF.dp 1 28 (by kernel_rfl)
              exact s_call rfl (wants0 rfl) _ rfl _ _ (by simp only [execOp, resolve, invoke, List.map_toArray, List.map_cons, List.map_nil, e28]; go_simp) ((client_yes _ a1h a2 w1).mono fun e w2 ⟨he, hw⟩ => ⟨_, he, rfl, hw ▸ Gr.refl _⟩)
            · intro a1 w1 hG hF
              exact s_same rfl (wants0 rfl) (.tmp 29) (.inr rfl) (hF.dp 2 29 (by kernel_rfl))
            · intro a1 w1 hG hF
              have e2 : a1.eval (.tmp 2) = .pointer (some ⟨g2, 0, none⟩) := hF.ol 2 (by kernel_rfl)
              exact s_is rfl (wantsG hF 3 30 true rfl (by kernel_rfl) rfl) _ rfl (run_idx (i := 1) Tryd.underlying32 (by kernel_rfl) e2 rfl (by omega))
            · intro a1 w1 hG hF
              obtain ⟨_, e31, rfl⟩ := hF.dp 4 31 (by kernel_rfl)
              exact s_is rfl (wantsG hF 3 30 true rfl (by kernel_rfl) rfl) _ rfl (run_load1 Tryd.underlying3 e31 (Gr.cell ((Gr.drew w4).trans hG) c21))
            · intro a1 w1 hG hF
              obtain ⟨_, e32, rfl⟩ := hF.dp 5 32 (by kernel_rfl)
              exact s_call rfl (wantsG hF 3 30 true rfl (by kernel_rfl) rfl) _ rfl _ _ (by simp only [execOp, resolve, invoke, List.map_toArray, List.map_cons, List.map_nil, e32]; go_simp) ((counter_no _ ak w1).mono fun e w2 ⟨he, hw⟩ => ⟨_, he, rfl, hw ▸ Gr.refl _⟩)
            · intro a1 w1 hG hF
              obtain ⟨_, e30, rfl⟩ := hF.dp 3 30 (by kernel_rfl)
              obtain ⟨_, e33, rfl⟩ := hF.dp 6 33 (by kernel_rfl)
              exact s_pick rfl (wants0 rfl) (.tmp 30) (.tmp 33) _ rfl e30 _ e33 rfl
            · intro a1 w1 hG hF
              have e3 : a1.eval (.tmp 3) = .pointer (some ⟨g3, 0, none⟩) := hF.ol 3 (by kernel_rfl)
              exact s_is rfl (wants0 rfl) _ rfl (run_idx (i := 0) Tryd.underlying32 (by kernel_rfl) e3 rfl (by omega))
            · intro a1 w1 hG hF
              obtain ⟨_, e35, rfl⟩ := hF.dp 8 35 (by kernel_rfl)
              exact s_is rfl (wants0 rfl) _ rfl (run_load1 Tryd.underlying3 e35 (Gr.cell ((Gr.drew w4).trans hG) c30))
            · intro a1 w1 hG hF
              obtain ⟨_, e36, rfl⟩ := hF.dp 9 36 (by kernel_rfl)
              exact s_call rfl (wants0 rfl) _ rfl _ _ (by simp only [execOp, resolve, invoke, List.map_toArray, List.map_cons, List.map_nil, e36]; go_simp) ((client_yes _ b1h b2 w1).mono fun e w2 ⟨he, hw⟩ => ⟨_, he, rfl, hw ▸ Gr.refl _⟩)
            · intro a1 w1 hG hF
              exact s_same rfl (wants0 rfl) (.tmp 37) (.inr rfl) (hF.dp 10 37 (by kernel_rfl))
            · intro a1 w1 hG hF
              have e3 : a1.eval (.tmp 3) = .pointer (some ⟨g3, 0, none⟩) := hF.ol 3 (by kernel_rfl)
              exact s_is rfl (wantsG hF 11 38 true rfl (by kernel_rfl) rfl) _ rfl (run_idx (i := 1) Tryd.underlying32 (by kernel_rfl) e3 rfl (by omega))
            · intro a1 w1 hG hF
              obtain ⟨_, e39, rfl⟩ := hF.dp 12 39 (by kernel_rfl)
              exact s_is rfl (wantsG hF 11 38 true rfl (by kernel_rfl) rfl) _ rfl (run_load1 Tryd.underlying3 e39 (Gr.cell ((Gr.drew w4).trans hG) c31))
            · intro a1 w1 hG hF
              obtain ⟨_, e40, rfl⟩ := hF.dp 13 40 (by kernel_rfl)
              exact s_call rfl (wantsG hF 11 38 true rfl (by kernel_rfl) rfl) _ rfl _ _ (by simp only [execOp, resolve, invoke, List.map_toArray, List.map_cons, List.map_nil, e40]; go_simp) ((counter_yes _ b3 b4 w1).mono fun e w2 ⟨he, hw⟩ => ⟨_, he, rfl, hw ▸ Gr.refl _⟩)
            · intro a1 w1 hG hF
              obtain ⟨_, e38, rfl⟩ := hF.dp 11 38 (by kernel_rfl)
              obtain ⟨_, e41, rfl⟩ := hF.dp 14 41 (by kernel_rfl)
              exact s_pick rfl (wants0 rfl) (.tmp 38) (.tmp 41) _ rfl e38 _ e41 rfl
            · intro a1 w1 hG hF
              exact s_same rfl (wants0 rfl) (.tmp 34) (.inl rfl) (hF.dp 7 34 (by kernel_rfl))
            · intro a1 w1 hG hF
              exact s_same rfl (wants0 rfl) (.tmp 42) (.inl rfl) (hF.dp 15 42 (by kernel_rfl))
          · intro vs w1 hG hf
            have z9 : vs 16 = .bool false := hf.2.2.2.2.2.2.2.2.2.2.2.2.2.2.2.2.1
            have z10 : vs 17 = .bool true := hf.2.2.2.2.2.2.2.2.2.2.2.2.2.2.2.2.2.1
            clear hf
            simp only [putAll, Nat.zero_add, Nat.reduceAdd, z9, z10]
            have GW5 := Gr.trans GW4 ((Gr.drew w4).trans hG)
            have h25 := h24.gr ((Gr.drew w4).trans hG)
            have h35 := h34.gr ((Gr.drew w4).trans hG)
            have h55 := h54.gr ((Gr.drew w4).trans hG)
            have h75 := h7.gr ((Gr.drew w4).trans hG)
            generalize w1 = w5 at h25 h35 h55 h75 GW5 ⊢
            clear hG h24 h34 h54 h7 GW4 c20 c21 c30 c31
            go_simp
            go_wp2_with fail
            refine (HH.out w5).mono ?_
            rintro e w6 ⟨rfl, hB6⟩
            have h26 := h25.gr hB6
            have h36 := h35.gr hB6
            have h56 := h55.gr hB6
            have h76 := h75.gr hB6
            have GW6 := Gr.trans GW5 hB6
            clear hB6 h25 h35 h55 h75 GW5
            have heq := HQ.out w6
            go_upto_region 6 with first
              | (refine wpList_loadW rfl 33 (.tmp 5) rfl rfl h56 ⟨_, _, Tryd.underlying33⟩ (info12 X hXl) ?_)
            clear heq
            refine wp_region_ssaL (by kernel_rfl) [IsV (.bool false), IsV (.bool true), IsV (.bool true), IsV (undef), IsV (undef), IsV (.bool true), IsV (.bool true), IsV (undef), IsV (undef), IsV (undef), IsV (undef), IsV (undef), IsV (undef), IsV (undef), IsV (undef), IsV (undef), IsV (undef), IsV (undef), IsV (undef), IsV (undef), IsV (undef), IsV (undef), IsV (undef), IsV (undef), IsV (.bool true), IsV (.bool true)] (by kernel_rfl) ?_ ?_ ?_
            · intro φ hφ v w1 w2 h hg
              simp only [List.mem_cons, List.not_mem_nil, or_false] at hφ
              rcases hφ with rfl | rfl | rfl | rfl | rfl | rfl | rfl | rfl | rfl | rfl | rfl | rfl | rfl | rfl | rfl | rfl | rfl | rfl | rfl | rfl | rfl | rfl | rfl | rfl | rfl | rfl
              all_goals first | exact h | exact RdV.gr h hg
            · refine ⟨?_, ?_, ?_, ?_, ?_, ?_, ?_, ?_, ?_, ?_, ?_, ?_, ?_, ?_, ?_, ?_, ?_, ?_, ?_, ?_, ?_, ?_, ?_, ?_, ?_, ?_, trivial⟩
              · intro a1 w1 hG hF
                exact s_old rfl (wants0 rfl) (.tmp 9) (.inr rfl) (.bool false) (hF.ol 9 (by kernel_rfl)) rfl
              · intro a1 w1 hG hF
                obtain ⟨_, e70, rfl⟩ := hF.dp 0 70 (by kernel_rfl)
                exact s_is rfl (wants0 rfl) _ rfl (by simp only [execOp, e70]; go_simp)
              · intro a1 w1 hG hF
                exact s_same rfl (wants0 rfl) (.tmp 71) (.inr rfl) (hF.dp 1 71 (by kernel_rfl))
              · intro a1 w1 hG hF
                exact s_not rfl (notN hF 2 72 false rfl (by kernel_rfl) rfl) rfl
              · intro a1 w1 hG hF
                exact s_not rfl (notN hF 2 72 false rfl (by kernel_rfl) rfl) rfl
              · intro a1 w1 hG hF
                obtain ⟨_, e72, rfl⟩ := hF.dp 2 72 (by kernel_rfl)
                exact s_pick rfl (wants0 rfl) (.tmp 72) _ _ rfl e72 _ rfl rfl
              · intro a1 w1 hG hF
                exact s_same rfl (wants0 rfl) (.tmp 75) (.inr rfl) (hF.dp 5 75 (by kernel_rfl))
              · intro a1 w1 hG hF
                exact s_not rfl (notN hF 6 76 false rfl (by kernel_rfl) rfl) rfl
              · intro a1 w1 hG hF
                exact s_not rfl (notN hF 6 76 false rfl (by kernel_rfl) rfl) rfl
              · intro a1 w1 hG hF
                exact s_not rfl (notN hF 6 76 false rfl (by kernel_rfl) rfl) rfl
              · intro a1 w1 hG hF
                exact s_not rfl (notN hF 6 76 false rfl (by kernel_rfl) rfl) rfl
              · intro a1 w1 hG hF
                exact s_not rfl (notN hF 6 76 false rfl (by kernel_rfl) rfl) rfl
              · intro a1 w1 hG hF
                exact s_not rfl (notN hF 6 76 false rfl (by kernel_rfl) rfl) rfl
              · intro a1 w1 hG hF
                exact s_not rfl (notN hF 6 76 false rfl (by kernel_rfl) rfl) rfl
              · intro a1 w1 hG hF
                exact s_not rfl (notN hF 6 76 false rfl (by kernel_rfl) rfl) rfl
              · intro a1 w1 hG hF
                exact s_not rfl (notN hF 6 76 false rfl (by kernel_rfl) rfl) rfl
              · intro a1 w1 hG hF
                exact s_not rfl (notU hF 15 85 true rfl (by kernel_rfl) rfl) rfl
              · intro a1 w1 hG hF
                exact s_not rfl (notU hF 15 85 true rfl (by kernel_rfl) rfl) rfl
              · intro a1 w1 hG hF
                exact s_not rfl (notU hF 15 85 true rfl (by kernel_rfl) rfl) rfl
              · intro a1 w1 hG hF
                exact s_not rfl (notU hF 15 85 true rfl (by kernel_rfl) rfl) rfl
              · intro a1 w1 hG hF
                exact s_not rfl (notU hF 15 85 true rfl (by kernel_rfl) rfl) rfl
              · intro a1 w1 hG hF
                exact s_not rfl (notU hF 15 85 true rfl (by kernel_rfl) rfl) rfl
              · intro a1 w1 hG hF
                exact s_not rfl (notU hF 15 85 true rfl (by kernel_rfl) rfl) rfl
              · intro a1 w1 hG hF
                exact s_not rfl (notN hF 6 76 false rfl (by kernel_rfl) rfl) rfl
              · intro a1 w1 hG hF
                obtain ⟨_, e76, rfl⟩ := hF.dp 6 76 (by kernel_rfl)
                exact s_pick rfl (wants0 rfl) (.tmp 76) _ _ rfl e76 _ rfl rfl
              · intro a1 w1 hG hF
                exact s_same rfl (wants0 rfl) (.tmp 94) (.inl rfl) (hF.dp 24 94 (by kernel_rfl))
            · intro vs w1 hG hf
              have z4 : vs 25 = .bool true := hf.2.2.2.2.2.2.2.2.2.2.2.2.2.2.2.2.2.2.2.2.2.2.2.2.2.1
              clear hf
              simp only [putAll, Nat.zero_add, Nat.reduceAdd, z4]
              go_simp
              go_wp2_with fail
              go_ret
              exact ⟨rfl, Gr.trans GW6 ((Gr.drew w6).trans hG)⟩
        · have bk : vb < 1 ∨ 4611686018427387904 < vb := by omega
          have hEX : E = 1 := by rcases HX.out with h | h <;> omega
          have hFY : F = 1 := by rcases HY.out with h | h <;> omega
          have hXe : X = List.replicate 12 0 := by rcases HX.out with h | h; exact absurd h.2.2.2.2.1 (by omega); exact h.2.2
          subst hEX hFY
          have HQ : Hid (∀ w, (Op.equalIn 10000 33 (.agg (u8s X).toArray) (.agg #[.int .u8 0, .int .u8 0, .int .u8 0, .int .u8 0, .int .u8 0, .int .u8 0, .int .u8 0, .int .u8 0, .int .u8 0, .int .u8 0, .int .u8 0, .int .u8 0])).run Tryd.prog w = .ok true w) := by
            intro w
            rw [hXe]
            exact run_equalIn_bytes (P := Tryd.prog) w 9998 33 5 12 Tryd.underlying33 Tryd.underlying5 (fun w => by kernel_rfl) (List.replicate 12 0) (List.replicate 12 0) rfl rfl
          clear hXe HX HY
          refine wp_region_ssaL (by kernel_rfl) [IsV (.pointer (some ⟨g2, 0, none⟩)), IsV (.int .i64 (ua)), IsV (.bool true), IsV (.bool true), IsV (.pointer (some ⟨g2, 1, none⟩)), IsV (.int .i64 (va)), IsV (.bool false), IsV (.bool false), IsV (.pointer (some ⟨g3, 0, none⟩)), IsV (.int .i64 (ub)), IsV (.bool true), IsV (.bool true), IsV (.pointer (some ⟨g3, 1, none⟩)), IsV (.int .i64 (vb)), IsV (.bool false), IsV (.bool false), IsV (.bool false), IsV (.bool false)] (by kernel_rfl) ?_ ?_ ?_
          · intro φ hφ v w1 w2 h hg
            simp only [List.mem_cons, List.not_mem_nil, or_false] at hφ
            rcases hφ with rfl | rfl | rfl | rfl | rfl | rfl | rfl | rfl | rfl | rfl | rfl | rfl | rfl | rfl | rfl | rfl | rfl | rfl
            all_goals first | exact h | exact RdV.gr h hg
          · refine ⟨?_, ?_, ?_, ?_, ?_, ?_, ?_, ?_, ?_, ?_, ?_, ?_, ?_, ?_, ?_, ?_, ?_, ?_, trivial⟩
            · intro a1 w1 hG hF
              have e2 : a1.eval (.tmp 2) = .pointer (some ⟨g2, 0, none⟩) := hF.ol 2 (by kernel_rfl)
              exact s_is rfl (wants0 rfl) _ rfl (run_idx (i := 0) Tryd.underlying32 (by kernel_rfl) e2 rfl (by omega))
            · intro a1 w1 hG hF
              obtain ⟨_, e27, rfl⟩ := hF.dp 0 27 (by kernel_rfl)
              exact s_is rfl (wants0 rfl) _ rfl (run_load1 Tryd.underlying3 e27 (Gr.cell ((Gr.drew w4).trans hG) c20))
            · intro a1 w1 hG hF
              obtain ⟨_, e28, rfl⟩ := hF.dp 1 28 (by kernel_rfl)
              exact s_call rfl (wants0 rfl) _ rfl _ _ (by simp only [execOp, resolve, invoke, List.map_toArray, List.map_cons, List.map_nil, e28]; go_simp) ((client_yes _ a1h a2 w1).mono fun e w2 ⟨he, hw⟩ => ⟨_, he, rfl, hw ▸ Gr.refl _⟩)
            · intro a1 w1 hG hF
              exact s_same rfl (wants0 rfl) (.tmp 29) (.inr rfl) (hF.dp 2 29 (by kernel_rfl))
            · intro a1 w1 hG hF
              have e2 : a1.eval (.tmp 2) = .pointer (some ⟨g2, 0, none⟩) := hF.ol 2 (by kernel_rfl)
              exact s_is rfl (wantsG hF 3 30 true rfl (by kernel_rfl) rfl) _ rfl (run_idx (i := 1) Tryd.underlying32 (by kernel_rfl) e2 rfl (by omega))
            · intro a1 w1 hG hF
              obtain ⟨_, e31, rfl⟩ := hF.dp 4 31 (by kernel_rfl)
              exact s_is rfl (wantsG hF 3 30 true rfl (by kernel_rfl) rfl) _ rfl (run_load1 Tryd.underlying3 e31 (Gr.cell ((Gr.drew w4).trans hG) c21))
            · intro a1 w1 hG hF
              obtain ⟨_, e32, rfl⟩ := hF.dp 5 32 (by kernel_rfl)
              exact s_call rfl (wantsG hF 3 30 true rfl (by kernel_rfl) rfl) _ rfl _ _ (by simp only [execOp, resolve, invoke, List.map_toArray, List.map_cons, List.map_nil, e32]; go_simp) ((counter_no _ ak w1).mono fun e w2 ⟨he, hw⟩ => ⟨_, he, rfl, hw ▸ Gr.refl _⟩)
            · intro a1 w1 hG hF
              obtain ⟨_, e30, rfl⟩ := hF.dp 3 30 (by kernel_rfl)
              obtain ⟨_, e33, rfl⟩ := hF.dp 6 33 (by kernel_rfl)
              exact s_pick rfl (wants0 rfl) (.tmp 30) (.tmp 33) _ rfl e30 _ e33 rfl
            · intro a1 w1 hG hF
              have e3 : a1.eval (.tmp 3) = .pointer (some ⟨g3, 0, none⟩) := hF.ol 3 (by kernel_rfl)
              exact s_is rfl (wants0 rfl) _ rfl (run_idx (i := 0) Tryd.underlying32 (by kernel_rfl) e3 rfl (by omega))
            · intro a1 w1 hG hF
              obtain ⟨_, e35, rfl⟩ := hF.dp 8 35 (by kernel_rfl)
              exact s_is rfl (wants0 rfl) _ rfl (run_load1 Tryd.underlying3 e35 (Gr.cell ((Gr.drew w4).trans hG) c30))
            · intro a1 w1 hG hF
              obtain ⟨_, e36, rfl⟩ := hF.dp 9 36 (by kernel_rfl)
              exact s_call rfl (wants0 rfl) _ rfl _ _ (by simp only [execOp, resolve, invoke, List.map_toArray, List.map_cons, List.map_nil, e36]; go_simp) ((client_yes _ b1h b2 w1).mono fun e w2 ⟨he, hw⟩ => ⟨_, he, rfl, hw ▸ Gr.refl _⟩)
            · intro a1 w1 hG hF
              exact s_same rfl (wants0 rfl) (.tmp 37) (.inr rfl) (hF.dp 10 37 (by kernel_rfl))
            · intro a1 w1 hG hF
              have e3 : a1.eval (.tmp 3) = .pointer (some ⟨g3, 0, none⟩) := hF.ol 3 (by kernel_rfl)
              exact s_is rfl (wantsG hF 11 38 true rfl (by kernel_rfl) rfl) _ rfl (run_idx (i := 1) Tryd.underlying32 (by kernel_rfl) e3 rfl (by omega))
            · intro a1 w1 hG hF
              obtain ⟨_, e39, rfl⟩ := hF.dp 12 39 (by kernel_rfl)
              exact s_is rfl (wantsG hF 11 38 true rfl (by kernel_rfl) rfl) _ rfl (run_load1 Tryd.underlying3 e39 (Gr.cell ((Gr.drew w4).trans hG) c31))
            · intro a1 w1 hG hF
              obtain ⟨_, e40, rfl⟩ := hF.dp 13 40 (by kernel_rfl)
              exact s_call rfl (wantsG hF 11 38 true rfl (by kernel_rfl) rfl) _ rfl _ _ (by simp only [execOp, resolve, invoke, List.map_toArray, List.map_cons, List.map_nil, e40]; go_simp) ((counter_no _ bk w1).mono fun e w2 ⟨he, hw⟩ => ⟨_, he, rfl, hw ▸ Gr.refl _⟩)
            · intro a1 w1 hG hF
              obtain ⟨_, e38, rfl⟩ := hF.dp 11 38 (by kernel_rfl)
              obtain ⟨_, e41, rfl⟩ := hF.dp 14 41 (by kernel_rfl)
              exact s_pick rfl (wants0 rfl) (.tmp 38) (.tmp 41) _ rfl e38 _ e41 rfl
            · intro a1 w1 hG hF
              exact s_same rfl (wants0 rfl) (.tmp 34) (.inl rfl) (hF.dp 7 34 (by kernel_rfl))
            · intro a1 w1 hG hF
              exact s_same rfl (wants0 rfl) (.tmp 42) (.inl rfl) (hF.dp 15 42 (by kernel_rfl))
          · intro vs w1 hG hf
            have z9 : vs 16 = .bool false := hf.2.2.2.2.2.2.2.2.2.2.2.2.2.2.2.2.1
            have z10 : vs 17 = .bool false := hf.2.2.2.2.2.2.2.2.2.2.2.2.2.2.2.2.2.1
            clear hf
            simp only [putAll, Nat.zero_add, Nat.reduceAdd, z9, z10]
            have GW5 := Gr.trans GW4 ((Gr.drew w4).trans hG)
            have h25 := h24.gr ((Gr.drew w4).trans hG)
            have h35 := h34.gr ((Gr.drew w4).trans hG)
            have h55 := h54.gr ((Gr.drew w4).trans hG)
            have h75 := h7.gr ((Gr.drew w4).trans hG)
            generalize w1 = w5 at h25 h35 h55 h75 GW5 ⊢
            clear hG h24 h34 h54 h7 GW4 c20 c21 c30 c31
            go_simp
            go_wp2_with fail
            refine (HH.out w5).mono ?_
            rintro e w6 ⟨rfl, hB6⟩
            have h26 := h25.gr hB6
            have h36 := h35.gr hB6
            have h56 := h55.gr hB6
            have h76 := h75.gr hB6
            have GW6 := Gr.trans GW5 hB6
            clear hB6 h25 h35 h55 h75 GW5
            have heq := HQ.out w6
            go_upto_region 6 with first
              | (refine wpList_loadW rfl 33 (.tmp 5) rfl rfl h56 ⟨_, _, Tryd.underlying33⟩ (info12 X hXl) ?_)
            clear heq
            refine wp_region_ssaL (by kernel_rfl) [IsV (.bool false), IsV (.bool true), IsV (.bool true), IsV (undef), IsV (undef), IsV (.bool true), IsV (.bool true), IsV (undef), IsV (undef), IsV (undef), IsV (undef), IsV (undef), IsV (undef), IsV (undef), IsV (undef), IsV (undef), IsV (undef), IsV (undef), IsV (undef), IsV (undef), IsV (undef), IsV (undef), IsV (undef), IsV (undef), IsV (.bool true), IsV (.bool true)] (by kernel_rfl) ?_ ?_ ?_
            · intro φ hφ v w1 w2 h hg
              simp only [List.mem_cons, List.not_mem_nil, or_false] at hφ
              rcases hφ with rfl | rfl | rfl | rfl | rfl | rfl | rfl | rfl | rfl | rfl | rfl | rfl | rfl | rfl | rfl | rfl | rfl | rfl | rfl | rfl | rfl | rfl | rfl | rfl | rfl | rfl
              all_goals first | exact h | exact RdV.gr h hg
            · refine ⟨?_, ?_, ?_, ?_, ?_, ?_, ?_, ?_, ?_, ?_, ?_, ?_, ?_, ?_, ?_, ?_, ?_, ?_, ?_, ?_, ?_, ?_, ?_, ?_, ?_, ?_, trivial⟩
              · intro a1 w1 hG hF
                exact s_old rfl (wants0 rfl) (.tmp 9) (.inr rfl) (.bool false) (hF.ol 9 (by kernel_rfl)) rfl
              · intro a1 w1 hG hF
                obtain ⟨_, e70, rfl⟩ := hF.dp 0 70 (by kernel_rfl)
                exact s_is rfl (wants0 rfl) _ rfl (by simp only [execOp, e70]; go_simp)
              · intro a1 w1 hG hF
                exact s_same rfl (wants0 rfl) (.tmp 71) (.inr rfl) (hF.dp 1 71 (by kernel_rfl))
              · intro a1 w1 hG hF
                exact s_not rfl (notN hF 2 72 false rfl (by kernel_rfl) rfl) rfl
              · intro a1 w1 hG hF
                exact s_not rfl (notN hF 2 72 false rfl (by kernel_rfl) rfl) rfl
              · intro a1 w1 hG hF
                obtain ⟨_, e72, rfl⟩ := hF.dp 2 72 (by kernel_rfl)
                exact s_pick rfl (wants0 rfl) (.tmp 72) _ _ rfl e72 _ rfl rfl
              · intro a1 w1 hG hF
                exact s_same rfl (wants0 rfl) (.tmp 75) (.inr rfl) (hF.dp 5 75 (by kernel_rfl))
              · intro a1 w1 hG hF
                exact s_not rfl (notN hF 6 76 false rfl (by kernel_rfl) rfl) rfl
              · intro a1 w1 hG hF
                exact s_not rfl (notN hF 6 76 false rfl (by kernel_rfl) rfl) rfl
              · intro a1 w1 hG hF
                exact s_not rfl (notN hF 6 76 false rfl (by kernel_rfl) rfl) rfl
              · intro a1 w1 hG hF
                exact s_not rfl (notN hF 6 76 false rfl (by kernel_rfl) rfl) rfl
              · intro a1 w1 hG hF
                exact s_not rfl (notN hF 6 76 false rfl (by kernel_rfl) rfl) rfl
              · intro a1 w1 hG hF
                exact s_not rfl (notN hF 6 76 false rfl (by kernel_rfl) rfl) rfl
              · intro a1 w1 hG hF
                exact s_not rfl (notN hF 6 76 false rfl (by kernel_rfl) rfl) rfl
              · intro a1 w1 hG hF
                exact s_not rfl (notN hF 6 76 false rfl (by kernel_rfl) rfl) rfl
              · intro a1 w1 hG hF
                exact s_not rfl (notN hF 6 76 false rfl (by kernel_rfl) rfl) rfl
              · intro a1 w1 hG hF
                exact s_not rfl (notU hF 15 85 true rfl (by kernel_rfl) rfl) rfl
              · intro a1 w1 hG hF
                exact s_not rfl (notU hF 15 85 true rfl (by kernel_rfl) rfl) rfl
              · intro a1 w1 hG hF
                exact s_not rfl (notU hF 15 85 true rfl (by kernel_rfl) rfl) rfl
              · intro a1 w1 hG hF
                exact s_not rfl (notU hF 15 85 true rfl (by kernel_rfl) rfl) rfl
              · intro a1 w1 hG hF
                exact s_not rfl (notU hF 15 85 true rfl (by kernel_rfl) rfl) rfl
              · intro a1 w1 hG hF
                exact s_not rfl (notU hF 15 85 true rfl (by kernel_rfl) rfl) rfl
              · intro a1 w1 hG hF
                exact s_not rfl (notU hF 15 85 true rfl (by kernel_rfl) rfl) rfl
              · intro a1 w1 hG hF
                exact s_not rfl (notN hF 6 76 false rfl (by kernel_rfl) rfl) rfl
              · intro a1 w1 hG hF
                obtain ⟨_, e76, rfl⟩ := hF.dp 6 76 (by kernel_rfl)
                exact s_pick rfl (wants0 rfl) (.tmp 76) _ _ rfl e76 _ rfl rfl
              · intro a1 w1 hG hF
                exact s_same rfl (wants0 rfl) (.tmp 94) (.inl rfl) (hF.dp 24 94 (by kernel_rfl))
            · intro vs w1 hG hf
              have z4 : vs 25 = .bool true := hf.2.2.2.2.2.2.2.2.2.2.2.2.2.2.2.2.2.2.2.2.2.2.2.2.2.1
              clear hf
              simp only [putAll, Nat.zero_add, Nat.reduceAdd, z4]
              go_simp
              go_wp2_with fail
              go_ret
              exact ⟨rfl, Gr.trans GW6 ((Gr.drew w6).trans hG)⟩
      · have bc : ub < 1 ∨ 16 < ub := by omega
        have hEX : E = 1 := by rcases HX.out with h | h <;> omega
        have hFY : F = 1 := by rcases HY.out with h | h <;> omega
        have hXe : X = List.replicate 12 0 := by rcases HX.out with h | h; exact absurd h.2.2.2.2.1 (by omega); exact h.2.2
        subst hEX hFY
        have HQ : Hid (∀ w, (Op.equalIn 10000 33 (.agg (u8s X).toArray) (.agg #[.int .u8 0, .int .u8 0, .int .u8 0, .int .u8 0, .int .u8 0, .int .u8 0, .int .u8 0, .int .u8 0, .int .u8 0, .int .u8 0, .int .u8 0, .int .u8 0])).run Tryd.prog w = .ok true w) := by
          intro w
          rw [hXe]
          exact run_equalIn_bytes (P := Tryd.prog) w 9998 33 5 12 Tryd.underlying33 Tryd.underlying5 (fun w => by kernel_rfl) (List.replicate 12 0) (List.replicate 12 0) rfl rfl
        clear hXe HX HY
        refine wp_region_ssaL (by kernel_rfl) [IsV (.pointer (some ⟨g2, 0, none⟩)), IsV (.int .i64 (ua)), IsV (.bool true), IsV (.bool true), IsV (.pointer (some ⟨g2, 1, none⟩)), IsV (.int .i64 (va)), IsV (.bool false), IsV (.bool false), IsV (.pointer (some ⟨g3, 0, none⟩)), IsV (.int .i64 (ub)), IsV (.bool false), IsV (.bool false), IsV (undef), IsV (undef), IsV (undef), IsV (.bool false), IsV (.bool false), IsV (.bool false)] (by kernel_rfl) ?_ ?_ ?_
        · intro φ hφ v w1 w2 h hg
          simp only [List.mem_cons, List.not_mem_nil, or_false] at hφ
          rcases hφ with rfl | rfl | rfl | rfl | rfl | rfl | rfl | rfl | rfl | rfl | rfl | rfl | rfl | rfl | rfl | rfl | rfl | rfl
          all_goals first | exact h | exact RdV.gr h hg
        · refine ⟨?_, ?_, ?_, ?_, ?_, ?_, ?_, ?_, ?_, ?_, ?_, ?_, ?_, ?_, ?_, ?_, ?_, ?_, trivial⟩
          · intro a1 w1 hG hF
            have e2 : a1.eval (.tmp 2) = .pointer (some ⟨g2, 0, none⟩) := hF.ol 2 (by kernel_rfl)
            exact s_is rfl (wants0 rfl) _ rfl (run_idx (i := 0) Tryd.underlying32 (by kernel_rfl) e2 rfl (by omega))
          · intro a1 w1 hG hF
            obtain ⟨_, e27, rfl⟩ := hF.dp 0 27 (by kernel_rfl)
            exact s_is rfl (wants0 rfl) _ rfl (run_load1 Tryd.underlying3 e27 (Gr.cell ((Gr.drew w4).trans hG) c20))
          · intro a1 w1 hG hF
            obtain ⟨_, e28, rfl⟩ := hF.dp 1 28 (by kernel_rfl)
            exact s_call rfl (wants0 rfl) _ rfl _ _ (by simp only [execOp, resolve, invoke, List.map_toArray, List.map_cons, List.map_nil, e28]; go_simp) ((client_yes _ a1h a2 w1).mono fun e w2 ⟨he, hw⟩ => ⟨_, he, rfl, hw ▸ Gr.refl _⟩)
          · intro a1 w1 hG hF
            exact s_same rfl (wants0 rfl) (.tmp 29) (.inr rfl) (hF.dp 2 29 (by kernel_rfl))
          · intro a1 w1 hG hF
            have e2 : a1.eval (.tmp 2) = .pointer (some ⟨g2, 0, none⟩) := hF.ol 2 (by kernel_rfl)
            exact s_is rfl (wantsG hF 3 30 true rfl (by kernel_rfl) rfl) _ rfl (run_idx (i := 1) Tryd.underlying32 (by kernel_rfl) e2 rfl (by omega))
          · intro a1 w1 hG hF
            obtain ⟨_, e31, rfl⟩ := hF.dp 4 31 (by kernel_rfl)
            exact s_is rfl (wantsG hF 3 30 true rfl (by kernel_rfl) rfl) _ rfl (run_load1 Tryd.underlying3 e31 (Gr.cell ((Gr.drew w4).trans hG) c21))
          · intro a1 w1 hG hF
            obtain ⟨_, e32, rfl⟩ := hF.dp 5 32 (by kernel_rfl)
            exact s_call rfl (wantsG hF 3 30 true rfl (by kernel_rfl) rfl) _ rfl _ _ (by simp only [execOp, resolve, invoke, List.map_toArray, List.map_cons, List.map_nil, e32]; go_simp) ((counter_no _ ak w1).mono fun e w2 ⟨he, hw⟩ => ⟨_, he, rfl, hw ▸ Gr.refl _⟩)
          · intro a1 w1 hG hF
            obtain ⟨_, e30, rfl⟩ := hF.dp 3 30 (by kernel_rfl)
            obtain ⟨_, e33, rfl⟩ := hF.dp 6 33 (by kernel_rfl)
            exact s_pick rfl (wants0 rfl) (.tmp 30) (.tmp 33) _ rfl e30 _ e33 rfl
          · intro a1 w1 hG hF
            have e3 : a1.eval (.tmp 3) = .pointer (some ⟨g3, 0, none⟩) := hF.ol 3 (by kernel_rfl)
            exact s_is rfl (wants0 rfl) _ rfl (run_idx (i := 0) Tryd.underlying32 (by kernel_rfl) e3 rfl (by omega))
          · intro a1 w1 hG hF
            obtain ⟨_, e35, rfl⟩ := hF.dp 8 35 (by kernel_rfl)
            exact s_is rfl (wants0 rfl) _ rfl (run_load1 Tryd.underlying3 e35 (Gr.cell ((Gr.drew w4).trans hG) c30))
          · intro a1 w1 hG hF
            obtain ⟨_, e36, rfl⟩ := hF.dp 9 36 (by kernel_rfl)
            exact s_call rfl (wants0 rfl) _ rfl _ _ (by simp only [execOp, resolve, invoke, List.map_toArray, List.map_cons, List.map_nil, e36]; go_simp) ((client_no _ bc w1).mono fun e w2 ⟨he, hw⟩ => ⟨_, he, rfl, hw ▸ Gr.refl _⟩)
          · intro a1 w1 hG hF
            exact s_same rfl (wants0 rfl) (.tmp 37) (.inr rfl) (hF.dp 10 37 (by kernel_rfl))
          · intro a1 w1 hG hF
            exact s_not rfl (notN hF 11 38 true rfl (by kernel_rfl) rfl) rfl
          · intro a1 w1 hG hF
            exact s_not rfl (notN hF 11 38 true rfl (by kernel_rfl) rfl) rfl
          · intro a1 w1 hG hF
            exact s_not rfl (notN hF 11 38 true rfl (by kernel_rfl) rfl) rfl
          · intro a1 w1 hG hF
            obtain ⟨_, e38, rfl⟩ := hF.dp 11 38 (by kernel_rfl)
            exact s_pickF rfl (wants0 rfl) (.tmp 38) _ _ rfl e38 _ rfl rfl
          · intro a1 w1 hG hF
            exact s_same rfl (wants0 rfl) (.tmp 34) (.inl rfl) (hF.dp 7 34 (by kernel_rfl))
          · intro a1 w1 hG hF
            exact s_same rfl (wants0 rfl) (.tmp 42) (.inl rfl) (hF.dp 15 42 (by kernel_rfl))
        · intro vs w1 hG hf
          have z9 : vs 16 = .bool false := hf.2.2.2.2.2.2.2.2.2.2.2.2.2.2.2.2.1
          have z10 : vs 17 = .bool false := hf.2.2.2.2.2.2.2.2.2.2.2.2.2.2.2.2.2.1
          clear hf
          simp only [putAll, Nat.zero_add, Nat.reduceAdd, z9, z10]
          have GW5 := Gr.trans GW4 ((Gr.drew w4).trans hG)
          have h25 := h24.gr ((Gr.drew w4).trans hG)
          have h35 := h34.gr ((Gr.drew w4).trans hG)
          have h55 := h54.gr ((Gr.drew w4).trans hG)
          have h75 := h7.gr ((Gr.drew w4).trans hG)
          generalize w1 = w5 at h25 h35 h55 h75 GW5 ⊢
          clear hG h24 h34 h54 h7 GW4 c20 c21 c30 c31
          go_simp
          go_wp2_with fail
          refine (HH.out w5).mono ?_
          rintro e w6 ⟨rfl, hB6⟩
          have h26 := h25.gr hB6
          have h36 := h35.gr hB6
          have h56 := h55.gr hB6
          have h76 := h75.gr hB6
          have GW6 := Gr.trans GW5 hB6
          clear hB6 h25 h35 h55 h75 GW5
          have heq := HQ.out w6
          go_upto_region 6 with first
            | (refine wpList_loadW rfl 33 (.tmp 5) rfl rfl h56 ⟨_, _, Tryd.underlying33⟩ (info12 X hXl) ?_)
          clear heq
          refine wp_region_ssaL (by kernel_rfl) [IsV (.bool false), IsV (.bool true), IsV (.bool true), IsV (undef), IsV (undef), IsV (.bool true), IsV (.bool true), IsV (undef), IsV (undef), IsV (undef), IsV (undef), IsV (undef), IsV (undef), IsV (undef), IsV (undef), IsV (undef), IsV (undef), IsV (undef), IsV (undef), IsV (undef), IsV (undef), IsV (undef), IsV (undef), IsV (undef), IsV (.bool true), IsV (.bool true)] (by kernel_rfl) ?_ ?_ ?_
          · intro φ hφ v w1 w2 h hg
            simp only [List.mem_cons, List.not_mem_nil, or_false] at hφ
            rcases hφ with rfl | rfl | rfl | rfl | rfl | rfl | rfl | rfl | rfl | rfl | rfl | rfl | rfl | rfl | rfl | rfl | rfl | rfl | rfl | rfl | rfl | rfl | rfl | rfl | rfl | rfl
            all_goals first | exact h | exact RdV.gr h hg
          · refine ⟨?_, ?_, ?_, ?_, ?_, ?_, ?_, ?_, ?_, ?_, ?_, ?_, ?_, ?_, ?_, ?_, ?_, ?_, ?_, ?_, ?_, ?_, ?_, ?_, ?_, ?_, trivial⟩
            · intro a1 w1 hG hF
              exact s_old rfl (wants0 rfl) (.tmp 9) (.inr rfl) (.bool false) (hF.ol 9 (by kernel_rfl)) rfl
            · intro a1 w1 hG hF
              obtain ⟨_, e70, rfl⟩ := hF.dp 0 70 (by kernel_rfl)
              exact s_is rfl (wants0 rfl) _ rfl (by simp only [execOp, e70]; go_simp)
            · intro a1 w1 hG hF
              exact s_same rfl (wants0 rfl) (.tmp 71) (.inr rfl) (hF.dp 1 71 (by kernel_rfl))
            · intro a1 w1 hG hF
              exact s_not rfl (notN hF 2 72 false rfl (by kernel_rfl) rfl) rfl
            · intro a1 w1 hG hF
              exact s_not rfl (notN hF 2 72 false rfl (by kernel_rfl) rfl) rfl
            · intro a1 w1 hG hF
              obtain ⟨_, e72, rfl⟩ := hF.dp 2 72 (by kernel_rfl)
              exact s_pick rfl (wants0 rfl) (.tmp 72) _ _ rfl e72 _ rfl rfl
            · intro a1 w1 hG hF
              exact s_same rfl (wants0 rfl) (.tmp 75) (.inr rfl) (hF.dp 5 75 (by kernel_rfl))
            · intro a1 w1 hG hF
              exact s_not rfl (notN hF 6 76 false rfl (by kernel_rfl) rfl) rfl
            · intro a1 w1 hG hF
              exact s_not rfl (notN hF 6 76 false rfl (by kernel_rfl) rfl) rfl
            · intro a1 w1 hG hF
              exact s_not rfl (notN hF 6 76 false rfl (by kernel_rfl) rfl) rfl
            · intro a1 w1 hG hF
              exact s_not rfl (notN hF 6 76 false rfl (by kernel_rfl) rfl) rfl
            · intro a1 w1 hG hF
              exact s_not rfl (notN hF 6 76 false rfl (by kernel_rfl) rfl) rfl
            · intro a1 w1 hG hF
              exact s_not rfl (notN hF 6 76 false rfl (by kernel_rfl) rfl) rfl
            · intro a1 w1 hG hF
              exact s_not rfl (notN hF 6 76 false rfl (by kernel_rfl) rfl) rfl
            · intro a1 w1 hG hF
              exact s_not rfl (notN hF 6 76 false rfl (by kernel_rfl) rfl) rfl
            · intro a1 w1 hG hF
              exact s_not rfl (notN hF 6 76 false rfl (by kernel_rfl) rfl) rfl
            · intro a1 w1 hG hF
              exact s_not rfl (notU hF 15 85 true rfl (by kernel_rfl) rfl) rfl
            · intro a1 w1 hG hF
              exact s_not rfl (notU hF 15 85 true rfl (by kernel_rfl) rfl) rfl
            · intro a1 w1 hG hF
              exact s_not rfl (notU hF 15 85 true rfl (by kernel_rfl) rfl) rfl
            · intro a1 w1 hG hF
              exact s_not rfl (notU hF 15 85 true rfl (by kernel_rfl) rfl) rfl
            · intro a1 w1 hG hF
              exact s_not rfl (notU hF 15 85 true rfl (by kernel_rfl) rfl) rfl
            · intro a1 w1 hG hF
              exact s_not rfl (notU hF 15 85 true rfl (by kernel_rfl) rfl) rfl
            · intro a1 w1 hG hF
              exact s_not rfl (notU hF 15 85 true rfl (by kernel_rfl) rfl) rfl
            · intro a1 w1 hG hF
              exact s_not rfl (notN hF 6 76 false rfl (by kernel_rfl) rfl) rfl
            · intro a1 w1 hG hF
              obtain ⟨_, e76, rfl⟩ := hF.dp 6 76 (by kernel_rfl)
              exact s_pick rfl (wants0 rfl) (.tmp 76) _ _ rfl e76 _ rfl rfl
            · intro a1 w1 hG hF
              exact s_same rfl (wants0 rfl) (.tmp 94) (.inl rfl) (hF.dp 24 94 (by kernel_rfl))
          · intro vs w1 hG hf
            have z4 : vs 25 = .bool true := hf.2.2.2.2.2.2.2.2.2.2.2.2.2.2.2.2.2.2.2.2.2.2.2.2.2.1
            clear hf
            simp only [putAll, Nat.zero_add, Nat.reduceAdd, z4]
            go_simp
            go_wp2_with fail
            go_ret
            exact ⟨rfl, Gr.trans GW6 ((Gr.drew w6).trans hG)⟩
  · have ac : ua < 1 ∨ 16 < ua := by omega
    by_cases bg : 1 ≤ ub ∧ ub ≤ 16
    · obtain ⟨b1h, b2⟩ := bg
      by_cases bf : 1 ≤ vb ∧ vb ≤ 4611686018427387904
      · obtain ⟨b3, b4⟩ := bf
        have hEX : E = 1 := by rcases HX.out with h | h <;> omega
        have hFY : F = 0 := by rcases HY.out with h | h <;> omega
        have hXe : X = List.replicate 12 0 := by rcases HX.out with h | h; exact absurd h.2.2.2.2.1 (by omega); exact h.2.2
        have hYe : Y = nonceL ub.toNat vb.toNat := by rcases HY.out with h | h; exact h.2.2.2.2.2; exact absurd h.2.1 (by omega)
        subst hEX hFY
        have HQ : Hid (∀ w, (Op.equalIn 10000 33 (.agg (u8s X).toArray) (.agg #[.int .u8 0, .int .u8 0, .int .u8 0, .int .u8 0, .int .u8 0, .int .u8 0, .int .u8 0, .int .u8 0, .int .u8 0, .int .u8 0, .int .u8 0, .int .u8 0])).run Tryd.prog w = .ok true w) := by
          intro w
          rw [hXe]
          exact run_equalIn_bytes (P := Tryd.prog) w 9998 33 5 12 Tryd.underlying33 Tryd.underlying5 (fun w => by kernel_rfl) (List.replicate 12 0) (List.replicate 12 0) rfl rfl
        clear hXe HX HY hYe
        refine wp_region_ssaL (by kernel_rfl) [IsV (.pointer (some ⟨g2, 0, none⟩)), IsV (.int .i64 (ua)), IsV (.bool false), IsV (.bool false), IsV (undef), IsV (undef), IsV (undef), IsV (.bool false), IsV (.pointer (some ⟨g3, 0, none⟩)), IsV (.int .i64 (ub)), IsV (.bool true), IsV (.bool true), IsV (.pointer (some ⟨g3, 1, none⟩)), IsV (.int .i64 (vb)), IsV (.bool true), IsV (.bool true), IsV (.bool false), IsV (.bool true)] (by kernel_rfl) ?_ ?_ ?_
        · intro φ hφ v w1 w2 h hg
          simp only [List.mem_cons, List.not_mem_nil, or_false] at hφ
          rcases hφ with rfl | rfl | rfl | rfl | rfl | rfl | rfl | rfl | rfl | rfl | rfl | rfl | rfl | rfl | rfl | rfl | rfl | rfl
          all_goals first | exact h | exact RdV.gr h hg
        · refine ⟨?_, ?_, ?_, ?_, ?_, ?_, ?_, ?_, ?_, ?_, ?_, ?_, ?_, ?_, ?_, ?_, ?_, ?_, trivial⟩
          · intro a1 w1 hG hF
            have e2 : a1.eval (.tmp 2) = .pointer (some ⟨g2, 0, none⟩) := hF.ol 2 (by kernel_rfl)
            exact s_is rfl (wants0 rfl) _ rfl (run_idx (i := 0) Tryd.underlying32 (by kernel_rfl) e2 rfl (by omega))
          · intro a1 w1 hG hF
            obtain ⟨_, e27, rfl⟩ := hF.dp 0 27 (by kernel_rfl)
            exact s_is rfl (wants0 rfl) _ rfl (run_load1 Tryd.underlying3 e27 (Gr.cell ((Gr.drew w4).trans hG) c20))
          · intro a1 w1 hG hF
            obtain ⟨_, e28, rfl⟩ := hF.dp 1 28 (by kernel_rfl)
            exact s_call rfl (wants0 rfl) _ rfl _ _ (by simp only [execOp, resolve, invoke, List.map_toArray, List.map_cons, List.map_nil, e28]; go_simp) ((client_no _ ac w1).mono fun e w2 ⟨he, hw⟩ => ⟨_, he, rfl, hw ▸ Gr.refl _⟩)
          · intro a1 w1 hG hF
            exact s_same rfl (wants0 rfl) (.tmp 29) (.inr rfl) (hF.dp 2 29 (by kernel_rfl))
          · intro a1 w1 hG hF
            exact s_not rfl (notN hF 3 30 true rfl (by kernel_rfl) rfl) rfl
          · intro a1 w1 hG hF
            exact s_not rfl (notN hF 3 30 true rfl (by kernel_rfl) rfl) rfl
          · intro a1 w1 hG hF
            exact s_not rfl (notN hF 3 30 true rfl (by kernel_rfl) rfl) rfl
          · intro a1 w1 hG hF
            obtain ⟨_, e30, rfl⟩ := hF.dp 3 30 (by kernel_rfl)
            exact s_pickF rfl (wants0 rfl) (.tmp 30) _ _ rfl e30 _ rfl rfl
          · intro a1 w1 hG hF
            have e3 : a1.eval (.tmp 3) = .pointer (some ⟨g3, 0, none⟩) := hF.ol 3 (by kernel_rfl)
            exact s_is rfl (wants0 rfl) _ rfl (run_idx (i := 0) Tryd.underlying32 (by kernel_rfl) e3 rfl (by omega))
          · intro a1 w1 hG hF
            obtain ⟨_, e35, rfl⟩ := hF.dp 8 35 (by kernel_rfl)
            exact s_is rfl (wants0 rfl) _ rfl (run_load1 Tryd.underlying3 e35 (Gr.cell ((Gr.drew w4).trans hG) c30))
          · intro a1 w1 hG hF
            obtain ⟨_, e36, rfl⟩ := hF.dp 9 36 (by kernel_rfl)
            exact s_call rfl (wants0 rfl) _ rfl _ _ (by simp only [execOp, resolve, invoke, List.map_toArray, List.map_cons, List.map_nil, e36]; go_simp) ((client_yes _ b1h b2 w1).mono fun e w2 ⟨he, hw⟩ => ⟨_, he, rfl, hw ▸ Gr.refl _⟩)
          · intro a1 w1 hG hF
            exact s_same rfl (wants0 rfl) (.tmp 37) (.inr rfl) (hF.dp 10 37 (by kernel_rfl))
          · intro a1 w1 hG hF
            have e3 : a1.eval (.tmp 3) = .pointer (some ⟨g3, 0, none⟩) := hF.ol 3 (by kernel_rfl)
            exact s_is rfl (wantsG hF 11 38 true rfl (by kernel_rfl) rfl) _ rfl (run_idx (i := 1) Tryd.underlying32 (by kernel_rfl) e3 rfl (by omega))
          · intro a1 w1 hG hF
            obtain ⟨_, e39, rfl⟩ := hF.dp 12 39 (by kernel_rfl)
            exact s_is rfl (wantsG hF 11 38 true rfl (by kernel_rfl) rfl) _ rfl (run_load1 Tryd.underlying3 e39 (Gr.cell ((Gr.drew w4).trans hG) c31))
          · intro a1 w1 hG hF
            obtain ⟨_, e40, rfl⟩ := hF.dp 13 40 (by kernel_rfl)
            exact s_call rfl (wantsG hF 11 38 true rfl (by kernel_rfl) rfl) _ rfl _ _ (by simp only [execOp, resolve, invoke, List.map_toArray, List.map_cons, List.map_nil, e40]; go_simp) ((counter_yes _ b3 b4 w1).mono fun e w2 ⟨he, hw⟩ => ⟨_, he, rfl, hw ▸ Gr.refl _⟩)
          · intro a1 w1 hG hF
            obtain ⟨_, e38, rfl⟩ := hF.dp 11 38 (by kernel_rfl)
            obtain ⟨_, e41, rfl⟩ := hF.dp 14 41 (by kernel_rfl)
            exact s_pick rfl (wants0 rfl) (.tmp 38) (.tmp 41) _ rfl e38 _ e41 rfl
          · intro a1 w1 hG hF
            exact s_same rfl (wants0 rfl) (.tmp 34) (.inl rfl) (hF.dp 7 34 (by kernel_rfl))
          · intro a1 w1 hG hF
            exact s_same rfl (wants0 rfl) (.tmp 42) (.inl rfl) (hF.dp 15 42 (by kernel_rfl))
        · intro vs w1 hG hf
          have z9 : vs 16 = .bool false := hf.2.2.2.2.2.2.2.2.2.2.2.2.2.2.2.2.1
          have z10 : vs 17 = .bool true := hf.2.2.2.2.2.2.2.2.2.2.2.2.2.2.2.2.2.1
          clear hf
          simp only [putAll, Nat.zero_add, Nat.reduceAdd, z9, z10]
          have GW5 := Gr.trans GW4 ((Gr.drew w4).trans hG)
          have h25 := h24.gr ((Gr.drew w4).trans hG)
          have h35 := h34.gr ((Gr.drew w4).trans hG)
          have h55 := h54.gr ((Gr.drew w4).trans hG)
          have h75 := h7.gr ((Gr.drew w4).trans hG)
          generalize w1 = w5 at h25 h35 h55 h75 GW5 ⊢
          clear hG h24 h34 h54 h7 GW4 c20 c21 c30 c31
          go_simp
          go_wp2_with fail
          refine (HH.out w5).mono ?_
          rintro e w6 ⟨rfl, hB6⟩
          have h26 := h25.gr hB6
          have h36 := h35.gr hB6
          have h56 := h55.gr hB6
          have h76 := h75.gr hB6
          have GW6 := Gr.trans GW5 hB6
          clear hB6 h25 h35 h55 h75 GW5
          have heq := HQ.out w6
          go_upto_region 6 with first
            | (refine wpList_loadW rfl 33 (.tmp 5) rfl rfl h56 ⟨_, _, Tryd.underlying33⟩ (info12 X hXl) ?_)
          clear heq
          refine wp_region_ssaL (by kernel_rfl) [IsV (.bool false), IsV (.bool true), IsV (.bool true), IsV (undef), IsV (undef), IsV (.bool true), IsV (.bool true), IsV (undef), IsV (undef), IsV (undef), IsV (undef), IsV (undef), IsV (undef), IsV (undef), IsV (undef), IsV (undef), IsV (undef), IsV (undef), IsV (undef), IsV (undef), IsV (undef), IsV (undef), IsV (undef), IsV (undef), IsV (.bool true), IsV (.bool true)] (by kernel_rfl) ?_ ?_ ?_
          · intro φ hφ v w1 w2 h hg
            simp only [List.mem_cons, List.not_mem_nil, or_false] at hφ
            rcases hφ with rfl | rfl | rfl | rfl | rfl | rfl | rfl | rfl | rfl | rfl | rfl | rfl | rfl | rfl | rfl | rfl | rfl | rfl | rfl | rfl | rfl | rfl | rfl | rfl | rfl | rfl
            all_goals first | exact h | exact RdV.gr h hg
          · refine ⟨?_, ?_, ?_, ?_, ?_, ?_, ?_, ?_, ?_, ?_, ?_, ?_, ?_, ?_, ?_, ?_, ?_, ?_, ?_, ?_, ?_, ?_, ?_, ?_, ?_, ?_, trivial⟩
            · intro a1 w1 hG hF
              exact s_old rfl (wants0 rfl) (.tmp 9) (.inr rfl) (.bool false) (hF.ol 9 (by kernel_rfl)) rfl
            · intro a1 w1 hG hF
              obtain ⟨_, e70, rfl⟩ := hF.dp 0 70 (by kernel_rfl)
              exact s_is rfl (wants0 rfl) _ rfl (by simp only [execOp, e70]; go_simp)
            · intro a1 w1 hG hF
              exact s_same rfl (wants0 rfl) (.tmp 71) (.inr rfl) (hF.dp 1 71 (by kernel_rfl))
            · intro a1 w1 hG hF
              exact s_not rfl (notN hF 2 72 false rfl (by kernel_rfl) rfl) rfl
            · intro a1 w1 hG hF
              exact s_not rfl (notN hF 2 72 false rfl (by kernel_rfl) rfl) rfl
            · intro a1 w1 hG hF
              obtain ⟨_, e72, rfl⟩ := hF.dp 2 72 (by kernel_rfl)
              exact s_pick rfl (wants0 rfl) (.tmp 72) _ _ rfl e72 _ rfl rfl
            · intro a1 w1 hG hF
              exact s_same rfl (wants0 rfl) (.tmp 75) (.inr rfl) (hF.dp 5 75 (by kernel_rfl))
            · intro a1 w1 hG hF
              exact s_not rfl (notN hF 6 76 false rfl (by kernel_rfl) rfl) rfl
            · intro a1 w1 hG hF
              exact s_not rfl (notN hF 6 76 false rfl (by kernel_rfl) rfl) rfl
            · intro a1 w1 hG hF
              exact s_not rfl (notN hF 6 76 false rfl (by kernel_rfl) rfl) rfl
            · intro a1 w1 hG hF
              exact s_not rfl (notN hF 6 76 false rfl (by kernel_rfl) rfl) rfl
            · intro a1 w1 hG hF
              exact s_not rfl (notN hF 6 76 false rfl (by kernel_rfl) rfl) rfl
            · intro a1 w1 hG hF
              exact s_not rfl (notN hF 6 76 false rfl (by kernel_rfl) rfl) rfl
            · intro a1 w1 hG hF
              exact s_not rfl (notN hF 6 76 false rfl (by kernel_rfl) rfl) rfl
            · intro a1 w1 hG hF
              exact s_not rfl (notN hF 6 76 false rfl (by kernel_rfl) rfl) rfl
            · intro a1 w1 hG hF
              exact s_not rfl (notN hF 6 76 false rfl (by kernel_rfl) rfl) rfl
            · intro a1 w1 hG hF
              exact s_not rfl (notU hF 15 85 true rfl (by kernel_rfl) rfl) rfl
            · intro a1 w1 hG hF
              exact s_not rfl (notU hF 15 85 true rfl (by kernel_rfl) rfl) rfl
            · intro a1 w1 hG hF
              exact s_not rfl (notU hF 15 85 true rfl (by kernel_rfl) rfl) rfl
            · intro a1 w1 hG hF
              exact s_not rfl (notU hF 15 85 true rfl (by kernel_rfl) rfl) rfl
            · intro a1 w1 hG hF
              exact s_not rfl (notU hF 15 85 true rfl (by kernel_rfl) rfl) rfl
            · intro a1 w1 hG hF
              exact s_not rfl (notU hF 15 85 true rfl (by kernel_rfl) rfl) rfl
            · intro a1 w1 hG hF
              exact s_not rfl (notU hF 15 85 true rfl (by kernel_rfl) rfl) rfl
            · intro a1 w1 hG hF
              exact s_not rfl (notN hF 6 76 false rfl (by kernel_rfl) rfl) rfl
            · intro a1 w1 hG hF
              obtain ⟨_, e76, rfl⟩ := hF.dp 6 76 (by kernel_rfl)
              exact s_pick rfl (wants0 rfl) (.tmp 76) _ _ rfl e76 _ rfl rfl
            · intro a1 w1 hG hF
              exact s_same rfl (wants0 rfl) (.tmp 94) (.inl rfl) (hF.dp 24 94 (by kernel_rfl))
          · intro vs w1 hG hf
            have z4 : vs 25 = .bool true := hf.2.2.2.2.2.2.2.2.2.2.2.2.2.2.2.2.2.2.2.2.2.2.2.2.2.1
            clear hf
            simp only [putAll, Nat.zero_add, Nat.reduceAdd, z4]
            go_simp
            go_wp2_with fail
            go_ret
            exact ⟨rfl, Gr.trans GW6 ((Gr.drew w6).trans hG)⟩
      · have bk : vb < 1 ∨ 4611686018427387904 < vb := by omega
        have hEX : E = 1 := by rcases HX.out with h | h <;> omega
        have hFY : F = 1 := by rcases HY.out with h | h <;> omega
        have hXe : X = List.replicate 12 0 := by rcases HX.out with h | h; exact absurd h.2.2.2.2.1 (by omega); exact h.2.2
        subst hEX hFY
        have HQ : Hid (∀ w, (Op.equalIn 10000 33 (.agg (u8s X).toArray) (.agg #[.int .u8 0, .int .u8 0, .int .u8 0, .int .u8 0, .int .u8 0, .int .u8 0, .int .u8 0, .int .u8 0, .int .u8 0, .int .u8 0, .int .u8 0, .int .u8 0])).run Tryd.prog w = .ok true w) := by
          intro w
          rw [hXe]
          exact run_equalIn_bytes (P := Tryd.prog) w 9998 33 5 12 Tryd.underlying33 Tryd.underlying5 (fun w => by kernel_rfl) (List.replicate 12 0) (List.replicate 12 0) rfl rfl
        clear hXe HX HY
        refine wp_region_ssaL (by kernel_rfl) [IsV (.pointer (some ⟨g2, 0, none⟩)), IsV (.int .i64 (ua)), IsV (.bool false), IsV (.bool false), IsV (undef), IsV (undef), IsV (undef), IsV (.bool false), IsV (.pointer (some ⟨g3, 0, none⟩)), IsV (.int .i64 (ub)), IsV (.bool true), IsV (.bool true), IsV (.pointer (some ⟨g3, 1, none⟩)), IsV (.int .i64 (vb)), IsV (.bool false), IsV (.bool false), IsV (.bool false), IsV (.bool false)] (by kernel_rfl) ?_ ?_ ?_
        · intro φ hφ v w1 w2 h hg
          simp only [List.mem_cons, List.not_mem_nil, or_false] at hφ
          rcases hφ with rfl | rfl | rfl | rfl | rfl | rfl | rfl | rfl | rfl | rfl | rfl | rfl | rfl | rfl | rfl | rfl | rfl | rfl
          all_goals first | exact h | exact RdV.gr h hg
        · refine ⟨?_, ?_, ?_, ?_, ?_, ?_, ?_, ?_, ?_, ?_, ?_, ?_, ?_, ?_, ?_, ?_, ?_, ?_, trivial⟩
          · intro a1 w1 hG hF
            have e2 : a1.eval (.tmp 2) = .pointer (some ⟨g2, 0, none⟩) := hF.ol 2 (by kernel_rfl)
            exact s_is rfl (wants0 rfl) _ rfl (run_idx (i := 0) Tryd.underlying32 (by kernel_rfl) e2 rfl (by omega))
          · intro a1 w1 hG hF
            obtain ⟨_, e27, rfl⟩ := hF.dp 0 27 (by kernel_rfl)
            exact s_is rfl (wants0 rfl) _ rfl (run_load1 Tryd.underlying3 e27 (Gr.cell ((Gr.drew w4).trans hG) c20))
          · intro a1 w1 hG hF
            obtain ⟨_, e28, rfl⟩ := hF.dp 1 28 (by kernel_rfl)
            exact s_call rfl (wants0 rfl) _ rfl _ _ (by simp only [execOp, resolve, invoke, List.map_toArray, List.map_cons, List.map_nil, e28]; go_simp) ((client_no _ ac w1).mono fun e w2 ⟨he, hw⟩ => ⟨_, he, rfl, hw ▸ Gr.refl _⟩)
          · intro a1 w1 hG hF
            exact s_same rfl (wants0 rfl) (.tmp 29) (.inr rfl) (hF.dp 2 29 (by kernel_rfl))
          · intro a1 w1 hG hF
            exact s_not rfl (notN hF 3 30 true rfl (by kernel_rfl) rfl) rfl
          · intro a1 w1 hG hF
            exact s_not rfl (notN hF 3 30 true rfl (by kernel_rfl) rfl) rfl
          · intro a1 w1 hG hF
            exact s_not rfl (notN hF 3 30 true rfl (by kernel_rfl) rfl) rfl
          · intro a1 w1 hG hF
            obtain ⟨_, e30, rfl⟩ := hF.dp 3 30 (by kernel_rfl)
            exact s_pickF rfl (wants0 rfl) (.tmp 30) _ _ rfl e30 _ rfl rfl
          · intro a1 w1 hG hF
            have e3 : a1.eval (.tmp 3) = .pointer (some ⟨g3, 0, none⟩) := hF.ol 3 (by kernel_rfl)
            exact s_is rfl (wants0 rfl) _ rfl (run_idx (i := 0) Tryd.underlying32 (by kernel_rfl) e3 rfl (by omega))
          · intro a1 w1 hG hF
            obtain ⟨_, e35, rfl⟩ := hF.dp 8 35 (by kernel_rfl)
            exact s_is rfl (wants0 rfl) _ rfl (run_load1 Tryd.underlying3 e35 (Gr.cell ((Gr.drew w4).trans hG) c30))
          · intro a1 w1 hG hF
            obtain ⟨_, e36, rfl⟩ := hF.dp 9 36 (by kernel_rfl)
            exact s_call rfl (wants0 rfl) _ rfl _ _ (by simp only [execOp, resolve, invoke, List.map_toArray, List.map_cons, List.map_nil, e36]; go_simp) ((client_yes _ b1h b2 w1).mono fun e w2 ⟨he, hw⟩ => ⟨_, he, rfl, hw ▸ Gr.refl _⟩)
          · intro a1 w1 hG hF
            exact s_same rfl (wants0 rfl) (.tmp 37) (.inr rfl) (hF.dp 10 37 (by kernel_rfl))
          · intro a1 w1 hG hF
            have e3 : a1.eval (.tmp 3) = .pointer (some ⟨g3, 0, none⟩) := hF.ol 3 (by kernel_rfl)
            exact s_is rfl (wantsG hF 11 38 true rfl (by kernel_rfl) rfl) _ rfl (run_idx (i := 1) Tryd.underlying32 (by kernel_rfl) e3 rfl (by omega))
          · intro a1 w1 hG hF
            obtain ⟨_, e39, rfl⟩ := hF.dp 12 39 (by kernel_rfl)
            exact s_is rfl (wantsG hF 11 38 true rfl (by kernel_rfl) rfl) _ rfl (run_load1 Tryd.underlying3 e39 (Gr.cell ((Gr.drew w4).trans hG) c31))
          · intro a1 w1 hG hF
            obtain ⟨_, e40, rfl⟩ := hF.dp 13 40 (by kernel_rfl)
            exact s_call rfl (wantsG hF 11 38 true rfl (by kernel_rfl) rfl) _ rfl _ _ (by simp only [execOp, resolve, invoke, List.map_toArray, List.map_cons, List.map_nil, e40]; go_simp) ((counter_no _ bk w1).mono fun e w2 ⟨he, hw⟩ => ⟨_, he, rfl, hw ▸ Gr.refl _⟩)
          · intro a1 w1 hG hF
            obtain ⟨_, e38, rfl⟩ := hF.dp 11 38 (by kernel_rfl)
            obtain ⟨_, e41, rfl⟩ := hF.dp 14 41 (by kernel_rfl)
            exact s_pick rfl (wants0 rfl) (.tmp 38) (.tmp 41) _ rfl e38 _ e41 rfl
          · intro a1 w1 hG hF
            exact s_same rfl (wants0 rfl) (.tmp 34) (.inl rfl) (hF.dp 7 34 (by kernel_rfl))
          · intro a1 w1 hG hF
            exact s_same rfl (wants0 rfl) (.tmp 42) (.inl rfl) (hF.dp 15 42 (by kernel_rfl))
        · intro vs w1 hG hf
          have z9 : vs 16 = .bool false := hf.2.2.2.2.2.2.2.2.2.2.2.2.2.2.2.2.1
          have z10 : vs 17 = .bool false := hf.2.2.2.2.2.2.2.2.2.2.2.2.2.2.2.2.2.1
          clear hf
          simp only [putAll, Nat.zero_add, Nat.reduceAdd, z9, z10]
          have GW5 := Gr.trans GW4 ((Gr.drew w4).trans hG)
          have h25 := h24.gr ((Gr.drew w4).trans hG)
          have h35 := h34.gr ((Gr.drew w4).trans hG)
          have h55 := h54.gr ((Gr.drew w4).trans hG)
          have h75 := h7.gr ((Gr.drew w4).trans hG)
          generalize w1 = w5 at h25 h35 h55 h75 GW5 ⊢
          clear hG h24 h34 h54 h7 GW4 c20 c21 c30 c31
          go_simp
          go_wp2_with fail
          refine (HH.out w5).mono ?_
          rintro e w6 ⟨rfl, hB6⟩
          have h26 := h25.gr hB6
          have h36 := h35.gr hB6
          have h56 := h55.gr hB6
          have h76 := h75.gr hB6
          have GW6 := Gr.trans GW5 hB6
          clear hB6 h25 h35 h55 h75 GW5
          have heq := HQ.out w6
          go_upto_region 6 with first
            | (refine wpList_loadW rfl 33 (.tmp 5) rfl rfl h56 ⟨_, _, Tryd.underlying33⟩ (info12 X hXl) ?_)
          clear heq
          refine wp_region_ssaL (by kernel_rfl) [IsV (.bool false), IsV (.bool true), IsV (.bool true), IsV (undef), IsV (undef), IsV (.bool true), IsV (.bool true), IsV (undef), IsV (undef), IsV (undef), IsV (undef), IsV (undef), IsV (undef), IsV (undef), IsV (undef), IsV (undef), IsV (undef), IsV (undef), IsV (undef), IsV (undef), IsV (undef), IsV (undef), IsV (undef), IsV (undef), IsV (.bool true), IsV (.bool true)] (by kernel_rfl) ?_ ?_ ?_
          · intro φ hφ v w1 w2 h hg
            simp only [List.mem_cons, List.not_mem_nil, or_false] at hφ
            rcases hφ with rfl | rfl | rfl | rfl | rfl | rfl | rfl | rfl | rfl | rfl | rfl | rfl | rfl | rfl | rfl | rfl | rfl | rfl | rfl | rfl | rfl | rfl | rfl | rfl | rfl | rfl
            all_goals first | exact h | exact RdV.gr h hg
          · refine ⟨?_, ?_, ?_, ?_, ?_, ?_, ?_, ?_, ?_, ?_, ?_, ?_, ?_, ?_, ?_, ?_, ?_, ?_, ?_, ?_, ?_, ?_, ?_, ?_, ?_, ?_, trivial⟩
            · intro a1 w1 hG hF
              exact s_old rfl (wants0 rfl) (.tmp 9) (.inr rfl) (.bool false) (hF.ol 9 (by kernel_rfl)) rfl
            · intro a1 w1 hG hF
              obtain ⟨_, e70, rfl⟩ := hF.dp 0 70 (by kernel_rfl)
              exact s_is rfl (wants0 rfl) _ rfl (by simp only [execOp, e70]; go_simp)
            · intro a1 w1 hG hF
              exact s_same rfl (wants0 rfl) (.tmp 71) (.inr rfl) (hF.dp 1 71 (by kernel_rfl))
            · intro a1 w1 hG hF
              exact s_not rfl (notN hF 2 72 false rfl (by kernel_rfl) rfl) rfl
            · intro a1 w1 hG hF
              exact s_not rfl (notN hF 2 72 false rfl (by kernel_rfl) rfl) rfl
            · intro a1 w1 hG hF
              obtain ⟨_, e72, rfl⟩ := hF.dp 2 72 (by kernel_rfl)
              exact s_pick rfl (wants0 rfl) (.tmp 72) _ _ rfl e72 _ rfl rfl
            · intro a1 w1 hG hF
              exact s_same rfl (wants0 rfl) (.tmp 75) (.inr rfl) (hF.dp 5 75 (by kernel_rfl))
            · intro a1 w1 hG hF
              exact s_not rfl (notN hF 6 76 false rfl (by kernel_rfl) rfl) rfl
            · intro a1 w1 hG hF
              exact s_not rfl (notN hF 6 76 false rfl (by kernel_rfl) rfl) rfl
            · intro a1 w1 hG hF
              exact s_not rfl (notN hF 6 76 false rfl (by kernel_rfl) rfl) rfl
            · intro a1 w1 hG hF
              exact s_not rfl (notN hF 6 76 false rfl (by kernel_rfl) rfl) rfl
            · intro a1 w1 hG hF
              exact s_not rfl (notN hF 6 76 false rfl (by kernel_rfl) rfl) rfl
            · intro a1 w1 hG hF
              exact s_not rfl (notN hF 6 76 false rfl (by kernel_rfl) rfl) rfl
            · intro a1 w1 hG hF
              exact s_not rfl (notN hF 6 76 false rfl (by kernel_rfl) rfl) rfl
            · intro a1 w1 hG hF
              exact s_not rfl (notN hF 6 76 false rfl (by kernel_rfl) rfl) rfl
            · intro a1 w1 hG hF
              exact s_not rfl (notN hF 6 76 false rfl (by kernel_rfl) rfl) rfl
            · intro a1 w1 hG hF
              exact s_not rfl (notU hF 15 85 true rfl (by kernel_rfl) rfl) rfl
            · intro a1 w1 hG hF
              exact s_not rfl (notU hF 15 85 true rfl (by kernel_rfl) rfl) rfl
            · intro a1 w1 hG hF
              exact s_not rfl (notU hF 15 85 true rfl (by kernel_rfl) rfl) rfl
            · intro a1 w1 hG hF
              exact s_not rfl (notU hF 15 85 true rfl (by kernel_rfl) rfl) rfl
            · intro a1 w1 hG hF
              exact s_not rfl (notU hF 15 85 true rfl (by kernel_rfl) rfl) rfl
            · intro a1 w1 hG hF
              exact s_not rfl (notU hF 15 85 true rfl (by kernel_rfl) rfl) rfl
            · intro a1 w1 hG hF
              exact s_not rfl (notU hF 15 85 true rfl (by kernel_rfl) rfl) rfl
            · intro a1 w1 hG hF
              exact s_not rfl (notN hF 6 76 false rfl (by kernel_rfl) rfl) rfl
            · intro a1 w1 hG hF
              obtain ⟨_, e76, rfl⟩ := hF.dp 6 76 (by kernel_rfl)
              exact s_pick rfl (wants0 rfl) (.tmp 76) _ _ rfl e76 _ rfl rfl
            · intro a1 w1 hG hF
              exact s_same rfl (wants0 rfl) (.tmp 94) (.inl rfl) (hF.dp 24 94 (by kernel_rfl))
          · intro vs w1 hG hf
            have z4 : vs 25 = .bool true := hf.2.2.2.2.2.2.2.2.2.2.2.2.2.2.2.2.2.2.2.2.2.2.2.2.2.1
            clear hf
            simp only [putAll, Nat.zero_add, Nat.reduceAdd, z4]
            go_simp
            go_wp2_with fail
            go_ret
            exact ⟨rfl, Gr.trans GW6 ((Gr.drew w6).trans hG)⟩
    · have bc : ub < 1 ∨ 16 < ub := by omega
      have hEX : E = 1 := by rcases HX.out with h | h <;> omega
      have hFY : F = 1 := by rcases HY.out with h | h <;> omega
      have hXe : X = List.replicate 12 0 := by rcases HX.out with h | h; exact absurd h.2.2.2.2.1 (by omega); exact h.2.2
      subst hEX hFY
      have HQ : Hid (∀ w, (Op.equalIn 10000 33 (.agg (u8s X).toArray) (.agg #[.int .u8 0, .int .u8 0, .int .u8 0, .int .u8 0, .int .u8 0, .int .u8 0, .int .u8 0, .int .u8 0, .int .u8 0, .int .u8 0, .int .u8 0, .int .u8 0])).run Tryd.prog w = .ok true w) := by
        intro w
        rw [hXe]
        exact run_equalIn_bytes (P := Tryd.prog) w 9998 33 5 12 Tryd.underlying33 Tryd.underlying5 (fun w => by kernel_rfl) (List.replicate 12 0) (List.replicate 12 0) rfl rfl
      clear hXe HX HY
      refine wp_region_ssaL (by kernel_rfl) [IsV (.pointer (some ⟨g2, 0, none⟩)), IsV (.int .i64 (ua)), IsV (.bool false), IsV (.bool false), IsV (undef), IsV (undef), IsV (undef), IsV (.bool false), IsV (.pointer (some ⟨g3, 0, none⟩)), IsV (.int .i64 (ub)), IsV (.bool false), IsV (.bool false), IsV (undef), IsV (undef), IsV (undef), IsV (.bool false), IsV (.bool false), IsV (.bool false)] (by kernel_rfl) ?_ ?_ ?_
      · intro φ hφ v w1 w2 h hg
        simp only [List.mem_cons, List.not_mem_nil, or_false] at hφ
        rcases hφ with rfl | rfl | rfl | rfl | rfl | rfl | rfl | rfl | rfl | rfl | rfl | rfl | rfl | rfl | rfl | rfl | rfl | rfl
        all_goals first | exact h | exact RdV.gr h hg
      · refine ⟨?_, ?_, ?_, ?_, ?_, ?_, ?_, ?_, ?_, ?_, ?_, ?_, ?_, ?_, ?_, ?_, ?_, ?_, trivial⟩
        · intro a1 w1 hG hF
          have e2 : a1.eval (.tmp 2) = .pointer (some ⟨g2, 0, none⟩) := hF.ol 2 (by kernel_rfl)
          exact s_is rfl (wants0 rfl) _ rfl (run_idx (i := 0) Tryd.underlying32 (by kernel_rfl) e2 rfl (by omega))
        · intro a1 w1 hG hF
          obtain ⟨_, e27, rfl⟩ := hF.dp 0 27 (by kernel_rfl)
          exact s_is rfl (wants0 rfl) _ rfl (run_load1 Tryd.underlying3 e27 (Gr.cell ((Gr.drew w4).trans hG) c20))
        · intro a1 w1 hG hF
          obtain ⟨_, e28, rfl⟩ := hF.dp 1 28 (by kernel_rfl)
          exact s_call rfl (wants0 rfl) _ rfl _ _ (by simp only [execOp, resolve, invoke, List.map_toArray, List.map_cons, List.map_nil, e28]; go_simp) ((client_no _ ac w1).mono fun e w2 ⟨he, hw⟩ => ⟨_, he, rfl, hw ▸ Gr.refl _⟩)
        · intro a1 w1 hG hF
          exact s_same rfl (wants0 rfl) (.tmp 29) (.inr rfl) (hF.dp 2 29 (by kernel_rfl))
        · intro a1 w1 hG hF
          exact s_not rfl (notN hF 3 30 true rfl (by kernel_rfl) rfl) rfl
        · intro a1 w1 hG hF
          exact s_not rfl (notN hF 3 30 true rfl (by kernel_rfl) rfl) rfl
        · intro a1 w1 hG hF
          exact s_not rfl (notN hF 3 30 true rfl (by kernel_rfl) rfl) rfl
        · intro a1 w1 hG hF
          obtain ⟨_, e30, rfl⟩ := hF.dp 3 30 (by kernel_rfl)
          exact s_pickF rfl (wants0 rfl) (.tmp 30) _ _ rfl e30 _ rfl rfl
        · intro a1 w1 hG hF
          have e3 : a1.eval (.tmp 3) = .pointer (some ⟨g3, 0, none⟩) := hF.ol 3 (by kernel_rfl)
          exact s_is rfl (wants0 rfl) _ rfl (run_idx (i := 0) Tryd.underlying32 (by kernel_rfl) e3 rfl (by omega))
        · intro a1 w1 hG hF
          obtain ⟨_, e35, rfl⟩ := hF.dp 8 35 (by kernel_rfl)
          exact s_is rfl (wants0 rfl) _ rfl (run_load1 Tryd.underlying3 e35 (Gr.cell ((Gr.drew w4).trans hG) c30))
        · intro a1 w1 hG hF
          obtain ⟨_, e36, rfl⟩ := hF.dp 9 36 (by kernel_rfl)
          exact s_call rfl (wants0 rfl) _ rfl _ _ (by simp only [execOp, resolve, invoke, List.map_toArray, List.map_cons, List.map_nil, e36]; go_simp) ((client_no _ bc w1).mono fun e w2 ⟨he, hw⟩ => ⟨_, he, rfl, hw ▸ Gr.refl _⟩)
        · intro a1 w1 hG hF
          exact s_same rfl (wants0 rfl) (.tmp 37) (.inr rfl) (hF.dp 10 37 (by kernel_rfl))
        · intro a1 w1 hG hF
          exact s_not rfl (notN hF 11 38 true rfl (by kernel_rfl) rfl) rfl
        · intro a1 w1 hG hF
          exact s_not rfl (notN hF 11 38 true rfl (by kernel_rfl) rfl) rfl
        · intro a1 w1 hG hF
          exact s_not rfl (notN hF 11 38 true rfl (by kernel_rfl) rfl) rfl
        · intro a1 w1 hG hF
          obtain ⟨_, e38, rfl⟩ := hF.dp 11 38 (by kernel_rfl)
          exact s_pickF rfl (wants0 rfl) (.tmp 38) _ _ rfl e38 _ rfl rfl
        · intro a1 w1 hG hF
          exact s_same rfl (wants0 rfl) (.tmp 34) (.inl rfl) (hF.dp 7 34 (by kernel_rfl))
        · intro a1 w1 hG hF
          exact s_same rfl (wants0 rfl) (.tmp 42) (.inl rfl) (hF.dp 15 42 (by kernel_rfl))
      · intro vs w1 hG hf
        have z9 : vs 16 = .bool false := hf.2.2.2.2.2.2.2.2.2.2.2.2.2.2.2.2.1
        have z10 : vs 17 = .bool false := hf.2.2.2.2.2.2.2.2.2.2.2.2.2.2.2.2.2.1
        clear hf
        simp only [putAll, Nat.zero_add, Nat.reduceAdd, z9, z10]
        have GW5 := Gr.trans GW4 ((Gr.drew w4).trans hG)
        have h25 := h24.gr ((Gr.drew w4).trans hG)
        have h35 := h34.gr ((Gr.drew w4).trans hG)
        have h55 := h54.gr ((Gr.drew w4).trans hG)
        have h75 := h7.gr ((Gr.drew w4).trans hG)
        generalize w1 = w5 at h25 h35 h55 h75 GW5 ⊢
        clear hG h24 h34 h54 h7 GW4 c20 c21 c30 c31
        go_simp
        go_wp2_with fail
        refine (HH.out w5).mono ?_
        rintro e w6 ⟨rfl, hB6⟩
        have h26 := h25.gr hB6
        have h36 := h35.gr hB6
        have h56 := h55.gr hB6
        have h76 := h75.gr hB6
        have GW6 := Gr.trans GW5 hB6
        clear hB6 h25 h35 h55 h75 GW5
        have heq := HQ.out w6
        go_upto_region 6 with first
          | (refine wpList_loadW rfl 33 (.tmp 5) rfl rfl h56 ⟨_, _, Tryd.underlying33⟩ (info12 X hXl) ?_)
        clear heq
        refine wp_region_ssaL (by kernel_rfl) [IsV (.bool false), IsV (.bool true), IsV (.bool true), IsV (undef), IsV (undef), IsV (.bool true), IsV (.bool true), IsV (undef), IsV (undef), IsV (undef), IsV (undef), IsV (undef), IsV (undef), IsV (undef), IsV (undef), IsV (undef), IsV (undef), IsV (undef), IsV (undef), IsV (undef), IsV (undef), IsV (undef), IsV (undef), IsV (undef), IsV (.bool true), IsV (.bool true)] (by kernel_rfl) ?_ ?_ ?_
        · intro φ hφ v w1 w2 h hg
          simp only [List.mem_cons, List.not_mem_nil, or_false] at hφ
          rcases hφ with rfl | rfl | rfl | rfl | rfl | rfl | rfl | rfl | rfl | rfl | rfl | rfl | rfl | rfl | rfl | rfl | rfl | rfl | rfl | rfl | rfl | rfl | rfl | rfl | rfl | rfl
          all_goals first | exact h | exact RdV.gr h hg
        · refine ⟨?_, ?_, ?_, ?_, ?_, ?_, ?_, ?_, ?_, ?_, ?_, ?_, ?_, ?_, ?_, ?_, ?_, ?_, ?_, ?_, ?_, ?_, ?_, ?_, ?_, ?_, trivial⟩
          · intro a1 w1 hG hF
            exact s_old rfl (wants0 rfl) (.tmp 9) (.inr rfl) (.bool false) (hF.ol 9 (by kernel_rfl)) rfl
          · intro a1 w1 hG hF
            obtain ⟨_, e70, rfl⟩ := hF.dp 0 70 (by kernel_rfl)
            exact s_is rfl (wants0 rfl) _ rfl (by simp only [execOp, e70]; go_simp)
          · intro a1 w1 hG hF
            exact s_same rfl (wants0 rfl) (.tmp 71) (.inr rfl) (hF.dp 1 71 (by kernel_rfl))
          · intro a1 w1 hG hF
            exact s_not rfl (notN hF 2 72 false rfl (by kernel_rfl) rfl) rfl
          · intro a1 w1 hG hF
            exact s_not rfl (notN hF 2 72 false rfl (by kernel_rfl) rfl) rfl
          · intro a1 w1 hG hF
            obtain ⟨_, e72, rfl⟩ := hF.dp 2 72 (by kernel_rfl)
            exact s_pick rfl (wants0 rfl) (.tmp 72) _ _ rfl e72 _ rfl rfl
          · intro a1 w1 hG hF
            exact s_same rfl (wants0 rfl) (.tmp 75) (.inr rfl) (hF.dp 5 75 (by kernel_rfl))
          · intro a1 w1 hG hF
            exact s_not rfl (notN hF 6 76 false rfl (by kernel_rfl) rfl) rfl
          · intro a1 w1 hG hF
            exact s_not rfl (notN hF 6 76 false rfl (by kernel_rfl) rfl) rfl
          · intro a1 w1 hG hF
            exact s_not rfl (notN hF 6 76 false rfl (by kernel_rfl) rfl) rfl
          · intro a1 w1 hG hF
            exact s_not rfl (notN hF 6 76 false rfl (by kernel_rfl) rfl) rfl
          · intro a1 w1 hG hF
            exact s_not rfl (notN hF 6 76 false rfl (by kernel_rfl) rfl) rfl
          · intro a1 w1 hG hF
            exact s_not rfl (notN hF 6 76 false rfl (by kernel_rfl) rfl) rfl
          · intro a1 w1 hG hF
            exact s_not rfl (notN hF 6 76 false rfl (by kernel_rfl) rfl) rfl
          · intro a1 w1 hG hF
            exact s_not rfl (notN hF 6 76 false rfl (by kernel_rfl) rfl) rfl
          · intro a1 w1 hG hF
            exact s_not rfl (notN hF 6 76 false rfl (by kernel_rfl) rfl) rfl
          · intro a1 w1 hG hF
            exact s_not rfl (notU hF 15 85 true rfl (by kernel_rfl) rfl) rfl
          · intro a1 w1 hG hF
            exact s_not rfl (notU hF 15 85 true rfl (by kernel_rfl) rfl) rfl
          · intro a1 w1 hG hF
            exact s_not rfl (notU hF 15 85 true rfl (by kernel_rfl) rfl) rfl
          · intro a1 w1 hG hF
            exact s_not rfl (notU hF 15 85 true rfl (by kernel_rfl) rfl) rfl
          · intro a1 w1 hG hF
            exact s_not rfl (notU hF 15 85 true rfl (by kernel_rfl) rfl) rfl
          · intro a1 w1 hG hF
            exact s_not rfl (notU hF 15 85 true rfl (by kernel_rfl) rfl) rfl
          · intro a1 w1 hG hF
            exact s_not rfl (notU hF 15 85 true rfl (by kernel_rfl) rfl) rfl
          · intro a1 w1 hG hF
            exact s_not rfl (notN hF 6 76 false rfl (by kernel_rfl) rfl) rfl
          · intro a1 w1 hG hF
            obtain ⟨_, e76, rfl⟩ := hF.dp 6 76 (by kernel_rfl)
            exact s_pick rfl (wants0 rfl) (.tmp 76) _ _ rfl e76 _ rfl rfl
          · intro a1 w1 hG hF
            exact s_same rfl (wants0 rfl) (.tmp 94) (.inl rfl) (hF.dp 24 94 (by kernel_rfl))
        · intro vs w1 hG hf
          have z4 : vs 25 = .bool true := hf.2.2.2.2.2.2.2.2.2.2.2.2.2.2.2.2.2.2.2.2.2.2.2.2.2.1
          clear hf
          simp only [putAll, Nat.zero_add, Nat.reduceAdd, z4]
          go_simp
          go_wp2_with fail
          go_ret
          exact ⟨rfl, Gr.trans GW6 ((Gr.drew w6).trans hG)⟩
end Go.Proofs.YtficbedibjgoeaaDoor

