/- The walk of the law HkdfTells. No condition. -/
import Derived.Test.YtmmjjjdocanmfaaDoorHBegins
import Derived.Test.YtmmjjjdocanmfaaDoorOwnG
namespace Go.Proofs.YtmmjjjdocanmfaaDoor
open Go.RowKit
theorem s_pickF {P : Program} {ops : Array Oper} {Q : Exit → Act → World → Prop} {L : List (Value → World → Prop)} {i : Nat} {o : Oper} {a : Act} {w : World} (hi : ops[i]? = some o) (hw : Wanted ops o a) (c x y : Operand) (ho : o.op = .pick c x y) (hc : a.eval c = .bool false) (v : Value) (e : a.eval y = v) (hφ : L.getD i AnyV = IsV v) : Step P ops Q L i o a w := by
  refine s_is hi hw v hφ ?_
  simp [execOp, ho, hc, e, asBool]
set_option maxRecDepth 100000 in
set_option maxHeartbeats 4000000 in
theorem extract_any (A : Option Addr) (n c : Nat) (K : List UInt8) (B : Option Addr) (m d : Nat) (l : List UInt8) (hn : n ≤ 100000) (hnc : n ≤ c) (hm : m ≤ 100000) (hmd : m ≤ d) (w : World) (hr : Rd w A n (u8s K)) (hA : A = none → n = 0 ∧ c = 0) (hb : Rd w B m (u8s l)) (gw : Glob w) :
    Calls Tryd.prog 9 #[.slice A n c, .slice B m d] w fun e w' => e = .returned (.agg (u8s (hmacL K l)).toArray) ∧ Below w.heap.size w w' := by
  have hll : l.length = m := by simpa using hb.1
  obtain ⟨E, hE⟩ : ∃ E, E = hmacL K l := ⟨_, rfl⟩
  have hEl : E.length = 32 := by rw [hE]; simp
  have HS : Hid (∀ w B ps, Rd w A n (u8s K) → Parts w B 1 ps → allP ps = l → Glob w → Calls Tryd.prog 11 #[.slice A n c, .slice B 1 1] w fun e w' => e = .returned (.agg (u8s E).toArray) ∧ Below w.heap.size w w') := by
    intro w B ps h1 h2 h3 h4
    rw [hE]
    exact hmacSum_any A n c K B 1 1 ps l (by omega) hnc (by omega) h3 (by omega) w h1 hA h2 h4
  rw [← hE]
  clear hE
  have h4 : Arr (w.alloc (.cells (u8s (List.replicate 32 0)).toArray 32)) w.heap.size 32 (u8s (List.replicate 32 0)) := Arr.newAt rfl rfl
  have G0 : Gr w (w.alloc (.cells (u8s (List.replicate 32 0)).toArray 32)) := Gr.alloc _ _
  go_enter Tryd.func9, Tryd.ntmps9
  go_upto_region 1 with fail
  change Code.wp _ _ _ _ (w.alloc (.cells (u8s (List.replicate 32 0)).toArray 32))
  generalize w.alloc (.cells (u8s (List.replicate 32 0)).toArray 32) = w0 at h4 G0 ⊢
  obtain ⟨g4, hg4⟩ : ∃ g, g = w.heap.size := ⟨_, rfl⟩
  rw [← hg4] at h4
  simp only [← hg4]
  have HG4 := Lib.hid hg4
  clear hg4
  have hr0 := G0.rd hr
  have hb0 := G0.rd hb
  have gw0 := gw.gr G0
  have hc1 := HS.out _ _ [⟨B, m, d, l⟩] ((Gr.alloc w0 _).rd hr0) (parts1 rfl 22 ⟨B, m, d, l⟩ hb0 hmd) (by simp [allP]) (gw0.gr (Gr.alloc _ _))
  go_wp2_with first
    | (go_at_call 11; refine hc1.mono ?_; rintro e w1 ⟨rfl, hB1⟩; have G1 : Gr w0 w1 := Gr.trans (Gr.alloc _ _) hB1; have h41 := h4.gr G1)
    | (refine wpList_put h41 rfl 32 (.tmp 4) (.tmp 8) rfl (u8s E) rfl rfl (by simp [hEl]) (infoU8_32 E hEl) (u8s_oneCell _) ?_; intro w2 h42 hB2 _)
  refine bodyPost_ret (results_cell_row rfl _ _ g4 _ _ _ _ rfl h42 Tryd.underlying32 rfl (by have := infoU8_32 E hEl; simpa using this)) rfl ?_
  rw [HG4.out] at *
  exact ⟨rfl, Below.trans (Below.trans G0 (Below.mono G1 G0.size)) hB2⟩
theorem tmod300 (z : Int) (h : 300 < z) : ∃ q : Nat, q ≤ 8160 ∧ z % 300 = (q : Int) := by
  refine ⟨(z % 300).toNat, by omega, ?_⟩
  rw [Int.toNat_of_nonneg (by omega)]
set_option maxRecDepth 100000 in
set_option maxHeartbeats 16000000 in
theorem law_htells (A : Option Addr) (n c : Nat) (K0 : List UInt8) (B : Option Addr) (m d : Nat) (l0 : List UInt8) (z : Int) (w : World) (hnc : n ≤ c) (hr0 : Rd w A n (u8s K0)) (hmd : m ≤ d) (hb0 : Rd w B m (u8s l0)) (gw : Glob w) :
    Calls Tryd.prog 5 #[.slice A n c, .slice B m d, .int .i64 z] w fun e w' => e = .returned (.bool true) ∧ Below w.heap.size w w' := by
  obtain ⟨i0, hi0, hz0, hz1, hz2⟩ := info_parts Tryd.info5
  obtain ⟨k, hki, hkn, hk2⟩ := cut_at n 100
  obtain ⟨j, hji, hjm, hj2⟩ := cut_at m 100
  have hrk : Rd w A k (u8s (K0.take k)) := by rw [← u8s_take]; exact hr0.take hkn
  have hrj : Rd w B j (u8s (l0.take j)) := by rw [← u8s_take]; exact hb0.take hjm
  obtain ⟨K, hK⟩ : ∃ K, K = K0.take k := ⟨_, rfl⟩
  obtain ⟨l, hl⟩ : ∃ l, l = l0.take j := ⟨_, rfl⟩
  rw [← hK] at hrk
  rw [← hl] at hrj
  have hKl : K.length = k := by simpa using hrk.1
  have hll : l.length = j := by simpa using hrj.1
  have HC1 := Lib.hid fun w1 => run_cut_h (P := Tryd.prog) Tryd.underlying22 (by kernel_rfl) (A := A) (n := n) (c := c) (hi := k) (h := (k : Int)) rfl (by omega) w1
  have HC2 := Lib.hid fun w1 => run_cut_h (P := Tryd.prog) Tryd.underlying22 (by kernel_rfl) (A := B) (n := m) (c := d) (hi := j) (h := (j : Int)) rfl (by omega) w1
  have HM1 := Lib.hid hki
  have HM2 := Lib.hid hji
  obtain ⟨E, hE⟩ : ∃ E, E = hmacL K l := ⟨_, rfl⟩
  have hEl : E.length = 32 := by rw [hE]; simp
  have HX : Hid (∀ w A c B d, k ≤ c → j ≤ d → (A = none → k = 0 ∧ c = 0) → Rd w A k (u8s K) → Rd w B j (u8s l) → Glob w → Calls Tryd.prog 9 #[.slice A k c, .slice B j d] w fun e w' => e = .returned (.agg (u8s E).toArray) ∧ Below w.heap.size w w') := by
    intro w A c B d h1 h2 h3 h4 h5 h6
    rw [hE]
    exact extract_any A k c K B j d l (by omega) h1 (by omega) h2 w h4 h3 h5 h6
  have HRS : Hid (∀ w, Calls Tryd.prog 8 #[.string ⟨K.toArray⟩, .string ⟨l.toArray⟩] w fun e w' => e = .returned (.string ⟨E.toArray⟩) ∧ Below w.heap.size w w') := by
    intro w
    rw [hE]
    exact refHmac_any K l (by omega) (by omega) w
  have HE : Hid (∀ w A c B d (q : Nat), q ≤ 8160 → k ≤ c → j ≤ d → (A = none → k = 0 ∧ c = 0) → Rd w A k (u8s K) → Rd w B j (u8s l) → Glob w → Calls Tryd.prog 6 #[.slice A k c, .slice B j d, .int .i64 (q : Int)] w fun e w' => ∃ A', e = .returned (.tuple #[.slice A' q q, .int .i64 0]) ∧ Rd w' A' q (u8s (expandL K l q)) ∧ Below w.heap.size w w') := by
    intro w A c B d q hq h1 h2 h3 h4 h5 h6
    exact expand_any A k c K B j d l q (by omega) h1 (by omega) h2 hq w h4 h3 h5 h6
  have HRE : Hid (∀ w (q : Nat), q ≤ 8160 → Calls Tryd.prog 10 #[.string ⟨K.toArray⟩, .string ⟨l.toArray⟩, .int .i64 (q : Int)] w fun e w' => e = .returned (.string ⟨(expandL K l q).toArray⟩) ∧ Below w.heap.size w w') := by
    intro w q hq
    exact refExpand_any K l q (by omega) (by omega) hq w
  clear hE hK hl hki hji
  go_enter Tryd.func5, Tryd.ntmps5
  go_wp2_with fail
  refine wp_region_ssaL (by kernel_rfl) [NewV w.heap.size 5, IsV (.slice A n c), IsV (.slice A n c), IsV (.int .i64 ((n : Nat) : Int)), IsV (.int .i64 ((k : Nat) : Int)), IsV (.slice A k c), CopyV w.heap.size 5 K, NewV w.heap.size 5, IsV (.slice B m d), IsV (.slice B m d), IsV (.int .i64 ((m : Nat) : Int)), IsV (.int .i64 ((j : Nat) : Int)), IsV (.slice B j d), CopyV w.heap.size 5 l, CopyV w.heap.size 5 K, CopyV w.heap.size 5 l] (by kernel_rfl) ?_ ?_ ?_
  · intro φ hφ v w1 w2 h hg
    simp only [List.mem_cons, List.not_mem_nil, or_false] at hφ
    rcases hφ with rfl | rfl | rfl | rfl | rfl | rfl | rfl | rfl | rfl | rfl | rfl | rfl | rfl | rfl | rfl | rfl
    all_goals first | exact h | exact RdV.gr h hg | exact CopyV.gr h hg | exact NewV.gr h hg
  · refine ⟨?_, ?_, ?_, ?_, ?_, ?_, ?_, ?_, ?_, ?_, ?_, ?_, ?_, ?_, ?_, ?_, trivial⟩
    · intro a1 w1 hG hF
      exact ssa_new rfl rfl w.heap.size 5 rfl hG.size (by go_simp)
    · intro a1 w1 hG hF
      exact s_old rfl (wants0 rfl) (.tmp 0) (.inr rfl) (.slice A n c) (hF.ol 0 (by kernel_rfl)) rfl
    · intro a1 w1 hG hF
      exact s_old rfl (wants0 rfl) (.tmp 0) (.inr rfl) (.slice A n c) (hF.ol 0 (by kernel_rfl)) rfl
    · intro a1 w1 hG hF
      obtain ⟨_, e14, rfl⟩ := hF.dp 2 14 (by kernel_rfl)
      exact s_is rfl (wants0 rfl) _ rfl (run_len_slice Tryd.underlying22 e14)
    · intro a1 w1 hG hF
      obtain ⟨_, e15, rfl⟩ := hF.dp 3 15 (by kernel_rfl)
      exact s_is rfl (wants0 rfl) _ rfl (run_min_ e15 rfl HM1.out)
    · intro a1 w1 hG hF
      obtain ⟨_, e13, rfl⟩ := hF.dp 1 13 (by kernel_rfl)
      obtain ⟨_, e16, rfl⟩ := hF.dp 4 16 (by kernel_rfl)
      exact s_is rfl (wants0 rfl) _ rfl (by simp only [execOp, e13, e16, Option.map, Sem.run_bind, HC1.out, Result.andThen_ok, Sem.run_pure])
    · intro a1 w1 hG hF
      obtain ⟨x12, e12, f12⟩ := hF.dp 0 12 (by kernel_rfl)
      obtain ⟨_, e17, rfl⟩ := hF.dp 5 17 (by kernel_rfl)
      exact ssa_clip rfl rfl w.heap.size _ 5 rfl (.tmp 12) (.tmp 17) 22 rfl i0 (.int .u8 0) Tryd.underlying22 hi0 hz0 hz1 hz2 rfl ⟨x12, e12, f12⟩ A k c e17 (((Gr.drew w).trans hG).rd hrk) (by omega) hG.size
    · intro a1 w1 hG hF
      exact ssa_new rfl rfl w.heap.size 5 rfl hG.size (by go_simp)
    · intro a1 w1 hG hF
      exact s_old rfl (wants0 rfl) (.tmp 1) (.inr rfl) (.slice B m d) (hF.ol 1 (by kernel_rfl)) rfl
    · intro a1 w1 hG hF
      exact s_old rfl (wants0 rfl) (.tmp 1) (.inr rfl) (.slice B m d) (hF.ol 1 (by kernel_rfl)) rfl
    · intro a1 w1 hG hF
      obtain ⟨_, e21, rfl⟩ := hF.dp 9 21 (by kernel_rfl)
      exact s_is rfl (wants0 rfl) _ rfl (run_len_slice Tryd.underlying22 e21)
    · intro a1 w1 hG hF
      obtain ⟨_, e22, rfl⟩ := hF.dp 10 22 (by kernel_rfl)
      exact s_is rfl (wants0 rfl) _ rfl (run_min_ e22 rfl HM2.out)
    · intro a1 w1 hG hF
      obtain ⟨_, e20, rfl⟩ := hF.dp 8 20 (by kernel_rfl)
      obtain ⟨_, e23, rfl⟩ := hF.dp 11 23 (by kernel_rfl)
      exact s_is rfl (wants0 rfl) _ rfl (by simp only [execOp, e20, e23, Option.map, Sem.run_bind, HC2.out, Result.andThen_ok, Sem.run_pure])
    · intro a1 w1 hG hF
      obtain ⟨x19, e19, f19⟩ := hF.dp 7 19 (by kernel_rfl)
      obtain ⟨_, e24, rfl⟩ := hF.dp 12 24 (by kernel_rfl)
      exact ssa_clip rfl rfl w.heap.size _ 5 rfl (.tmp 19) (.tmp 24) 22 rfl i0 (.int .u8 0) Tryd.underlying22 hi0 hz0 hz1 hz2 rfl ⟨x19, e19, f19⟩ B j d e24 (((Gr.drew w).trans hG).rd hrj) (by omega) hG.size
    · intro a1 w1 hG hF
      exact s_same rfl (wants0 rfl) (.tmp 18) (.inl rfl) (hF.dp 6 18 (by kernel_rfl))
    · intro a1 w1 hG hF
      exact s_same rfl (wants0 rfl) (.tmp 25) (.inl rfl) (hF.dp 13 25 (by kernel_rfl))
  · intro vs w1 hG hf
    have y0 : (CopyV w.heap.size 5 K) (vs 14) w1 := hf.2.2.2.2.2.2.2.2.2.2.2.2.2.2.1
    have y1 : (CopyV w.heap.size 5 l) (vs 15) w1 := hf.2.2.2.2.2.2.2.2.2.2.2.2.2.2.2.1
    clear hf
    simp only [putAll, Nat.zero_add, Nat.reduceAdd]
    have hG1 := (Gr.drew w).trans hG
    obtain ⟨A1, c1, z26, hc1, hA1, hr1⟩ := own_form3 y0
    obtain ⟨A2, c2, z27, hc2, _, hr2⟩ := own_form3 y1
    rw [hKl] at z26 hc1 hr1 hA1
    rw [hll] at z27 hc2 hr2
    rw [z26, z27]
    have gw1 := gw.gr hG1
    have hB1 : Below w.heap.size w w1 := hG1
    generalize w1 = w2 at hr1 hr2 gw1 hB1 ⊢
    clear hG1 hG y0 y1 z26 z27 hr0 hb0 hrk hrj gw
    go_simp
    go_wp2_with fail
    refine wp_region_ssaL (by kernel_rfl) [IsV (.slice A1 k c1), IsV (.string ⟨(K).toArray⟩), IsV (.slice A2 j c2), IsV (.string ⟨(l).toArray⟩), IsV (.string ⟨(K).toArray⟩), IsV (.string ⟨(l).toArray⟩)] (by kernel_rfl) ?_ ?_ ?_
    · intro φ hφ v w1 w2 h hg
      simp only [List.mem_cons, List.not_mem_nil, or_false] at hφ
      rcases hφ with rfl | rfl | rfl | rfl | rfl | rfl
      all_goals first | exact h | exact RdV.gr h hg
    · refine ⟨?_, ?_, ?_, ?_, ?_, ?_, trivial⟩
      · intro a1 w1 hG hF
        exact s_old rfl (wants0 rfl) (.tmp 0) (.inr rfl) (.slice A1 k c1) (hF.ol 0 (by kernel_rfl)) rfl
      · intro a1 w1 hG hF
        obtain ⟨_, e26, rfl⟩ := hF.dp 0 26 (by kernel_rfl)
        exact s_str rfl (wants0 rfl) 22 9 5 (.tmp 26) rfl Tryd.underlying22 Tryd.underlying5 Tryd.underlying9 _ _ _ (K) e26 (((Gr.drew w2).trans hG).rd hr1) rfl
      · intro a1 w1 hG hF
        exact s_old rfl (wants0 rfl) (.tmp 1) (.inr rfl) (.slice A2 j c2) (hF.ol 1 (by kernel_rfl)) rfl
      · intro a1 w1 hG hF
        obtain ⟨_, e28, rfl⟩ := hF.dp 2 28 (by kernel_rfl)
        exact s_str rfl (wants0 rfl) 22 9 5 (.tmp 28) rfl Tryd.underlying22 Tryd.underlying5 Tryd.underlying9 _ _ _ (l) e28 (((Gr.drew w2).trans hG).rd hr2) rfl
      · intro a1 w1 hG hF
        exact s_same rfl (wants0 rfl) (.tmp 27) (.inl rfl) (hF.dp 1 27 (by kernel_rfl))
      · intro a1 w1 hG hF
        exact s_same rfl (wants0 rfl) (.tmp 29) (.inl rfl) (hF.dp 3 29 (by kernel_rfl))
    · intro vs w1 hG hf
      have z7 : vs 4 = .string ⟨(K).toArray⟩ := hf.2.2.2.2.1
      have z8 : vs 5 = .string ⟨(l).toArray⟩ := hf.2.2.2.2.2.1
      clear hf
      simp only [putAll, Nat.zero_add, Nat.reduceAdd, z7, z8]
      have hG2 := (Gr.drew w2).trans hG
      have hr12 := hG2.rd hr1
      have hr22 := hG2.rd hr2
      have gw2 := gw1.gr hG2
      have hB2 := hB1.trans (hG2.mono hB1.size)
      generalize w1 = w3 at hr12 hr22 gw2 hB2 ⊢
      clear hG2 hG hr1 hr2 hB1 gw1
      go_simp
      by_cases h3 : 300 < z
      · by_cases h4 : z < 8100
        · obtain ⟨q, hq, hzq⟩ := tmod300 z h3
          have hq1 : ¬ (q : Int) < 0 := by omega
          have hq2 : ¬ (8160 : Int) < (q : Int) := by omega
          have hqb : (q : Int) ≤ 8160 := by omega
          have HZQ := Lib.hid hzq
          clear hzq
          go_upto_region 5 with fail
          simp only [HZQ.out]
          go_wp2_with fail
          refine (HX.out w3 A1 c1 A2 c2 hc1 hc2 hA1 hr12 hr22 gw2).mono ?_
          rintro e w4 ⟨rfl, hB4⟩
          go_upto_region 6 with (refine wpList_new rfl 32 (.tmp 9) (.tmp 40) rfl _ (u8s E) rfl rfl rfl (by simp only [u8s_length, hEl]; rfl) (infoU8_32 E hEl) (u8s_oneCell _) ?_; intro w5 h9 hG5)
          have G5 : Gr w3 w5 := Gr.trans hB4 hG5
          have hr15 := G5.rd hr12
          have hr25 := G5.rd hr22
          have gw5 := gw2.gr G5
          have hB5 := hB2.trans (Below.mono G5 hB2.size)
          generalize w4.heap.size = g9 at h9 ⊢
          clear hB4 hG5 G5 hr12 hr22 gw2 hB2
          go_wp2_with fail
          refine (HE.out w5 A1 c1 A2 c2 q hq hc1 hc2 hA1 hr15 hr25 gw5).mono ?_
          rintro e w6 ⟨A10, rfl, hr10, hB6⟩
          have hr16 : Rd w6 A1 k (u8s K) := hr15.below hB6
          have hr26 : Rd w6 A2 j (u8s l) := hr25.below hB6
          have gw6 := gw5.gr hB6
          have h96 := h9.gr hB6
          have hr96 := Arr.rdAllS h96 hEl
          have hB7 := hB5.trans (hB6.mono hB5.size)
          clear hB6 hr15 hr25 gw5 h9 h96 hB5
          go_wp2_with fail
          refine wp_region_ssaL (by kernel_rfl) [IsV (.bool true), IsV (.bool false), IsV (.bool false), IsV (.slice (some ⟨g9, 0, none⟩) 32 32), IsV (.string ⟨(E).toArray⟩), IsV (.string ⟨(K).toArray⟩), IsV (.string ⟨(l).toArray⟩), IsV (.string ⟨(E).toArray⟩), IsV (.bool false), IsV (.bool false), IsV (.bool false), IsV (.slice A1 k c1), IsV (.string ⟨(K).toArray⟩), IsV (.string ⟨(K).toArray⟩), IsV (.bool false), IsV (.bool false), IsV (.bool false), IsV (.slice A2 j c2), IsV (.string ⟨(l).toArray⟩), IsV (.string ⟨(l).toArray⟩), IsV (.bool false), IsV (.bool false)] (by kernel_rfl) ?_ ?_ ?_
          · intro φ hφ v w1 w2 h hg
            simp only [List.mem_cons, List.not_mem_nil, or_false] at hφ
            rcases hφ with rfl | rfl | rfl | rfl | rfl | rfl | rfl | rfl | rfl | rfl | rfl | rfl | rfl | rfl | rfl | rfl | rfl | rfl | rfl | rfl | rfl | rfl
            all_goals first | exact h | exact RdV.gr h hg
          · refine ⟨?_, ?_, ?_, ?_, ?_, ?_, ?_, ?_, ?_, ?_, ?_, ?_, ?_, ?_, ?_, ?_, ?_, ?_, ?_, ?_, ?_, ?_, trivial⟩
            · intro a1 w1 hG hF
              exact s_call rfl (wants0 rfl) _ rfl _ _ (by simp only [execOp, resolve, invoke, List.map_toArray, List.map_nil]; go_simp) ((expands_any w1 (gw6.gr ((Gr.drew w6).trans hG))).mono fun e w2 ⟨he, hb⟩ => ⟨_, he, rfl, hb⟩)
            · intro a1 w1 hG hF
              obtain ⟨_, e48, rfl⟩ := hF.dp 0 48 (by kernel_rfl)
              exact s_is rfl (wants0 rfl) _ rfl (by simp only [execOp, e48]; go_simp)
            · intro a1 w1 hG hF
              exact s_same rfl (wants0 rfl) (.tmp 49) (.inr rfl) (hF.dp 1 49 (by kernel_rfl))
            · intro a1 w1 hG hF
              have e9 : a1.eval (.tmp 9) = .pointer (some ⟨g9, 0, none⟩) := hF.ol 9 (by kernel_rfl)
              exact s_is rfl (wantsG hF 2 50 false rfl (by kernel_rfl) rfl) _ rfl (by simp only [execOp, e9, Option.map, Sem.run_bind, run_cutAll (P := Tryd.prog) Tryd.underlying32 (by kernel_rfl), Result.andThen_ok, Sem.run_pure])
            · intro a1 w1 hG hF
              obtain ⟨_, e51, rfl⟩ := hF.dp 3 51 (by kernel_rfl)
              exact s_str rfl (wantsG hF 2 50 false rfl (by kernel_rfl) rfl) 22 9 5 (.tmp 51) rfl Tryd.underlying22 Tryd.underlying5 Tryd.underlying9 _ _ _ (E) e51 (((Gr.drew w6).trans hG).rd hr96) rfl
            · intro a1 w1 hG hF
              exact s_old rfl (wantsG hF 2 50 false rfl (by kernel_rfl) rfl) (.tmp 7) (.inr rfl) (.string ⟨(K).toArray⟩) (hF.ol 7 (by kernel_rfl)) rfl
            · intro a1 w1 hG hF
              exact s_old rfl (wantsG hF 2 50 false rfl (by kernel_rfl) rfl) (.tmp 8) (.inr rfl) (.string ⟨(l).toArray⟩) (hF.ol 8 (by kernel_rfl)) rfl
            · intro a1 w1 hG hF
              obtain ⟨_, e53, rfl⟩ := hF.dp 5 53 (by kernel_rfl)
              obtain ⟨_, e54, rfl⟩ := hF.dp 6 54 (by kernel_rfl)
              exact s_call rfl (wantsG hF 2 50 false rfl (by kernel_rfl) rfl) _ rfl _ _ (by simp only [execOp, resolve, invoke, List.map_toArray, List.map_cons, List.map_nil, e53, e54]; go_simp) ((HRS.out w1).mono fun e w2 ⟨he, hb⟩ => ⟨_, he, rfl, hb⟩)
            · intro a1 w1 hG hF
              obtain ⟨_, e52, rfl⟩ := hF.dp 4 52 (by kernel_rfl)
              obtain ⟨_, e55, rfl⟩ := hF.dp 7 55 (by kernel_rfl)
              exact s_is rfl (wantsG hF 2 50 false rfl (by kernel_rfl) rfl) _ rfl (by simp only [execOp, e52, e55]; go_simp)
            · intro a1 w1 hG hF
              obtain ⟨_, e50, rfl⟩ := hF.dp 2 50 (by kernel_rfl)
              obtain ⟨_, e56, rfl⟩ := hF.dp 8 56 (by kernel_rfl)
              exact s_pickF rfl (wants0 rfl) (.tmp 50) _ (.tmp 56) rfl e50 _ e56 rfl
            · intro a1 w1 hG hF
              exact s_same rfl (wants0 rfl) (.tmp 57) (.inr rfl) (hF.dp 9 57 (by kernel_rfl))
            · intro a1 w1 hG hF
              exact s_old rfl (wantsG hF 10 58 false rfl (by kernel_rfl) rfl) (.tmp 0) (.inr rfl) (.slice A1 k c1) (hF.ol 0 (by kernel_rfl)) rfl
            · intro a1 w1 hG hF
              obtain ⟨_, e59, rfl⟩ := hF.dp 11 59 (by kernel_rfl)
              exact s_str rfl (wantsG hF 10 58 false rfl (by kernel_rfl) rfl) 22 9 5 (.tmp 59) rfl Tryd.underlying22 Tryd.underlying5 Tryd.underlying9 _ _ _ (K) e59 (((Gr.drew w6).trans hG).rd hr16) rfl
            · intro a1 w1 hG hF
              exact s_old rfl (wantsG hF 10 58 false rfl (by kernel_rfl) rfl) (.tmp 7) (.inr rfl) (.string ⟨(K).toArray⟩) (hF.ol 7 (by kernel_rfl)) rfl
            · intro a1 w1 hG hF
              obtain ⟨_, e60, rfl⟩ := hF.dp 12 60 (by kernel_rfl)
              obtain ⟨_, e61, rfl⟩ := hF.dp 13 61 (by kernel_rfl)
              exact s_is rfl (wantsG hF 10 58 false rfl (by kernel_rfl) rfl) _ rfl (by simp only [execOp, e60, e61]; go_simp)
            · intro a1 w1 hG hF
              obtain ⟨_, e58, rfl⟩ := hF.dp 10 58 (by kernel_rfl)
              obtain ⟨_, e62, rfl⟩ := hF.dp 14 62 (by kernel_rfl)
              exact s_pickF rfl (wants0 rfl) (.tmp 58) _ (.tmp 62) rfl e58 _ e62 rfl
            · intro a1 w1 hG hF
              exact s_same rfl (wants0 rfl) (.tmp 63) (.inr rfl) (hF.dp 15 63 (by kernel_rfl))
            · intro a1 w1 hG hF
              exact s_old rfl (wantsG hF 16 64 false rfl (by kernel_rfl) rfl) (.tmp 1) (.inr rfl) (.slice A2 j c2) (hF.ol 1 (by kernel_rfl)) rfl
            · intro a1 w1 hG hF
              obtain ⟨_, e65, rfl⟩ := hF.dp 17 65 (by kernel_rfl)
              exact s_str rfl (wantsG hF 16 64 false rfl (by kernel_rfl) rfl) 22 9 5 (.tmp 65) rfl Tryd.underlying22 Tryd.underlying5 Tryd.underlying9 _ _ _ (l) e65 (((Gr.drew w6).trans hG).rd hr26) rfl
            · intro a1 w1 hG hF
              exact s_old rfl (wantsG hF 16 64 false rfl (by kernel_rfl) rfl) (.tmp 8) (.inr rfl) (.string ⟨(l).toArray⟩) (hF.ol 8 (by kernel_rfl)) rfl
            · intro a1 w1 hG hF
              obtain ⟨_, e66, rfl⟩ := hF.dp 18 66 (by kernel_rfl)
              obtain ⟨_, e67, rfl⟩ := hF.dp 19 67 (by kernel_rfl)
              exact s_is rfl (wantsG hF 16 64 false rfl (by kernel_rfl) rfl) _ rfl (by simp only [execOp, e66, e67]; go_simp)
            · intro a1 w1 hG hF
              obtain ⟨_, e64, rfl⟩ := hF.dp 16 64 (by kernel_rfl)
              obtain ⟨_, e68, rfl⟩ := hF.dp 20 68 (by kernel_rfl)
              exact s_pickF rfl (wants0 rfl) (.tmp 64) _ (.tmp 68) rfl e64 _ e68 rfl
          · intro vs w1 hG hf
            have z69 : vs 21 = .bool false := hf.2.2.2.2.2.2.2.2.2.2.2.2.2.2.2.2.2.2.2.2.2.1
            clear hf
            simp only [putAll, Nat.zero_add, Nat.reduceAdd, z69]
            have hG7 := (Gr.drew w6).trans hG
            have hB8 := hB7.trans (hG7.mono hB7.size)
            have hr107 := hG7.rd hr10
            generalize w1 = w7 at hr107 hB8 ⊢
            clear hG7 hG
            go_simp
            go_wp2_with fail
            refine wp_region_ssaL (by kernel_rfl) [IsV (.int .i64 ((0 : Nat) : Int)), IsV (.bool true), IsV (.bool true), IsV (.slice A10 q q), IsV (.string ⟨(expandL K l q).toArray⟩), IsV (.string ⟨(K).toArray⟩), IsV (.string ⟨(l).toArray⟩), IsV (.int .i64 ((q : Nat) : Int)), IsV (.string ⟨(expandL K l q).toArray⟩), IsV (.bool true), IsV (.bool true), IsV (.bool true)] (by kernel_rfl) ?_ ?_ ?_
            · intro φ hφ v w1 w2 h hg
              simp only [List.mem_cons, List.not_mem_nil, or_false] at hφ
              rcases hφ with rfl | rfl | rfl | rfl | rfl | rfl | rfl | rfl | rfl | rfl | rfl | rfl
              all_goals first | exact h | exact RdV.gr h hg
            · refine ⟨?_, ?_, ?_, ?_, ?_, ?_, ?_, ?_, ?_, ?_, ?_, ?_, trivial⟩
              · intro a1 w1 hG hF
                exact s_old rfl (wants0 rfl) (.tmp 11) (.inr rfl) (.int .i64 ((0 : Nat) : Int)) (hF.ol 11 (by kernel_rfl)) rfl
              · intro a1 w1 hG hF
                obtain ⟨_, e83, rfl⟩ := hF.dp 0 83 (by kernel_rfl)
                exact s_is rfl (wants0 rfl) _ rfl (by simp only [execOp, e83]; go_simp)
              · intro a1 w1 hG hF
                exact s_same rfl (wants0 rfl) (.tmp 84) (.inr rfl) (hF.dp 1 84 (by kernel_rfl))
              · intro a1 w1 hG hF
                exact s_old rfl (wantsG hF 2 85 true rfl (by kernel_rfl) rfl) (.tmp 10) (.inr rfl) (.slice A10 q q) (hF.ol 10 (by kernel_rfl)) rfl
              · intro a1 w1 hG hF
                obtain ⟨_, e86, rfl⟩ := hF.dp 3 86 (by kernel_rfl)
                exact s_str rfl (wantsG hF 2 85 true rfl (by kernel_rfl) rfl) 22 9 5 (.tmp 86) rfl Tryd.underlying22 Tryd.underlying5 Tryd.underlying9 _ _ _ (expandL K l q) e86 (((Gr.drew w7).trans hG).rd hr107) rfl
              · intro a1 w1 hG hF
                exact s_old rfl (wantsG hF 2 85 true rfl (by kernel_rfl) rfl) (.tmp 7) (.inr rfl) (.string ⟨(K).toArray⟩) (hF.ol 7 (by kernel_rfl)) rfl
              · intro a1 w1 hG hF
                exact s_old rfl (wantsG hF 2 85 true rfl (by kernel_rfl) rfl) (.tmp 8) (.inr rfl) (.string ⟨(l).toArray⟩) (hF.ol 8 (by kernel_rfl)) rfl
              · intro a1 w1 hG hF
                exact s_old rfl (wantsG hF 2 85 true rfl (by kernel_rfl) rfl) (.tmp 2) (.inr rfl) (.int .i64 ((q : Nat) : Int)) (hF.ol 2 (by kernel_rfl)) rfl
              · intro a1 w1 hG hF
                obtain ⟨_, e88, rfl⟩ := hF.dp 5 88 (by kernel_rfl)
                obtain ⟨_, e89, rfl⟩ := hF.dp 6 89 (by kernel_rfl)
                obtain ⟨_, e90, rfl⟩ := hF.dp 7 90 (by kernel_rfl)
                exact s_call rfl (wantsG hF 2 85 true rfl (by kernel_rfl) rfl) _ rfl _ _ (by simp only [execOp, resolve, invoke, List.map_toArray, List.map_cons, List.map_nil, e88, e89, e90]; go_simp) ((HRE.out w1 q hq).mono fun e w2 ⟨he, hb⟩ => ⟨_, he, rfl, hb⟩)
              · intro a1 w1 hG hF
                obtain ⟨_, e87, rfl⟩ := hF.dp 4 87 (by kernel_rfl)
                obtain ⟨_, e91, rfl⟩ := hF.dp 8 91 (by kernel_rfl)
                exact s_is rfl (wantsG hF 2 85 true rfl (by kernel_rfl) rfl) _ rfl (by simp only [execOp, e87, e91]; go_simp)
              · intro a1 w1 hG hF
                obtain ⟨_, e85, rfl⟩ := hF.dp 2 85 (by kernel_rfl)
                obtain ⟨_, e92, rfl⟩ := hF.dp 9 92 (by kernel_rfl)
                exact s_pick rfl (wants0 rfl) (.tmp 85) (.tmp 92) _ rfl e85 _ e92 rfl
              · intro a1 w1 hG hF
                exact s_same rfl (wants0 rfl) (.tmp 93) (.inl rfl) (hF.dp 10 93 (by kernel_rfl))
            · intro vs w1 hG hf
              have z6 : vs 11 = .bool true := hf.2.2.2.2.2.2.2.2.2.2.2.1
              clear hf
              simp only [putAll, Nat.zero_add, Nat.reduceAdd, z6]
              go_simp
              go_wp2_with fail
              go_ret
              exact ⟨rfl, hB8.trans (((Gr.drew w7).trans hG).mono hB8.size)⟩          
        · by_cases h5 : 8160 < z
          · have h6 : ¬ z < 0 := by omega
            go_upto_region 5 with fail
            go_wp2_with fail
            refine (HX.out w3 A1 c1 A2 c2 hc1 hc2 hA1 hr12 hr22 gw2).mono ?_
            rintro e w4 ⟨rfl, hB4⟩
            go_upto_region 6 with (refine wpList_new rfl 32 (.tmp 9) (.tmp 40) rfl _ (u8s E) rfl rfl rfl (by simp only [u8s_length, hEl]; rfl) (infoU8_32 E hEl) (u8s_oneCell _) ?_; intro w5 h9 hG5)
            have G5 : Gr w3 w5 := Gr.trans hB4 hG5
            have hr15 := G5.rd hr12
            have hr25 := G5.rd hr22
            have gw5 := gw2.gr G5
            have hB5 := hB2.trans (Below.mono G5 hB2.size)
            generalize w4.heap.size = g9 at h9 ⊢
            clear hB4 hG5 G5 hr12 hr22 gw2 hB2
            go_wp2_with fail
            refine (expand_no A1 k c1 A2 j c2 z (by omega) w5).mono ?_
            rintro e w6 ⟨rfl, hB6⟩
            have hr16 : Rd w6 A1 k (u8s K) := hr15.below hB6
            have hr26 : Rd w6 A2 j (u8s l) := hr25.below hB6
            have gw6 := gw5.gr hB6
            have h96 := h9.gr hB6
            have hr96 := Arr.rdAllS h96 hEl
            have hB7 := hB5.trans (hB6.mono hB5.size)
            clear hB6 hr15 hr25 gw5 h9 h96 hB5
            go_wp2_with fail
            refine wp_region_ssaL (by kernel_rfl) [IsV (.bool true), IsV (.bool false), IsV (.bool false), IsV (.slice (some ⟨g9, 0, none⟩) 32 32), IsV (.string ⟨(E).toArray⟩), IsV (.string ⟨(K).toArray⟩), IsV (.string ⟨(l).toArray⟩), IsV (.string ⟨(E).toArray⟩), IsV (.bool false), IsV (.bool false), IsV (.bool false), IsV (.slice A1 k c1), IsV (.string ⟨(K).toArray⟩), IsV (.string ⟨(K).toArray⟩), IsV (.bool false), IsV (.bool false), IsV (.bool false), IsV (.slice A2 j c2), IsV (.string ⟨(l).toArray⟩), IsV (.string ⟨(l).toArray⟩), IsV (.bool false), IsV (.bool false)] (by kernel_rfl) ?_ ?_ ?_
            · intro φ hφ v w1 w2 h hg
              simp only [List.mem_cons, List.not_mem_nil, or_false] at hφ
              rcases hφ with rfl | rfl | rfl | rfl | rfl | rfl | rfl | rfl | rfl | rfl | rfl | rfl | rfl | rfl | rfl | rfl | rfl | rfl | rfl | rfl | rfl | rfl
              all_goals first | exact h | exact RdV.gr h hg
            · refine ⟨?_, ?_, ?_, ?_, ?_, ?_, ?_, ?_, ?_, ?_, ?_, ?_, ?_, ?_, ?_, ?_, ?_, ?_, ?_, ?_, ?_, ?_, trivial⟩
              · intro a1 w1 hG hF
                exact s_call rfl (wants0 rfl) _ rfl _ _ (by simp only [execOp, resolve, invoke, List.map_toArray, List.map_nil]; go_simp) ((expands_any w1 (gw6.gr ((Gr.drew w6).trans hG))).mono fun e w2 ⟨he, hb⟩ => ⟨_, he, rfl, hb⟩)
              · intro a1 w1 hG hF
                obtain ⟨_, e48, rfl⟩ := hF.dp 0 48 (by kernel_rfl)
                exact s_is rfl (wants0 rfl) _ rfl (by simp only [execOp, e48]; go_simp)
              · intro a1 w1 hG hF
                exact s_same rfl (wants0 rfl) (.tmp 49) (.inr rfl) (hF.dp 1 49 (by kernel_rfl))
              · intro a1 w1 hG hF
                have e9 : a1.eval (.tmp 9) = .pointer (some ⟨g9, 0, none⟩) := hF.ol 9 (by kernel_rfl)
                exact s_is rfl (wantsG hF 2 50 false rfl (by kernel_rfl) rfl) _ rfl (by simp only [execOp, e9, Option.map, Sem.run_bind, run_cutAll (P := Tryd.prog) Tryd.underlying32 (by kernel_rfl), Result.andThen_ok, Sem.run_pure])
              · intro a1 w1 hG hF
                obtain ⟨_, e51, rfl⟩ := hF.dp 3 51 (by kernel_rfl)
                exact s_str rfl (wantsG hF 2 50 false rfl (by kernel_rfl) rfl) 22 9 5 (.tmp 51) rfl Tryd.underlying22 Tryd.underlying5 Tryd.underlying9 _ _ _ (E) e51 (((Gr.drew w6).trans hG).rd hr96) rfl
              · intro a1 w1 hG hF
                exact s_old rfl (wantsG hF 2 50 false rfl (by kernel_rfl) rfl) (.tmp 7) (.inr rfl) (.string ⟨(K).toArray⟩) (hF.ol 7 (by kernel_rfl)) rfl
              · intro a1 w1 hG hF
                exact s_old rfl (wantsG hF 2 50 false rfl (by kernel_rfl) rfl) (.tmp 8) (.inr rfl) (.string ⟨(l).toArray⟩) (hF.ol 8 (by kernel_rfl)) rfl
              · intro a1 w1 hG hF
                obtain ⟨_, e53, rfl⟩ := hF.dp 5 53 (by kernel_rfl)
                obtain ⟨_, e54, rfl⟩ := hF.dp 6 54 (by kernel_rfl)
                exact s_call rfl (wantsG hF 2 50 false rfl (by kernel_rfl) rfl) _ rfl _ _ (by simp only [execOp, resolve, invoke, List.map_toArray, List.map_cons, List.map_nil, e53, e54]; go_simp) ((HRS.out w1).mono fun e w2 ⟨he, hb⟩ => ⟨_, he, rfl, hb⟩)
              · intro a1 w1 hG hF
                obtain ⟨_, e52, rfl⟩ := hF.dp 4 52 (by kernel_rfl)
                obtain ⟨_, e55, rfl⟩ := hF.dp 7 55 (by kernel_rfl)
                exact s_is rfl (wantsG hF 2 50 false rfl (by kernel_rfl) rfl) _ rfl (by simp only [execOp, e52, e55]; go_simp)
              · intro a1 w1 hG hF
                obtain ⟨_, e50, rfl⟩ := hF.dp 2 50 (by kernel_rfl)
                obtain ⟨_, e56, rfl⟩ := hF.dp 8 56 (by kernel_rfl)
                exact s_pickF rfl (wants0 rfl) (.tmp 50) _ (.tmp 56) rfl e50 _ e56 rfl
              · intro a1 w1 hG hF
                exact s_same rfl (wants0 rfl) (.tmp 57) (.inr rfl) (hF.dp 9 57 (by kernel_rfl))
              · intro a1 w1 hG hF
                exact s_old rfl (wantsG hF 10 58 false rfl (by kernel_rfl) rfl) (.tmp 0) (.inr rfl) (.slice A1 k c1) (hF.ol 0 (by kernel_rfl)) rfl
              · intro a1 w1 hG hF
                obtain ⟨_, e59, rfl⟩ := hF.dp 11 59 (by kernel_rfl)
                exact s_str rfl (wantsG hF 10 58 false rfl (by kernel_rfl) rfl) 22 9 5 (.tmp 59) rfl Tryd.underlying22 Tryd.underlying5 Tryd.underlying9 _ _ _ (K) e59 (((Gr.drew w6).trans hG).rd hr16) rfl
              · intro a1 w1 hG hF
                exact s_old rfl (wantsG hF 10 58 false rfl (by kernel_rfl) rfl) (.tmp 7) (.inr rfl) (.string ⟨(K).toArray⟩) (hF.ol 7 (by kernel_rfl)) rfl
              · intro a1 w1 hG hF
                obtain ⟨_, e60, rfl⟩ := hF.dp 12 60 (by kernel_rfl)
                obtain ⟨_, e61, rfl⟩ := hF.dp 13 61 (by kernel_rfl)
                exact s_is rfl (wantsG hF 10 58 false rfl (by kernel_rfl) rfl) _ rfl (by simp only [execOp, e60, e61]; go_simp)
              · intro a1 w1 hG hF
                obtain ⟨_, e58, rfl⟩ := hF.dp 10 58 (by kernel_rfl)
                obtain ⟨_, e62, rfl⟩ := hF.dp 14 62 (by kernel_rfl)
                exact s_pickF rfl (wants0 rfl) (.tmp 58) _ (.tmp 62) rfl e58 _ e62 rfl
              · intro a1 w1 hG hF
                exact s_same rfl (wants0 rfl) (.tmp 63) (.inr rfl) (hF.dp 15 63 (by kernel_rfl))
              · intro a1 w1 hG hF
                exact s_old rfl (wantsG hF 16 64 false rfl (by kernel_rfl) rfl) (.tmp 1) (.inr rfl) (.slice A2 j c2) (hF.ol 1 (by kernel_rfl)) rfl
              · intro a1 w1 hG hF
                obtain ⟨_, e65, rfl⟩ := hF.dp 17 65 (by kernel_rfl)
                exact s_str rfl (wantsG hF 16 64 false rfl (by kernel_rfl) rfl) 22 9 5 (.tmp 65) rfl Tryd.underlying22 Tryd.underlying5 Tryd.underlying9 _ _ _ (l) e65 (((Gr.drew w6).trans hG).rd hr26) rfl
              · intro a1 w1 hG hF
                exact s_old rfl (wantsG hF 16 64 false rfl (by kernel_rfl) rfl) (.tmp 8) (.inr rfl) (.string ⟨(l).toArray⟩) (hF.ol 8 (by kernel_rfl)) rfl
              · intro a1 w1 hG hF
                obtain ⟨_, e66, rfl⟩ := hF.dp 18 66 (by kernel_rfl)
                obtain ⟨_, e67, rfl⟩ := hF.dp 19 67 (by kernel_rfl)
                exact s_is rfl (wantsG hF 16 64 false rfl (by kernel_rfl) rfl) _ rfl (by simp only [execOp, e66, e67]; go_simp)
              · intro a1 w1 hG hF
                obtain ⟨_, e64, rfl⟩ := hF.dp 16 64 (by kernel_rfl)
                obtain ⟨_, e68, rfl⟩ := hF.dp 20 68 (by kernel_rfl)
                exact s_pickF rfl (wants0 rfl) (.tmp 64) _ (.tmp 68) rfl e64 _ e68 rfl
            · intro vs w1 hG hf
              have z69 : vs 21 = .bool false := hf.2.2.2.2.2.2.2.2.2.2.2.2.2.2.2.2.2.2.2.2.2.1
              clear hf
              simp only [putAll, Nat.zero_add, Nat.reduceAdd, z69]
              have hG7 := (Gr.drew w6).trans hG
              have hB8 := hB7.trans (hG7.mono hB7.size)
              go_simp
              go_wp2_with fail
              go_ret
              exact ⟨rfl, hB8⟩            
          · obtain ⟨q, rfl⟩ : ∃ q : Nat, z = (q : Int) := ⟨z.toNat, by omega⟩
            have hq : q ≤ 8160 := by omega
            have hq1 : ¬ (q : Int) < 0 := by omega
            go_upto_region 5 with fail
            go_wp2_with fail
            refine (HX.out w3 A1 c1 A2 c2 hc1 hc2 hA1 hr12 hr22 gw2).mono ?_
            rintro e w4 ⟨rfl, hB4⟩
            go_upto_region 6 with (refine wpList_new rfl 32 (.tmp 9) (.tmp 40) rfl _ (u8s E) rfl rfl rfl (by simp only [u8s_length, hEl]; rfl) (infoU8_32 E hEl) (u8s_oneCell _) ?_; intro w5 h9 hG5)
            have G5 : Gr w3 w5 := Gr.trans hB4 hG5
            have hr15 := G5.rd hr12
            have hr25 := G5.rd hr22
            have gw5 := gw2.gr G5
            have hB5 := hB2.trans (Below.mono G5 hB2.size)
            generalize w4.heap.size = g9 at h9 ⊢
            clear hB4 hG5 G5 hr12 hr22 gw2 hB2
            go_wp2_with fail
            refine (HE.out w5 A1 c1 A2 c2 q hq hc1 hc2 hA1 hr15 hr25 gw5).mono ?_
            rintro e w6 ⟨A10, rfl, hr10, hB6⟩
            have hr16 : Rd w6 A1 k (u8s K) := hr15.below hB6
            have hr26 : Rd w6 A2 j (u8s l) := hr25.below hB6
            have gw6 := gw5.gr hB6
            have h96 := h9.gr hB6
            have hr96 := Arr.rdAllS h96 hEl
            have hB7 := hB5.trans (hB6.mono hB5.size)
            clear hB6 hr15 hr25 gw5 h9 h96 hB5
            go_wp2_with fail
            refine wp_region_ssaL (by kernel_rfl) [IsV (.bool true), IsV (.bool false), IsV (.bool false), IsV (.slice (some ⟨g9, 0, none⟩) 32 32), IsV (.string ⟨(E).toArray⟩), IsV (.string ⟨(K).toArray⟩), IsV (.string ⟨(l).toArray⟩), IsV (.string ⟨(E).toArray⟩), IsV (.bool false), IsV (.bool false), IsV (.bool false), IsV (.slice A1 k c1), IsV (.string ⟨(K).toArray⟩), IsV (.string ⟨(K).toArray⟩), IsV (.bool false), IsV (.bool false), IsV (.bool false), IsV (.slice A2 j c2), IsV (.string ⟨(l).toArray⟩), IsV (.string ⟨(l).toArray⟩), IsV (.bool false), IsV (.bool false)] (by kernel_rfl) ?_ ?_ ?_
            · intro φ hφ v w1 w2 h hg
              simp only [List.mem_cons, List.not_mem_nil, or_false] at hφ
              rcases hφ with rfl | rfl | rfl | rfl | rfl | rfl | rfl | rfl | rfl | rfl | rfl | rfl | rfl | rfl | rfl | rfl | rfl | rfl | rfl | rfl | rfl | rfl
              all_goals first | exact h | exact RdV.gr h hg
            · refine ⟨?_, ?_, ?_, ?_, ?_, ?_, ?_, ?_, ?_, ?_, ?_, ?_, ?_, ?_, ?_, ?_, ?_, ?_, ?_, ?_, ?_, ?_, trivial⟩
              · intro a1 w1 hG hF
                exact s_call rfl (wants0 rfl) _ rfl _ _ (by simp only [execOp, resolve, invoke, List.map_toArray, List.map_nil]; go_simp) ((expands_any w1 (gw6.gr ((Gr.drew w6).trans hG))).mono fun e w2 ⟨he, hb⟩ => ⟨_, he, rfl, hb⟩)
              · intro a1 w1 hG hF
                obtain ⟨_, e48, rfl⟩ := hF.dp 0 48 (by kernel_rfl)
                exact s_is rfl (wants0 rfl) _ rfl (by simp only [execOp, e48]; go_simp)
              · intro a1 w1 hG hF
                exact s_same rfl (wants0 rfl) (.tmp 49) (.inr rfl) (hF.dp 1 49 (by kernel_rfl))
              · intro a1 w1 hG hF
                have e9 : a1.eval (.tmp 9) = .pointer (some ⟨g9, 0, none⟩) := hF.ol 9 (by kernel_rfl)
                exact s_is rfl (wantsG hF 2 50 false rfl (by kernel_rfl) rfl) _ rfl (by simp only [execOp, e9, Option.map, Sem.run_bind, run_cutAll (P := Tryd.prog) Tryd.underlying32 (by kernel_rfl), Result.andThen_ok, Sem.run_pure])
              · intro a1 w1 hG hF
                obtain ⟨_, e51, rfl⟩ := hF.dp 3 51 (by kernel_rfl)
                exact s_str rfl (wantsG hF 2 50 false rfl (by kernel_rfl) rfl) 22 9 5 (.tmp 51) rfl Tryd.underlying22 Tryd.underlying5 Tryd.underlying9 _ _ _ (E) e51 (((Gr.drew w6).trans hG).rd hr96) rfl
              · intro a1 w1 hG hF
                exact s_old rfl (wantsG hF 2 50 false rfl (by kernel_rfl) rfl) (.tmp 7) (.inr rfl) (.string ⟨(K).toArray⟩) (hF.ol 7 (by kernel_rfl)) rfl
              · intro a1 w1 hG hF
                exact s_old rfl (wantsG hF 2 50 false rfl (by kernel_rfl) rfl) (.tmp 8) (.inr rfl) (.string ⟨(l).toArray⟩) (hF.ol 8 (by kernel_rfl)) rfl
              · intro a1 w1 hG hF
                obtain ⟨_, e53, rfl⟩ := hF.dp 5 53 (by kernel_rfl)
                obtain ⟨_, e54, rfl⟩ := hF.dp 6 54 (by kernel_rfl)
                exact s_call rfl (wantsG hF 2 50 false rfl (by kernel_rfl) rfl) _ rfl _ _ (by simp only [execOp, resolve, invoke, List.map_toArray, List.map_cons, List.map_nil, e53, e54]; go_simp) ((HRS.out w1).mono fun e w2 ⟨he, hb⟩ => ⟨_, he, rfl, hb⟩)
              · intro a1 w1 hG hF
                obtain ⟨_, e52, rfl⟩ := hF.dp 4 52 (by kernel_rfl)
                obtain ⟨_, e55, rfl⟩ := hF.dp 7 55 (by kernel_rfl)
                exact s_is rfl (wantsG hF 2 50 false rfl (by kernel_rfl) rfl) _ rfl (by simp only [execOp, e52, e55]; go_simp)
              · intro a1 w1 hG hF
                obtain ⟨_, e50, rfl⟩ := hF.dp 2 50 (by kernel_rfl)
                obtain ⟨_, e56, rfl⟩ := hF.dp 8 56 (by kernel_rfl)
                exact s_pickF rfl (wants0 rfl) (.tmp 50) _ (.tmp 56) rfl e50 _ e56 rfl
              · intro a1 w1 hG hF
                exact s_same rfl (wants0 rfl) (.tmp 57) (.inr rfl) (hF.dp 9 57 (by kernel_rfl))
              · intro a1 w1 hG hF
                exact s_old rfl (wantsG hF 10 58 false rfl (by kernel_rfl) rfl) (.tmp 0) (.inr rfl) (.slice A1 k c1) (hF.ol 0 (by kernel_rfl)) rfl
              · intro a1 w1 hG hF
                obtain ⟨_, e59, rfl⟩ := hF.dp 11 59 (by kernel_rfl)
                exact s_str rfl (wantsG hF 10 58 false rfl (by kernel_rfl) rfl) 22 9 5 (.tmp 59) rfl Tryd.underlying22 Tryd.underlying5 Tryd.underlying9 _ _ _ (K) e59 (((Gr.drew w6).trans hG).rd hr16) rfl
              · intro a1 w1 hG hF
                exact s_old rfl (wantsG hF 10 58 false rfl (by kernel_rfl) rfl) (.tmp 7) (.inr rfl) (.string ⟨(K).toArray⟩) (hF.ol 7 (by kernel_rfl)) rfl
              · intro a1 w1 hG hF
                obtain ⟨_, e60, rfl⟩ := hF.dp 12 60 (by kernel_rfl)
                obtain ⟨_, e61, rfl⟩ := hF.dp 13 61 (by kernel_rfl)
                exact s_is rfl (wantsG hF 10 58 false rfl (by kernel_rfl) rfl) _ rfl (by simp only [execOp, e60, e61]; go_simp)
              · intro a1 w1 hG hF
                obtain ⟨_, e58, rfl⟩ := hF.dp 10 58 (by kernel_rfl)
                obtain ⟨_, e62, rfl⟩ := hF.dp 14 62 (by kernel_rfl)
                exact s_pickF rfl (wants0 rfl) (.tmp 58) _ (.tmp 62) rfl e58 _ e62 rfl
              · intro a1 w1 hG hF
                exact s_same rfl (wants0 rfl) (.tmp 63) (.inr rfl) (hF.dp 15 63 (by kernel_rfl))
              · intro a1 w1 hG hF
                exact s_old rfl (wantsG hF 16 64 false rfl (by kernel_rfl) rfl) (.tmp 1) (.inr rfl) (.slice A2 j c2) (hF.ol 1 (by kernel_rfl)) rfl
              · intro a1 w1 hG hF
                obtain ⟨_, e65, rfl⟩ := hF.dp 17 65 (by kernel_rfl)
                exact s_str rfl (wantsG hF 16 64 false rfl (by kernel_rfl) rfl) 22 9 5 (.tmp 65) rfl Tryd.underlying22 Tryd.underlying5 Tryd.underlying9 _ _ _ (l) e65 (((Gr.drew w6).trans hG).rd hr26) rfl
              · intro a1 w1 hG hF
                exact s_old rfl (wantsG hF 16 64 false rfl (by kernel_rfl) rfl) (.tmp 8) (.inr rfl) (.string ⟨(l).toArray⟩) (hF.ol 8 (by kernel_rfl)) rfl
              · intro a1 w1 hG hF
                obtain ⟨_, e66, rfl⟩ := hF.dp 18 66 (by kernel_rfl)
                obtain ⟨_, e67, rfl⟩ := hF.dp 19 67 (by kernel_rfl)
                exact s_is rfl (wantsG hF 16 64 false rfl (by kernel_rfl) rfl) _ rfl (by simp only [execOp, e66, e67]; go_simp)
              · intro a1 w1 hG hF
                obtain ⟨_, e64, rfl⟩ := hF.dp 16 64 (by kernel_rfl)
                obtain ⟨_, e68, rfl⟩ := hF.dp 20 68 (by kernel_rfl)
                exact s_pickF rfl (wants0 rfl) (.tmp 64) _ (.tmp 68) rfl e64 _ e68 rfl
            · intro vs w1 hG hf
              have z69 : vs 21 = .bool false := hf.2.2.2.2.2.2.2.2.2.2.2.2.2.2.2.2.2.2.2.2.2.1
              clear hf
              simp only [putAll, Nat.zero_add, Nat.reduceAdd, z69]
              have hG7 := (Gr.drew w6).trans hG
              have hB8 := hB7.trans (hG7.mono hB7.size)
              have hr107 := hG7.rd hr10
              generalize w1 = w7 at hr107 hB8 ⊢
              clear hG7 hG
              go_simp
              go_wp2_with fail
              refine wp_region_ssaL (by kernel_rfl) [IsV (.int .i64 ((0 : Nat) : Int)), IsV (.bool true), IsV (.bool true), IsV (.slice A10 q q), IsV (.string ⟨(expandL K l q).toArray⟩), IsV (.string ⟨(K).toArray⟩), IsV (.string ⟨(l).toArray⟩), IsV (.int .i64 ((q : Nat) : Int)), IsV (.string ⟨(expandL K l q).toArray⟩), IsV (.bool true), IsV (.bool true), IsV (.bool true)] (by kernel_rfl) ?_ ?_ ?_
              · intro φ hφ v w1 w2 h hg
                simp only [List.mem_cons, List.not_mem_nil, or_false] at hφ
                rcases hφ with rfl | rfl | rfl | rfl | rfl | rfl | rfl | rfl | rfl | rfl | rfl | rfl
                all_goals first | exact h | exact RdV.gr h hg
              · refine ⟨?_, ?_, ?_, ?_, ?_, ?_, ?_, ?_, ?_, ?_, ?_, ?_, trivial⟩
                · intro a1 w1 hG hF
                  exact s_old rfl (wants0 rfl) (.tmp 11) (.inr rfl) (.int .i64 ((0 : Nat) : Int)) (hF.ol 11 (by kernel_rfl)) rfl
                · intro a1 w1 hG hF
                  obtain ⟨_, e83, rfl⟩ := hF.dp 0 83 (by kernel_rfl)
                  exact s_is rfl (wants0 rfl) _ rfl (by simp only [execOp, e83]; go_simp)
                · intro a1 w1 hG hF
                  exact s_same rfl (wants0 rfl) (.tmp 84) (.inr rfl) (hF.dp 1 84 (by kernel_rfl))
                · intro a1 w1 hG hF
                  exact s_old rfl (wantsG hF 2 85 true rfl (by kernel_rfl) rfl) (.tmp 10) (.inr rfl) (.slice A10 q q) (hF.ol 10 (by kernel_rfl)) rfl
                · intro a1 w1 hG hF
                  obtain ⟨_, e86, rfl⟩ := hF.dp 3 86 (by kernel_rfl)
                  exact s_str rfl (wantsG hF 2 85 true rfl (by kernel_rfl) rfl) 22 9 5 (.tmp 86) rfl Tryd.underlying22 Tryd.underlying5 Tryd.underlying9 _ _ _ (expandL K l q) e86 (((Gr.drew w7).trans hG).rd hr107) rfl
                · intro a1 w1 hG hF
                  exact s_old rfl (wantsG hF 2 85 true rfl (by kernel_rfl) rfl) (.tmp 7) (.inr rfl) (.string ⟨(K).toArray⟩) (hF.ol 7 (by kernel_rfl)) rfl
                · intro a1 w1 hG hF
                  exact s_old rfl (wantsG hF 2 85 true rfl (by kernel_rfl) rfl) (.tmp 8) (.inr rfl) (.string ⟨(l).toArray⟩) (hF.ol 8 (by kernel_rfl)) rfl
                · intro a1 w1 hG hF
                  exact s_old rfl (wantsG hF 2 85 true rfl (by kernel_rfl) rfl) (.tmp 2) (.inr rfl) (.int .i64 ((q : Nat) : Int)) (hF.ol 2 (by kernel_rfl)) rfl
                · intro a1 w1 hG hF
                  obtain ⟨_, e88, rfl⟩ := hF.dp 5 88 (by kernel_rfl)
                  obtain ⟨_, e89, rfl⟩ := hF.dp 6 89 (by kernel_rfl)
                  obtain ⟨_, e90, rfl⟩ := hF.dp 7 90 (by kernel_rfl)
                  exact s_call rfl (wantsG hF 2 85 true rfl (by kernel_rfl) rfl) _ rfl _ _ (by simp only [execOp, resolve, invoke, List.map_toArray, List.map_cons, List.map_nil, e88, e89, e90]; go_simp) ((HRE.out w1 q hq).mono fun e w2 ⟨he, hb⟩ => ⟨_, he, rfl, hb⟩)
                · intro a1 w1 hG hF
                  obtain ⟨_, e87, rfl⟩ := hF.dp 4 87 (by kernel_rfl)
                  obtain ⟨_, e91, rfl⟩ := hF.dp 8 91 (by kernel_rfl)
                  exact s_is rfl (wantsG hF 2 85 true rfl (by kernel_rfl) rfl) _ rfl (by simp only [execOp, e87, e91]; go_simp)
                · intro a1 w1 hG hF
                  obtain ⟨_, e85, rfl⟩ := hF.dp 2 85 (by kernel_rfl)
                  obtain ⟨_, e92, rfl⟩ := hF.dp 9 92 (by kernel_rfl)
                  exact s_pick rfl (wants0 rfl) (.tmp 85) (.tmp 92) _ rfl e85 _ e92 rfl
                · intro a1 w1 hG hF
                  exact s_same rfl (wants0 rfl) (.tmp 93) (.inl rfl) (hF.dp 10 93 (by kernel_rfl))
              · intro vs w1 hG hf
                have z6 : vs 11 = .bool true := hf.2.2.2.2.2.2.2.2.2.2.2.1
                clear hf
                simp only [putAll, Nat.zero_add, Nat.reduceAdd, z6]
                go_simp
                go_wp2_with fail
                go_ret
                exact ⟨rfl, hB8.trans (((Gr.drew w7).trans hG).mono hB8.size)⟩            
      · by_cases h5 : z < 0
        · go_upto_region 5 with fail
          go_wp2_with fail
          refine (HX.out w3 A1 c1 A2 c2 hc1 hc2 hA1 hr12 hr22 gw2).mono ?_
          rintro e w4 ⟨rfl, hB4⟩
          go_upto_region 6 with (refine wpList_new rfl 32 (.tmp 9) (.tmp 40) rfl _ (u8s E) rfl rfl rfl (by simp only [u8s_length, hEl]; rfl) (infoU8_32 E hEl) (u8s_oneCell _) ?_; intro w5 h9 hG5)
          have G5 : Gr w3 w5 := Gr.trans hB4 hG5
          have hr15 := G5.rd hr12
          have hr25 := G5.rd hr22
          have gw5 := gw2.gr G5
          have hB5 := hB2.trans (Below.mono G5 hB2.size)
          generalize w4.heap.size = g9 at h9 ⊢
          clear hB4 hG5 G5 hr12 hr22 gw2 hB2
          go_wp2_with fail
          refine (expand_no A1 k c1 A2 j c2 z (by omega) w5).mono ?_
          rintro e w6 ⟨rfl, hB6⟩
          have hr16 : Rd w6 A1 k (u8s K) := hr15.below hB6
          have hr26 : Rd w6 A2 j (u8s l) := hr25.below hB6
          have gw6 := gw5.gr hB6
          have h96 := h9.gr hB6
          have hr96 := Arr.rdAllS h96 hEl
          have hB7 := hB5.trans (hB6.mono hB5.size)
          clear hB6 hr15 hr25 gw5 h9 h96 hB5
          go_wp2_with fail
          refine wp_region_ssaL (by kernel_rfl) [IsV (.bool true), IsV (.bool false), IsV (.bool false), IsV (.slice (some ⟨g9, 0, none⟩) 32 32), IsV (.string ⟨(E).toArray⟩), IsV (.string ⟨(K).toArray⟩), IsV (.string ⟨(l).toArray⟩), IsV (.string ⟨(E).toArray⟩), IsV (.bool false), IsV (.bool false), IsV (.bool false), IsV (.slice A1 k c1), IsV (.string ⟨(K).toArray⟩), IsV (.string ⟨(K).toArray⟩), IsV (.bool false), IsV (.bool false), IsV (.bool false), IsV (.slice A2 j c2), IsV (.string ⟨(l).toArray⟩), IsV (.string ⟨(l).toArray⟩), IsV (.bool false), IsV (.bool false)] (by kernel_rfl) ?_ ?_ ?_
          · intro φ hφ v w1 w2 h hg
            simp only [List.mem_cons, List.not_mem_nil, or_false] at hφ
            rcases hφ with rfl | rfl | rfl | rfl | rfl | rfl | rfl | rfl | rfl | rfl | rfl | rfl | rfl | rfl | rfl | rfl | rfl | rfl | rfl | rfl | rfl | rfl
            all_goals first | exact h | exact RdV.gr h hg
          · refine ⟨?_, ?_, ?_, ?_, ?_, ?_, ?_, ?_, ?_, ?_, ?_, ?_, ?_, ?_, ?_, ?_, ?_, ?_, ?_, ?_, ?_, ?_, trivial⟩
            · intro a1 w1 hG hF
              exact s_call rfl (wants0 rfl) _ rfl _ _ (by simp only [execOp, resolve, invoke, List.map_toArray, List.map_nil]; go_simp) ((expands_any w1 (gw6.gr ((Gr.drew w6).trans hG))).mono fun e w2 ⟨he, hb⟩ => ⟨_, he, rfl, hb⟩)
            · intro a1 w1 hG hF
              obtain ⟨_, e48, rfl⟩ := hF.dp 0 48 (by kernel_rfl)
              exact s_is rfl (wants0 rfl) _ rfl (by simp only [execOp, e48]; go_simp)
            · intro a1 w1 hG hF
              exact s_same rfl (wants0 rfl) (.tmp 49) (.inr rfl) (hF.dp 1 49 (by kernel_rfl))
            · intro a1 w1 hG hF
              have e9 : a1.eval (.tmp 9) = .pointer (some ⟨g9, 0, none⟩) := hF.ol 9 (by kernel_rfl)
              exact s_is rfl (wantsG hF 2 50 false rfl (by kernel_rfl) rfl) _ rfl (by simp only [execOp, e9, Option.map, Sem.run_bind, run_cutAll (P := Tryd.prog) Tryd.underlying32 (by kernel_rfl), Result.andThen_ok, Sem.run_pure])
            · intro a1 w1 hG hF
              obtain ⟨_, e51, rfl⟩ := hF.dp 3 51 (by kernel_rfl)
              exact s_str rfl (wantsG hF 2 50 false rfl (by kernel_rfl) rfl) 22 9 5 (.tmp 51) rfl Tryd.underlying22 Tryd.underlying5 Tryd.underlying9 _ _ _ (E) e51 (((Gr.drew w6).trans hG).rd hr96) rfl
            · intro a1 w1 hG hF
              exact s_old rfl (wantsG hF 2 50 false rfl (by kernel_rfl) rfl) (.tmp 7) (.inr rfl) (.string ⟨(K).toArray⟩) (hF.ol 7 (by kernel_rfl)) rfl
            · intro a1 w1 hG hF
              exact s_old rfl (wantsG hF 2 50 false rfl (by kernel_rfl) rfl) (.tmp 8) (.inr rfl) (.string ⟨(l).toArray⟩) (hF.ol 8 (by kernel_rfl)) rfl
            · intro a1 w1 hG hF
              obtain ⟨_, e53, rfl⟩ := hF.dp 5 53 (by kernel_rfl)
              obtain ⟨_, e54, rfl⟩ := hF.dp 6 54 (by kernel_rfl)
              exact s_call rfl (wantsG hF 2 50 false rfl (by kernel_rfl) rfl) _ rfl _ _ (by simp only [execOp, resolve, invoke, List.map_toArray, List.map_cons, List.map_nil, e53, e54]; go_simp) ((HRS.out w1).mono fun e w2 ⟨he, hb⟩ => ⟨_, he, rfl, hb⟩)
            · intro a1 w1 hG hF
              obtain ⟨_, e52, rfl⟩ := hF.dp 4 52 (by kernel_rfl)
              obtain ⟨_, e55, rfl⟩ := hF.dp 7 55 (by kernel_rfl)
              exact s_is rfl (wantsG hF 2 50 false rfl (by kernel_rfl) rfl) _ rfl (by simp only [execOp, e52, e55]; go_simp)
            · intro a1 w1 hG hF
              obtain ⟨_, e50, rfl⟩ := hF.dp 2 50 (by kernel_rfl)
              obtain ⟨_, e56, rfl⟩ := hF.dp 8 56 (by kernel_rfl)
              exact s_pickF rfl (wants0 rfl) (.tmp 50) _ (.tmp 56) rfl e50 _ e56 rfl
            · intro a1 w1 hG hF
              exact s_same rfl (wants0 rfl) (.tmp 57) (.inr rfl) (hF.dp 9 57 (by kernel_rfl))
            · intro a1 w1 hG hF
              exact s_old rfl (wantsG hF 10 58 false rfl (by kernel_rfl) rfl) (.tmp 0) (.inr rfl) (.slice A1 k c1) (hF.ol 0 (by kernel_rfl)) rfl
            · intro a1 w1 hG hF
              obtain ⟨_, e59, rfl⟩ := hF.dp 11 59 (by kernel_rfl)
              exact s_str rfl (wantsG hF 10 58 false rfl (by kernel_rfl) rfl) 22 9 5 (.tmp 59) rfl Tryd.underlying22 Tryd.underlying5 Tryd.underlying9 _ _ _ (K) e59 (((Gr.drew w6).trans hG).rd hr16) rfl
            · intro a1 w1 hG hF
              exact s_old rfl (wantsG hF 10 58 false rfl (by kernel_rfl) rfl) (.tmp 7) (.inr rfl) (.string ⟨(K).toArray⟩) (hF.ol 7 (by kernel_rfl)) rfl
            · intro a1 w1 hG hF
              obtain ⟨_, e60, rfl⟩ := hF.dp 12 60 (by kernel_rfl)
              obtain ⟨_, e61, rfl⟩ := hF.dp 13 61 (by kernel_rfl)
              exact s_is rfl (wantsG hF 10 58 false rfl (by kernel_rfl) rfl) _ rfl (by simp only [execOp, e60, e61]; go_simp)
            · intro a1 w1 hG hF
              obtain ⟨_, e58, rfl⟩ := hF.dp 10 58 (by kernel_rfl)
              obtain ⟨_, e62, rfl⟩ := hF.dp 14 62 (by kernel_rfl)
              exact s_pickF rfl (wants0 rfl) (.tmp 58) _ (.tmp 62) rfl e58 _ e62 rfl
            · intro a1 w1 hG hF
              exact s_same rfl (wants0 rfl) (.tmp 63) (.inr rfl) (hF.dp 15 63 (by kernel_rfl))
            · intro a1 w1 hG hF
              exact s_old rfl (wantsG hF 16 64 false rfl (by kernel_rfl) rfl) (.tmp 1) (.inr rfl) (.slice A2 j c2) (hF.ol 1 (by kernel_rfl)) rfl
            · intro a1 w1 hG hF
              obtain ⟨_, e65, rfl⟩ := hF.dp 17 65 (by kernel_rfl)
              exact s_str rfl (wantsG hF 16 64 false rfl (by kernel_rfl) rfl) 22 9 5 (.tmp 65) rfl Tryd.underlying22 Tryd.underlying5 Tryd.underlying9 _ _ _ (l) e65 (((Gr.drew w6).trans hG).rd hr26) rfl
            · intro a1 w1 hG hF
              exact s_old rfl (wantsG hF 16 64 false rfl (by kernel_rfl) rfl) (.tmp 8) (.inr rfl) (.string ⟨(l).toArray⟩) (hF.ol 8 (by kernel_rfl)) rfl
            · intro a1 w1 hG hF
              obtain ⟨_, e66, rfl⟩ := hF.dp 18 66 (by kernel_rfl)
              obtain ⟨_, e67, rfl⟩ := hF.dp 19 67 (by kernel_rfl)
              exact s_is rfl (wantsG hF 16 64 false rfl (by kernel_rfl) rfl) _ rfl (by simp only [execOp, e66, e67]; go_simp)
            · intro a1 w1 hG hF
              obtain ⟨_, e64, rfl⟩ := hF.dp 16 64 (by kernel_rfl)
              obtain ⟨_, e68, rfl⟩ := hF.dp 20 68 (by kernel_rfl)
              exact s_pickF rfl (wants0 rfl) (.tmp 64) _ (.tmp 68) rfl e64 _ e68 rfl
          · intro vs w1 hG hf
            have z69 : vs 21 = .bool false := hf.2.2.2.2.2.2.2.2.2.2.2.2.2.2.2.2.2.2.2.2.2.1
            clear hf
            simp only [putAll, Nat.zero_add, Nat.reduceAdd, z69]
            have hG7 := (Gr.drew w6).trans hG
            have hB8 := hB7.trans (hG7.mono hB7.size)
            go_simp
            go_wp2_with fail
            go_ret
            exact ⟨rfl, hB8⟩          
        · obtain ⟨q, rfl⟩ : ∃ q : Nat, z = (q : Int) := ⟨z.toNat, by omega⟩
          have hq : q ≤ 8160 := by omega
          have hq2 : ¬ (8160 : Int) < (q : Int) := by omega
          go_upto_region 5 with fail
          go_wp2_with fail
          refine (HX.out w3 A1 c1 A2 c2 hc1 hc2 hA1 hr12 hr22 gw2).mono ?_
          rintro e w4 ⟨rfl, hB4⟩
          go_upto_region 6 with (refine wpList_new rfl 32 (.tmp 9) (.tmp 40) rfl _ (u8s E) rfl rfl rfl (by simp only [u8s_length, hEl]; rfl) (infoU8_32 E hEl) (u8s_oneCell _) ?_; intro w5 h9 hG5)
          have G5 : Gr w3 w5 := Gr.trans hB4 hG5
          have hr15 := G5.rd hr12
          have hr25 := G5.rd hr22
          have gw5 := gw2.gr G5
          have hB5 := hB2.trans (Below.mono G5 hB2.size)
          generalize w4.heap.size = g9 at h9 ⊢
          clear hB4 hG5 G5 hr12 hr22 gw2 hB2
          go_wp2_with fail
          refine (HE.out w5 A1 c1 A2 c2 q hq hc1 hc2 hA1 hr15 hr25 gw5).mono ?_
          rintro e w6 ⟨A10, rfl, hr10, hB6⟩
          have hr16 : Rd w6 A1 k (u8s K) := hr15.below hB6
          have hr26 : Rd w6 A2 j (u8s l) := hr25.below hB6
          have gw6 := gw5.gr hB6
          have h96 := h9.gr hB6
          have hr96 := Arr.rdAllS h96 hEl
          have hB7 := hB5.trans (hB6.mono hB5.size)
          clear hB6 hr15 hr25 gw5 h9 h96 hB5
          go_wp2_with fail
          refine wp_region_ssaL (by kernel_rfl) [IsV (.bool true), IsV (.bool false), IsV (.bool false), IsV (.slice (some ⟨g9, 0, none⟩) 32 32), IsV (.string ⟨(E).toArray⟩), IsV (.string ⟨(K).toArray⟩), IsV (.string ⟨(l).toArray⟩), IsV (.string ⟨(E).toArray⟩), IsV (.bool false), IsV (.bool false), IsV (.bool false), IsV (.slice A1 k c1), IsV (.string ⟨(K).toArray⟩), IsV (.string ⟨(K).toArray⟩), IsV (.bool false), IsV (.bool false), IsV (.bool false), IsV (.slice A2 j c2), IsV (.string ⟨(l).toArray⟩), IsV (.string ⟨(l).toArray⟩), IsV (.bool false), IsV (.bool false)] (by kernel_rfl) ?_ ?_ ?_
          · intro φ hφ v w1 w2 h hg
            simp only [List.mem_cons, List.not_mem_nil, or_false] at hφ
            rcases hφ with rfl | rfl | rfl | rfl | rfl | rfl | rfl | rfl | rfl | rfl | rfl | rfl | rfl | rfl | rfl | rfl | rfl | rfl | rfl | rfl | rfl | rfl
            all_goals first | exact h | exact RdV.gr h hg
          · refine ⟨?_, ?_, ?_, ?_, ?_, ?_, ?_, ?_, ?_, ?_, ?_, ?_, ?_, ?_, ?_, ?_, ?_, ?_, ?_, ?_, ?_, ?_, trivial⟩
            · intro a1 w1 hG hF
              exact s_call rfl (wants0 rfl) _ rfl _ _ (by simp only [execOp, resolve, invoke, List.map_toArray, List.map_nil]; go_simp) ((expands_any w1 (gw6.gr ((Gr.drew w6).trans hG))).mono fun e w2 ⟨he, hb⟩ => ⟨_, he, rfl, hb⟩)
            · intro a1 w1 hG hF
              obtain ⟨_, e48, rfl⟩ := hF.dp 0 48 (by kernel_rfl)
              exact s_is rfl (wants0 rfl) _ rfl (by simp only [execOp, e48]; go_simp)
            · intro a1 w1 hG hF
              exact s_same rfl (wants0 rfl) (.tmp 49) (.inr rfl) (hF.dp 1 49 (by kernel_rfl))
            · intro a1 w1 hG hF
              have e9 : a1.eval (.tmp 9) = .pointer (some ⟨g9, 0, none⟩) := hF.ol 9 (by kernel_rfl)
              exact s_is rfl (wantsG hF 2 50 false rfl (by kernel_rfl) rfl) _ rfl (by simp only [execOp, e9, Option.map, Sem.run_bind, run_cutAll (P := Tryd.prog) Tryd.underlying32 (by kernel_rfl), Result.andThen_ok, Sem.run_pure])
            · intro a1 w1 hG hF
              obtain ⟨_, e51, rfl⟩ := hF.dp 3 51 (by kernel_rfl)
              exact s_str rfl (wantsG hF 2 50 false rfl (by kernel_rfl) rfl) 22 9 5 (.tmp 51) rfl Tryd.underlying22 Tryd.underlying5 Tryd.underlying9 _ _ _ (E) e51 (((Gr.drew w6).trans hG).rd hr96) rfl
            · intro a1 w1 hG hF
              exact s_old rfl (wantsG hF 2 50 false rfl (by kernel_rfl) rfl) (.tmp 7) (.inr rfl) (.string ⟨(K).toArray⟩) (hF.ol 7 (by kernel_rfl)) rfl
            · intro a1 w1 hG hF
              exact s_old rfl (wantsG hF 2 50 false rfl (by kernel_rfl) rfl) (.tmp 8) (.inr rfl) (.string ⟨(l).toArray⟩) (hF.ol 8 (by kernel_rfl)) rfl
            · intro a1 w1 hG hF
              obtain ⟨_, e53, rfl⟩ := hF.dp 5 53 (by kernel_rfl)
              obtain ⟨_, e54, rfl⟩ := hF.dp 6 54 (by kernel_rfl)
              exact s_call rfl (wantsG hF 2 50 false rfl (by kernel_rfl) rfl) _ rfl _ _ (by simp only [execOp, resolve, invoke, List.map_toArray, List.map_cons, List.map_nil, e53, e54]; go_simp) ((HRS.out w1).mono fun e w2 ⟨he, hb⟩ => ⟨_, he, rfl, hb⟩)
            · intro a1 w1 hG hF
              obtain ⟨_, e52, rfl⟩ := hF.dp 4 52 (by kernel_rfl)
              obtain ⟨_, e55, rfl⟩ := hF.dp 7 55 (by kernel_rfl)
              exact s_is rfl (wantsG hF 2 50 false rfl (by kernel_rfl) rfl) _ rfl (by simp only [execOp, e52, e55]; go_simp)
            · intro a1 w1 hG hF
              obtain ⟨_, e50, rfl⟩ := hF.dp 2 50 (by kernel_rfl)
              obtain ⟨_, e56, rfl⟩ := hF.dp 8 56 (by kernel_rfl)
              exact s_pickF rfl (wants0 rfl) (.tmp 50) _ (.tmp 56) rfl e50 _ e56 rfl
            · intro a1 w1 hG hF
              exact s_same rfl (wants0 rfl) (.tmp 57) (.inr rfl) (hF.dp 9 57 (by kernel_rfl))
            · intro a1 w1 hG hF
              exact s_old rfl (wantsG hF 10 58 false rfl (by kernel_rfl) rfl) (.tmp 0) (.inr rfl) (.slice A1 k c1) (hF.ol 0 (by kernel_rfl)) rfl
            · intro a1 w1 hG hF
              obtain ⟨_, e59, rfl⟩ := hF.dp 11 59 (by kernel_rfl)
              exact s_str rfl (wantsG hF 10 58 false rfl (by kernel_rfl) rfl) 22 9 5 (.tmp 59) rfl Tryd.underlying22 Tryd.underlying5 Tryd.underlying9 _ _ _ (K) e59 (((Gr.drew w6).trans hG).rd hr16) rfl
            · intro a1 w1 hG hF
              exact s_old rfl (wantsG hF 10 58 false rfl (by kernel_rfl) rfl) (.tmp 7) (.inr rfl) (.string ⟨(K).toArray⟩) (hF.ol 7 (by kernel_rfl)) rfl
            · intro a1 w1 hG hF
              obtain ⟨_, e60, rfl⟩ := hF.dp 12 60 (by kernel_rfl)
              obtain ⟨_, e61, rfl⟩ := hF.dp 13 61 (by kernel_rfl)
              exact s_is rfl (wantsG hF 10 58 false rfl (by kernel_rfl) rfl) _ rfl (by simp only [execOp, e60, e61]; go_simp)
            · intro a1 w1 hG hF
              obtain ⟨_, e58, rfl⟩ := hF.dp 10 58 (by kernel_rfl)
              obtain ⟨_, e62, rfl⟩ := hF.dp 14 62 (by kernel_rfl)
              exact s_pickF rfl (wants0 rfl) (.tmp 58) _ (.tmp 62) rfl e58 _ e62 rfl
            · intro a1 w1 hG hF
              exact s_same rfl (wants0 rfl) (.tmp 63) (.inr rfl) (hF.dp 15 63 (by kernel_rfl))
            · intro a1 w1 hG hF
              exact s_old rfl (wantsG hF 16 64 false rfl (by kernel_rfl) rfl) (.tmp 1) (.inr rfl) (.slice A2 j c2) (hF.ol 1 (by kernel_rfl)) rfl
            · intro a1 w1 hG hF
              obtain ⟨_, e65, rfl⟩ := hF.dp 17 65 (by kernel_rfl)
              exact s_str rfl (wantsG hF 16 64 false rfl (by kernel_rfl) rfl) 22 9 5 (.tmp 65) rfl Tryd.underlying22 Tryd.underlying5 Tryd.underlying9 _ _ _ (l) e65 (((Gr.drew w6).trans hG).rd hr26) rfl
            · intro a1 w1 hG hF
              exact s_old rfl (wantsG hF 16 64 false rfl (by kernel_rfl) rfl) (.tmp 8) (.inr rfl) (.string ⟨(l).toArray⟩) (hF.ol 8 (by kernel_rfl)) rfl
            · intro a1 w1 hG hF
              obtain ⟨_, e66, rfl⟩ := hF.dp 18 66 (by kernel_rfl)
              obtain ⟨_, e67, rfl⟩ := hF.dp 19 67 (by kernel_rfl)
              exact s_is rfl (wantsG hF 16 64 false rfl (by kernel_rfl) rfl) _ rfl (by simp only [execOp, e66, e67]; go_simp)
            · intro a1 w1 hG hF
              obtain ⟨_, e64, rfl⟩ := hF.dp 16 64 (by kernel_rfl)
              obtain ⟨_, e68, rfl⟩ := hF.dp 20 68 (by kernel_rfl)
              exact s_pickF rfl (wants0 rfl) (.tmp 64) _ (.tmp 68) rfl e64 _ e68 rfl
          · intro vs w1 hG hf
            have z69 : vs 21 = .bool false := hf.2.2.2.2.2.2.2.2.2.2.2.2.2.2.2.2.2.2.2.2.2.1
            clear hf
            simp only [putAll, Nat.zero_add, Nat.reduceAdd, z69]
            have hG7 := (Gr.drew w6).trans hG
            have hB8 := hB7.trans (hG7.mono hB7.size)
            have hr107 := hG7.rd hr10
            generalize w1 = w7 at hr107 hB8 ⊢
            clear hG7 hG
            go_simp
            go_wp2_with fail
            refine wp_region_ssaL (by kernel_rfl) [IsV (.int .i64 ((0 : Nat) : Int)), IsV (.bool true), IsV (.bool true), IsV (.slice A10 q q), IsV (.string ⟨(expandL K l q).toArray⟩), IsV (.string ⟨(K).toArray⟩), IsV (.string ⟨(l).toArray⟩), IsV (.int .i64 ((q : Nat) : Int)), IsV (.string ⟨(expandL K l q).toArray⟩), IsV (.bool true), IsV (.bool true), IsV (.bool true)] (by kernel_rfl) ?_ ?_ ?_
            · intro φ hφ v w1 w2 h hg
              simp only [List.mem_cons, List.not_mem_nil, or_false] at hφ
              rcases hφ with rfl | rfl | rfl | rfl | rfl | rfl | rfl | rfl | rfl | rfl | rfl | rfl
              all_goals first | exact h | exact RdV.gr h hg
            · refine ⟨?_, ?_, ?_, ?_, ?_, ?_, ?_, ?_, ?_, ?_, ?_, ?_, trivial⟩
              · intro a1 w1 hG hF
                exact s_old rfl (wants0 rfl) (.tmp 11) (.inr rfl) (.int .i64 ((0 : Nat) : Int)) (hF.ol 11 (by kernel_rfl)) rfl
              · intro a1 w1 hG hF
                obtain ⟨_, e83, rfl⟩ := hF.dp 0 83 (by kernel_rfl)
                exact s_is rfl (wants0 rfl) _ rfl (by simp only [execOp, e83]; go_simp)
              · intro a1 w1 hG hF
                exact s_same rfl (wants0 rfl) (.tmp 84) (.inr rfl) (hF.dp 1 84 (by kernel_rfl))
              · intro a1 w1 hG hF
                exact s_old rfl (wantsG hF 2 85 true rfl (by kernel_rfl) rfl) (.tmp 10) (.inr rfl) (.slice A10 q q) (hF.ol 10 (by kernel_rfl)) rfl
              · intro a1 w1 hG hF
                obtain ⟨_, e86, rfl⟩ := hF.dp 3 86 (by kernel_rfl)
                exact s_str rfl (wantsG hF 2 85 true rfl (by kernel_rfl) rfl) 22 9 5 (.tmp 86) rfl Tryd.underlying22 Tryd.underlying5 Tryd.underlying9 _ _ _ (expandL K l q) e86 (((Gr.drew w7).trans hG).rd hr107) rfl
              · intro a1 w1 hG hF
                exact s_old rfl (wantsG hF 2 85 true rfl (by kernel_rfl) rfl) (.tmp 7) (.inr rfl) (.string ⟨(K).toArray⟩) (hF.ol 7 (by kernel_rfl)) rfl
              · intro a1 w1 hG hF
                exact s_old rfl (wantsG hF 2 85 true rfl (by kernel_rfl) rfl) (.tmp 8) (.inr rfl) (.string ⟨(l).toArray⟩) (hF.ol 8 (by kernel_rfl)) rfl
              · intro a1 w1 hG hF
                exact s_old rfl (wantsG hF 2 85 true rfl (by kernel_rfl) rfl) (.tmp 2) (.inr rfl) (.int .i64 ((q : Nat) : Int)) (hF.ol 2 (by kernel_rfl)) rfl
              · intro a1 w1 hG hF
                obtain ⟨_, e88, rfl⟩ := hF.dp 5 88 (by kernel_rfl)
                obtain ⟨_, e89, rfl⟩ := hF.dp 6 89 (by kernel_rfl)
                obtain ⟨_, e90, rfl⟩ := hF.dp 7 90 (by kernel_rfl)
                exact s_call rfl (wantsG hF 2 85 true rfl (by kernel_rfl) rfl) _ rfl _ _ (by simp only [execOp, resolve, invoke, List.map_toArray, List.map_cons, List.map_nil, e88, e89, e90]; go_simp) ((HRE.out w1 q hq).mono fun e w2 ⟨he, hb⟩ => ⟨_, he, rfl, hb⟩)
              · intro a1 w1 hG hF
                obtain ⟨_, e87, rfl⟩ := hF.dp 4 87 (by kernel_rfl)
                obtain ⟨_, e91, rfl⟩ := hF.dp 8 91 (by kernel_rfl)
                exact s_is rfl (wantsG hF 2 85 true rfl (by kernel_rfl) rfl) _ rfl (by simp only [execOp, e87, e91]; go_simp)
              · intro a1 w1 hG hF
                obtain ⟨_, e85, rfl⟩ := hF.dp 2 85 (by kernel_rfl)
                obtain ⟨_, e92, rfl⟩ := hF.dp 9 92 (by kernel_rfl)
                exact s_pick rfl (wants0 rfl) (.tmp 85) (.tmp 92) _ rfl e85 _ e92 rfl
              · intro a1 w1 hG hF
                exact s_same rfl (wants0 rfl) (.tmp 93) (.inl rfl) (hF.dp 10 93 (by kernel_rfl))
            · intro vs w1 hG hf
              have z6 : vs 11 = .bool true := hf.2.2.2.2.2.2.2.2.2.2.2.1
              clear hf
              simp only [putAll, Nat.zero_add, Nat.reduceAdd, z6]
              go_simp
              go_wp2_with fail
              go_ret
              exact ⟨rfl, hB8.trans (((Gr.drew w7).trans hG).mono hB8.size)⟩          
end Go.Proofs.YtmmjjjdocanmfaaDoor

