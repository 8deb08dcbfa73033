/- The walk of the ring's New. No condition. -/
import Derived.Test.YtmcnnjcbgbdeeaaDoorRNewR
namespace Go.Proofs.YtmcnnjcbgbdeeaaDoor
open Go.RowKit
set_option maxRecDepth 100000 in
set_option maxHeartbeats 4000000 in
theorem new_no (reps points : Int) (h : reps < 1 ∨ 8 < reps ∨ points < 1 ∨ 64 < points) (w : World) :
    Calls Tryd.prog 7 #[.int .i64 reps, .int .i64 points] w fun e w' => e = .returned (.tuple #[.pointer none, .int .i64 1]) ∧ w = w' := by
  rcases Int.lt_or_le reps 1 with h1 | h1
  · clear h
    go_enter Tryd.func7, Tryd.ntmps7
    go_wp2_with fail
    refine bodyPost_ret (results_tmp2 rfl _ _ _) rfl ?_
    exact ⟨rfl, rfl⟩
  · have g1 : ¬ reps < 1 := by omega
    rcases Int.lt_or_le 8 reps with h2 | h2
    · clear h
      go_enter Tryd.func7, Tryd.ntmps7
      go_wp2_with fail
      refine bodyPost_ret (results_tmp2 rfl _ _ _) rfl ?_
      exact ⟨rfl, rfl⟩
    · have g2 : ¬ 8 < reps := by omega
      rcases Int.lt_or_le points 1 with h3 | h3
      · clear h
        go_enter Tryd.func7, Tryd.ntmps7
        go_wp2_with fail
        refine bodyPost_ret (results_tmp2 rfl _ _ _) rfl ?_
        exact ⟨rfl, rfl⟩
      · have g3 : ¬ points < 1 := by omega
        have h4 : 64 < points := by omega
        clear h
        go_enter Tryd.func7, Tryd.ntmps7
        go_wp2_with fail
        refine bodyPost_ret (results_tmp2 rfl _ _ _) rfl ?_
        exact ⟨rfl, rfl⟩
/-- Where the making stands: so many points lie there. -/
def NewR (reps : Nat) (gR B : Nat) (L : List (Nat × Nat × Nat)) (w wr : World) : Prop := ∃ (A : Option Addr) (c : Nat), Arr wr gR 49 [.int .i64 (reps : Int), .slice A L.length c] ∧ wr.ownsRow B 53 3 (.slice A L.length c) L.length (L.flatMap encP) ∧ Below w.heap.size w wr ∧ B ≤ wr.heap.size
def NewO (reps points gR B : Nat) (w : World) (i : Value) (wr : World) : Prop := ∃ r : Nat, r ≤ reps ∧ i = .int .i64 (r : Int) ∧ NewR reps gR B (ringL points r) w wr
def NewI (reps points gR B r : Nat) (w : World) (i : Value) (wr : World) : Prop := ∃ p : Nat, p ≤ points ∧ i = .int .i64 (p : Int) ∧ NewR reps gR B (ringL points r ++ ptsOf r p) w wr
set_option maxRecDepth 100000 in
set_option maxHeartbeats 16000000 in
theorem new_any (reps points : Nat) (h1 : 1 ≤ reps) (h2 : reps ≤ 8) (h3 : 1 ≤ points) (h4 : points ≤ 64) (w : World) (gw : Glob w) :
    Calls Tryd.prog 7 #[.int .i64 (reps : Int), .int .i64 (points : Int)] w fun e w' => ∃ gR, e = .returned (.tuple #[.pointer (some ⟨gR, 0, none⟩), .int .i64 0]) ∧ RingAt w' gR reps points ∧ Gr w w' := by
  obtain ⟨iP, zP, hiP, hzP, hP1, hP2, hP3⟩ : ∃ i z, Tryd.prog.info? 53 = some i ∧ i.zero = some z ∧ i.size = 3 ∧ i.bytes = 24 ∧ z.cells.size = 3 := by
    cases hie : Tryd.prog.info? 53 with
    | none => have := infoPt; rw [hie] at this; cases this
    | some ie =>
      have hq := infoPt
      rw [hie] at hq
      simp only [Option.map_some, Option.some.injEq, Prod.mk.injEq] at hq
      obtain ⟨q1, q2, q3⟩ := hq
      cases hz : ie.zero with
      | none => rw [hz] at q3; cases q3
      | some z =>
        rw [hz] at q3
        exact ⟨ie, z, rfl, hz, q1, q2, by simpa using q3⟩
  have a1 : ¬ (reps : Int) < 1 := by omega
  have a2 : ¬ 8 < (reps : Int) := by omega
  have a3 : ¬ (points : Int) < 1 := by omega
  have a4 : ¬ 64 < (points : Int) := by omega
  have hR0 : Arr (w.alloc (.cells #[.int .i64 (reps : Int), .slice none 0 0] 49)) w.heap.size 49 [.int .i64 (reps : Int), .slice none 0 0] := Arr.newAt rfl rfl
  have G0 : Gr w (w.alloc (.cells #[.int .i64 (reps : Int), .slice none 0 0] 49)) := Gr.alloc _ _
  have hgw := Lib.hid gw
  clear gw
  go_enter Tryd.func7, Tryd.ntmps7
  go_upto_region 4 with fail
  change Code.wp _ _ _ _ (w.alloc (.cells #[.int .i64 (reps : Int), .slice none 0 0] 49))
  generalize w.alloc (.cells #[.int .i64 (reps : Int), .slice none 0 0] 49) = w0 at hR0 G0 ⊢
  obtain ⟨gR, hgR⟩ : ∃ g, g = w.heap.size := ⟨_, rfl⟩
  rw [← hgR] at hR0
  have HgR : Hid (w.heap.size ≤ gR) := by show _ ≤ _; omega
  simp only [← hgR]
  have hBw : w.heap.size ≤ w0.heap.size := G0.size
  clear hgR
  go_upto_region 5 with fail
  go_simp
  go_loopw [28] (fun i wr => NewO reps points gR w.heap.size w i wr) (fun i _ => reps - (intOf i).toNat)
  case atStart => exact ⟨0, Nat.zero_le _, rfl, none, 0, hR0, ⟨rfl, .inl ⟨rfl, rfl⟩⟩, G0, hBw⟩
  case round =>
    obtain ⟨r, hrr, rfl, A0, c0, hA0, ho0, hB0, hs0⟩ := hrel
    by_cases hlt : r < reps
    · have hri : (r : Int) < (reps : Int) := by omega
      go_upto_region 8 with fail
      go_simp
      go_loopw [32] (fun i wr => NewI reps points gR w.heap.size r w i wr) (fun i _ => points - (intOf i).toNat)
      case atStart => exact ⟨0, Nat.zero_le _, rfl, A0, c0, by simpa [ptsOf] using hA0, by simpa [ptsOf] using ho0, hB0, hs0⟩
      case round =>
        obtain ⟨p, hpp, rfl, A, c, hA, ho, hB, hs⟩ := hrel
        by_cases hlp : p < points
        · have hpi : (p : Int) < (points : Int) := by omega
          have hr7 : (r : Int) ≤ 7 := by omega
          have hp63 : (p : Int) ≤ 63 := by omega
          obtain ⟨L, hL⟩ : ∃ L, L = ringL points r ++ ptsOf r p := ⟨_, rfl⟩
          have hLs : L ++ [(atP r p, r, p)] = ringL points r ++ ptsOf r (p + 1) := by rw [ptsOf_succ, hL, List.append_assoc]
          have hLn : L.length ≤ 511 := by
            have : r * points ≤ 7 * 64 := Nat.mul_le_mul (by omega) h4
            rw [hL, List.length_append, ringL_length, ptsOf_length]; omega
          have HLs := Lib.hid hLs
          rw [← hL] at hA ho
          clear hL hLs
          generalize wr = w3 at hA ho hB hs ⊢
          have hcv1 := Lib.run_convert_bytes_const (P := Tryd.prog) w3 42 5 #[.int .u8 114, .int .u8 105, .int .u8 110, .int .u8 103] 4 4 Tryd.underlying42 Tryd.underlying5
          have gw3 : Glob w3 := hgw.out.gr hB
          have HS := Lib.hid (shaSum_any _ 2 2 (ptP w3.heap.size r p) (by omega) (ringText r p) (ptP_all _ _ _) (by simp [ringText]) _ (parts_pt w3 5 42 (4, 5) (0, 0) r p (by omega) (by omega)) (gw3.gr (((Gr.alloc _ _).trans (Gr.alloc _ _)).trans (Gr.alloc _ _))))
          obtain ⟨D, hD⟩ : ∃ D, D = shaL (ringText r p) := ⟨_, rfl⟩
          have hDl : D.length = 32 := by rw [hD]; exact shaL_length _
          have hDa : beNat (D.take 8) = atP r p := by rw [hD]; rfl
          rw [← hD] at HS
          clear hD gw3
          go_wp2_with fail
          go_at_call 16
          refine HS.out.mono ?_
          rintro e w4 ⟨rfl, hB4⟩
          have hG4 : Gr w3 w4 := ((((Below.refl _ _).alloc (by omega) _).alloc (by simp only [asz]; omega) _).alloc (by simp only [asz]; omega) _).trans (hB4.mono (by simp only [asz]; omega))
          clear hB4 HS hcv1
          go_wp2_with first
            | (refine wpList_new rfl 22 (.tmp 9) (.tmp 43) rfl _ (u8s D) rfl rfl rfl (by simp only [u8s_length, hDl]; rfl) (infoU8_32 D hDl) (u8s_oneCell _) ?_; intro w5 h9 hG5)
          obtain ⟨g9, hg9⟩ : ∃ g, g = w4.heap.size := ⟨_, rfl⟩
          rw [← hg9] at h9
          simp only [← hg9]
          have hG35 := Gr.trans hG4 hG5
          have hA5 := hA.gr hG35
          have ho5 := Gr.own hG35 ho
          have hB5 : Below w.heap.size w w5 := Below.trans hB (hG35.mono hs)
          have hs5 : w.heap.size ≤ w5.heap.size := Nat.le_trans hs hG35.size
          have hl5 := own_lt ho5
          have HPl : Hid (∀ w A c, Rd w A 32 (u8s D) → 32 ≤ c → Calls Tryd.prog 17 #[.slice A 32 c] w fun e w' => e = .returned (.int .u64 (atP r p : Nat)) ∧ w = w') := by
            intro w A c h hc
            rw [← hDa]
            exact place_any A 32 c D w h (by omega) hc
          clear hg9 hA ho hB hs hG4 hG5 hG35 hDa
          refine wp_region_cutG (NP w.heap.size A L.length c (L.flatMap encP) (encP (atP r p, r, p))) (NP.refl _ _ _ _ _ _) (fun _ _ _ => NP.trans) (by kernel_rfl) [IsV (.pointer (some ⟨gR, 0, none⟩)), IsV (.pointer (some ⟨gR, 0, none⟩)), IsV (.pointer (some ⟨gR, 0, none⟩)), IsV (.pointer (some ⟨gR, 1, none⟩)), IsV (.slice A L.length c), IsV (.slice (some ⟨g9, 0, none⟩) 32 32), IsV (.int .u64 (atP r p : Nat)), IsV (.int .i64 (r : Int)), IsV (.int .i64 (p : Int)), IsV (.agg #[.int .u64 (atP r p : Nat), .int .i64 (r : Int), .int .i64 (p : Int)]), One1P w5.heap.size 53 (encP (atP r p, r, p)), New1P w.heap.size L.length (L.flatMap encP ++ encP (atP r p, r, p)), IsV (.pointer (some ⟨gR, 0, none⟩)), IsV (.pointer (some ⟨gR, 1, none⟩))] 14 (by decide) (by kernel_rfl) (by kernel_rfl) (by kernel_rfl) ?_ ?_ ?_
          · intro φ hφ v w1 w2 h hg
            simp only [List.mem_cons, List.not_mem_nil, or_false] at hφ
            rcases hφ with rfl | rfl | rfl | rfl | rfl | rfl | rfl | rfl | rfl | rfl | rfl | rfl | rfl | rfl
            all_goals first | exact h | exact One1P.np h hl5 hg | exact New1P.np h hg
          · refine ⟨?_, ?_, ?_, ?_, ?_, ?_, ?_, ?_, ?_, ?_, ?_, ?_, ?_, ?_, trivial⟩
            · intro a1 w1 hG hF
              exact gstepN (fun _ h => NP.of_gr h) (s_old rfl (wants0 rfl) (.tmp 6) (.inr rfl) (.pointer (some ⟨gR, 0, none⟩)) (hF.ol 6 (by kernel_rfl)) rfl)
            · intro a1 w1 hG hF
              exact gstepN (fun _ h => NP.of_gr h) (s_old rfl (wants0 rfl) (.tmp 6) (.inr rfl) (.pointer (some ⟨gR, 0, none⟩)) (hF.ol 6 (by kernel_rfl)) rfl)
            · intro a1 w1 hG hF
              obtain ⟨_, e45, rfl⟩ := hF.dp 1 45 (by kernel_rfl)
              exact gstepN (fun _ h => NP.of_gr h) (s_is rfl (wants0 rfl) _ rfl (run_nil e45))
            · intro a1 w1 hG hF
              obtain ⟨_, e46, rfl⟩ := hF.dp 2 46 (by kernel_rfl)
              exact gstepN (fun _ h => NP.of_gr h) (s_is rfl (wants0 rfl) _ rfl (run_fieldR (o := 1) (k := 0) Tryd.underlying49 rfl rfl (by kernel_rfl) e46))
            · intro a1 w1 hG hF
              obtain ⟨_, e47, rfl⟩ := hF.dp 3 47 (by kernel_rfl)
              have hA1 := hA5.tn ((Tn.of_gr (Gr.drew w5)).trans hG.tn) (fun C f => blkT_other rfl _ C f)
              have c1 := hA1.cell (i := 1) (v := .slice A L.length c) rfl
              exact gstepN (fun _ h => NP.of_gr h) (s_is rfl (wants0 rfl) _ rfl (run_load1B (.inr (.inr (.inr (.inl ⟨_, Tryd.underlying47⟩)))) e47 c1))
            · intro a1 w1 hG hF
              have e9 : a1.eval (.tmp 9) = .pointer (some ⟨g9, 0, none⟩) := hF.ol 9 (by kernel_rfl)
              exact gstepN (fun _ h => NP.of_gr h) (s_is rfl (wants0 rfl) _ rfl (by simp only [execOp, e9, Option.map, Sem.run_bind, run_cutAll (P := Tryd.prog) Tryd.underlying22 (by kernel_rfl), Result.andThen_ok, Sem.run_pure]))
            · intro a1 w1 hG hF
              obtain ⟨_, e49, rfl⟩ := hF.dp 5 49 (by kernel_rfl)
              have h91 := h9.tn ((Tn.of_gr (Gr.drew w5)).trans hG.tn) (fun C f => blkT_other rfl _ C f)
              exact gstepN (fun _ h => NP.of_gr h) (s_call rfl (wants0 rfl) _ rfl _ _ (by simp only [execOp, resolve, invoke, List.map_toArray, List.map_cons, List.map_nil, e49]; go_simp) ((HPl.out w1 _ _ (h91.rdAll hDl) (Nat.le_refl _)).mono fun e w2 ⟨he, hw⟩ => ⟨_, he, rfl, hw ▸ Gr.refl _⟩))
            · intro a1 w1 hG hF
              exact gstepN (fun _ h => NP.of_gr h) (s_old rfl (wants0 rfl) (.tmp 7) (.inr rfl) (.int .i64 (r : Int)) (hF.ol 7 (by kernel_rfl)) rfl)
            · intro a1 w1 hG hF
              exact gstepN (fun _ h => NP.of_gr h) (s_old rfl (wants0 rfl) (.tmp 8) (.inr rfl) (.int .i64 (p : Int)) (hF.ol 8 (by kernel_rfl)) rfl)
            · intro a1 w1 hG hF
              obtain ⟨_, e50, rfl⟩ := hF.dp 6 50 (by kernel_rfl)
              obtain ⟨_, e51, rfl⟩ := hF.dp 7 51 (by kernel_rfl)
              obtain ⟨_, e52, rfl⟩ := hF.dp 8 52 (by kernel_rfl)
              exact gstepN (fun _ h => NP.of_gr h) (s_is rfl (wants0 rfl) _ rfl (by simp only [execOp, List.map_toArray, List.map_cons, List.map_nil, e50, e51, e52]; go_simp))
            · intro a1 w1 hG hF
              obtain ⟨_, e53, rfl⟩ := hF.dp 9 53 (by kernel_rfl)
              exact gstepN (fun _ h => NP.of_gr h) (s_val rfl (wants0 rfl) _ rfl (.slice (some ⟨w1.heap.size, 0, none⟩) 1 1) (w1.alloc (.cells #[.int .u64 (atP r p : Nat), .int .i64 (r : Int), .int .i64 (p : Int)] 53)) (run_buildPt e53) ⟨_, rfl, hG.tn.size, Arr.newAt rfl rfl⟩ (Gr.alloc _ _))
            · intro a1 w1 hG hF
              obtain ⟨_, e48, rfl⟩ := hF.dp 4 48 (by kernel_rfl)
              obtain ⟨x54, e54, f54⟩ := hF.dp 10 54 (by kernel_rfl)
              obtain ⟨gq, rfl, _, hq⟩ := f54
              have ho1 := hG.old (Gr.own (Gr.drew w5) ho5)
              have hs1 : w.heap.size ≤ w1.heap.size := Nat.le_trans hs5 hG.tn.size
              obtain ⟨A', c', w', hr, h2, hT, hold, hnew⟩ := run_append_keep (P := Tryd.prog) (w := w1) w.heap.size 47 47 53 iP zP 3 24 Tryd.underlying47 hiP hzP hP1 hP2 hP3 (by omega) A L.length c (L.flatMap encP) ho1 ⟨gq, 0, none⟩ 1 1 (encP (atP r p, r, p)) rfl (fun j u h => by rw [add_row, Nat.zero_add]; exact hq.cell h) (by simp [encP, Value.oneCell']) (by unfold maxLen; omega) (by omega) hs1
              exact g_valN rfl rfl (.slice A' (L.length + 1) c') w' (by simp only [execOp, resolve, invoke, builtin, List.map_toArray, List.map_cons, List.map_nil, e48, e54, Sem.run_bind, Sem.run_pure, hr, Result.andThen_ok]) ⟨A', c', rfl, h2⟩ ⟨hT, fun _ => hold, fun A2 d h => hnew A2 d h⟩
            · intro a1 w1 hG hF
              obtain ⟨_, e44, rfl⟩ := hF.dp 0 44 (by kernel_rfl)
              exact gstepN (fun _ h => NP.of_gr h) (s_is rfl (wants0 rfl) _ rfl (run_nil e44))
            · intro a1 w1 hG hF
              obtain ⟨_, e56, rfl⟩ := hF.dp 12 56 (by kernel_rfl)
              exact gstepN (fun _ h => NP.of_gr h) (s_is rfl (wants0 rfl) _ rfl (run_fieldR (o := 1) (k := 0) Tryd.underlying49 rfl rfl (by kernel_rfl) e56))
          · intro vs w1 hG hf
            have y55 : (New1P w.heap.size L.length (L.flatMap encP ++ encP (atP r p, r, p))) (vs 11) w1 := hf.2.2.2.2.2.2.2.2.2.2.2.1
            have z57 : vs 13 = .pointer (some ⟨gR, 1, none⟩) := hf.2.2.2.2.2.2.2.2.2.2.2.2.2.1
            clear hf
            obtain ⟨A8, c8, hy55, ho8⟩ := y55
            have hT : Tn (blkT A 53) w.heap.size w5 w1 := (Tn.of_gr (Gr.drew w5)).trans hG.tn
            have hA8 := hA5.tn hT (fun C f => blkT_other rfl _ C f)
            have hB8 := hB5.trans (hT.below hs5)
            have hs8 : w.heap.size ≤ w1.heap.size := Nat.le_trans hs5 hT.size
            simp only [List.take_succ_cons, List.take_zero, List.drop_succ_cons, List.drop_zero, putAll, Nat.zero_add, Nat.reduceAdd, hy55, z57]
            clear hG hT hy55 z57 hA5 ho5 hB5 hs5 hl5 h9 HPl
            refine wpList_setSl (A := A8) (n := L.length + 1) (c := c8) hA8 rfl 47 (.tmp 57) (.tmp 55) rfl (by kernel_rfl) 1 (by kernel_rfl) (by kernel_rfl) (by simp) ?_
            intro w9 hw9 hA9
            have hT9 : Tn (fun _ o => match o with | .cells _ t _ => t == 49 | _ => false) w.heap.size w1 w9 := by rw [hw9]; exact Tn.cell hA8 HgR.out (fun C f => by simp) 1 _
            clear hw9
            have ho9 := own_tn ho8 hT9 (fun k C f => by simp)
            have hB9 := hB8.trans (hT9.below hs8)
            have hs9 : w.heap.size ≤ w9.heap.size := Nat.le_trans hs8 hT9.size
            have hfl : L.flatMap encP ++ encP (atP r p, r, p) = (ringL points r ++ ptsOf r (p + 1)).flatMap encP := by rw [← HLs.out, List.flatMap_append]; simp
            have hln : L.length + 1 = (ringL points r ++ ptsOf r (p + 1)).length := by rw [← HLs.out, List.length_append]; rfl
            rw [hfl, hln] at ho9
            have hA9' : Arr w9 gR 49 [.int .i64 (reps : Int), .slice A8 (ringL points r ++ ptsOf r (p + 1)).length c8] := by rw [← hln]; exact hA9
            have HREL : Hid (NewI reps points gR w.heap.size r w (.int .i64 ((p + 1 : Nat) : Int)) w9) := ⟨p + 1, hlp, rfl, A8, c8, hA9', ho9, hB9, hs9⟩
            clear hA8 hB8 hs8 ho8 hA9 hA9' hT9 ho9 hB9 hs9 hfl hln HLs
            unfold wpList
            go_simp
            go_wp2_with fail
            exact ⟨by rw [show (p : Int) + 1 = ((p + 1 : Nat) : Int) by omega]; exact HREL.out, by simp [intOf]; omega⟩
        · have hpi : ¬ (p : Int) < (points : Int) := by omega
          have hpe : p = points := by omega
          subst hpe
          rw [← ringL_succ] at hA ho
          go_wp2_with fail
          exact ⟨⟨r + 1, hlt, by go_num, A, c, hA, ho, hB, hs⟩, by simp [intOf]; omega⟩
    · have hri : ¬ (r : Int) < (reps : Int) := by omega
      have hre : r = reps := by omega
      subst hre
      obtain ⟨L, hL⟩ : ∃ L, L = ringL points r := ⟨_, rfl⟩
      have hLm : ∀ a q p, (a, q, p) ∈ L ↔ q < r ∧ p < points ∧ a = atP q p := fun a q p => by rw [hL]; exact mem_ringL
      have hLn : L.length = r * points := by rw [hL, ringL_length]
      have hn1 : 1 ≤ r * points := Nat.mul_le_mul h1 h3
      have hn2 : r * points ≤ 512 := Nat.mul_le_mul h2 h4
      rw [← hL, hLn] at hA0 ho0
      obtain ⟨g, rfl⟩ : ∃ g, A0 = some ⟨g, 0, none⟩ := by
        rcases ho0.2 with ⟨_, e2⟩ | ⟨g, cap, cur, e1, _⟩
        · omega
        · injection e1 with e1
          exact ⟨g, e1⟩
      have hgl := own_lt ho0 _ rfl
      have hgb : w.heap.size ≤ g := by
        rcases ho0.2 with ⟨_, e2⟩ | ⟨g', cap, cur, e1, hb, _⟩
        · omega
        · injection e1 with e1
          injection e1 with e1
          injection e1 with e1
          omega
      have hne : gR ≠ g := by
        rintro rfl
        rcases ho0.2 with ⟨_, e2⟩ | ⟨g', cap, cur, e1, _, h9, _⟩
        · omega
        · injection e1 with e1
          injection e1 with e1
          injection e1 with e1
          subst e1
          have hA := hA0
          unfold Arr at hA
          rw [h9] at hA
          injection hA with hA
          injection hA with _ hA
          exact absurd hA (by decide)
      have hH := holds_of_own hLn ho0
      obtain ⟨d, hd⟩ : ∃ d, d = L.toArray := ⟨_, rfl⟩
      have hds : d.size = r * points := by rw [hd]; simpa using hLn
      have hdl : d.toList = L := by rw [hd]
      rw [← hd] at hH
      obtain ⟨N, hN⟩ : ∃ N, N = r * points := ⟨_, rfl⟩
      rw [← hN] at hds hA0 ho0 hn1 hn2
      have HSo : Hid (Calls Tryd.prog 18 #[.slice (some ⟨g, 0, none⟩) N c0, .func (.func 19) #[] #[]] wr fun e w' => e = .returned (.tuple #[]) ∧ ∃ d' n os, Go.Sort.PermIn 0 d.size d d' ∧ Go.Sort.SortedIn (ltOf cfP) 0 d.size d' ∧ w' = sortWorldK encP 3 wr g 0 n d' os) := by
        have h := sort_pts g 0 c0 d wr hH hgl (by omega)
        rw [hds] at h
        rw [hds]
        exact h
      have r1 := hA0.cell (i := 1) (v := .slice (some ⟨g, 0, none⟩) N c0) rfl
      have HN := Lib.hid hN
      have HLm := Lib.hid hLm
      have HDS := Lib.hid hds
      have HDL := Lib.hid hdl
      have HH := Lib.hid hH
      clear hd hLn hn1 hn2 hL hN hLm hds hdl hH
      go_wp2_with fail
      --@4
      refine HSo.out.mono ?_
      rintro e w1 ⟨rfl, d', n, os, hP, hS, hw1⟩
      obtain ⟨hs', hmem, hsort⟩ := sorted_list hP hS
      have hH' := holdsK_sortWorldK_c (enc := encP) (k := 3) (w := wr) (blk := g) (off := 0) (d := d) (dk := d') (m := n) (os := os) (hH := HH.out) (hblk := hgl) (hs := hs')
      have hPt := ptR_of_holds hH'
      rw [← hw1] at hPt
      have hB1 : Below w.heap.size wr w1 := by rw [hw1]; exact sortWorld_below hgb hgl
      have hA1 : Arr w1 gR 49 [.int .i64 (r : Int), .slice (some ⟨g, 0, none⟩) N c0] := by
        unfold Arr at *
        rw [hw1, sortWorld_other (Arr.lt hA0) hne]
        exact hA0
      have hFin : Hid (RingAt w1 gR r points) := by
        refine ⟨some ⟨g, 0, none⟩, c0, d'.toList, by rw [← HN.out]; exact hA1, by rw [← HN.out, ← HDS.out, ← hs']; exact hPt, hsort, fun a q p => by rw [hmem, HDL.out]; exact HLm.out a q p⟩
      have hGf := hB0.trans hB1
      clear hP hS hw1 hs' hmem hsort hH' hPt hB1 hA1 HSo HH HDS HDL HLm
      go_wp2_with fail
      refine bodyPost_ret (results_tmp2 rfl _ _ _) rfl ?_
      exact ⟨gR, rfl, hFin.out, hGf⟩
end Go.Proofs.YtmcnnjcbgbdeeaaDoor
