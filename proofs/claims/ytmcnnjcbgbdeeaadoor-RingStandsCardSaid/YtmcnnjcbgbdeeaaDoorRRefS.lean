/- The walk of the reference's Stand. No condition. -/
import Derived.Test.YtmcnnjcbgbdeeaaDoorRRefW
namespace Go.Proofs.YtmcnnjcbgbdeeaaDoor
open Go.RowKit
theorem One1P.gr {S : Nat} {t : TypeId} {cs : List Value} {v : Value} {w w' : World} (h : One1P S t cs v w) (hG : Gr w w') : One1P S t cs v w' := by
  obtain ⟨g, e, hs, ha⟩ := h
  exact ⟨g, e, hs, ha.gr hG⟩
section
variable {ev : Operand → Value} {d : Option Tmp} {t : TypeId} {p : String} {af : Array Edge} {gd : Option (Nat × Bool)} {w : World} {x y : Operand}
theorem run_buildPr {a b : Int} (h1 : ev x = .agg #[.int .i64 a, .int .i64 b]) :
    (execOp ev ⟨d, .buildSlice 38 1 #[(0, x)], t, p, af, gd⟩).run Tryd.prog w = .ok (.value (.slice (some ⟨w.heap.size, 0, none⟩) 1 1)) (w.alloc (.cells #[.int .i64 a, .int .i64 b] 43)) := by
  simp only [execOp, List.map_toArray, List.map_cons, List.map_nil, h1]
  go_simp
end
theorem filter_yes {up : Nat → Bool} {W : List Nat} {q y : Nat} (h : W[q]? = some y) (hu : up y = true) : (W.drop q).filter up = y :: (W.drop (q + 1)).filter up := by
  obtain ⟨hl, he⟩ := List.getElem?_eq_some_iff.1 h
  rw [List.drop_eq_getElem_cons hl, he, List.filter_cons, if_pos hu]
theorem filter_no {up : Nat → Bool} {W : List Nat} {q y : Nat} (h : W[q]? = some y) (hu : up y = false) : (W.drop q).filter up = (W.drop (q + 1)).filter up := by
  obtain ⟨hl, he⟩ := List.getElem?_eq_some_iff.1 h
  rw [List.drop_eq_getElem_cons hl, he, List.filter_cons, if_neg (by rw [hu]; decide)]
/-- What the reference's Stand tells. -/
def RStQ (P : List (Nat × Nat)) (w : World) (e : Ending) (w' : World) : Prop := ∃ A c, e = .returned (.slice A P.length c) ∧ w'.ownsRow w.heap.size 43 2 (.slice A P.length c) P.length (P.flatMap pairC) ∧ Gr w w'
def RStR (up : Nat → Bool) (W : List Nat) (n reps : Nat) (w : World) (ov pv i : Value) (wr : World) : Prop := ∃ (k N p : Nat) (out : List (Nat × Nat)) (A : Option Addr) (c : Nat), k ≤ n ∧ i = .int .i64 (k : Int) ∧ pv = .int .i64 (p : Int) ∧ p ≤ reps ∧ standF up W n k = (out, (W.drop p).filter up) ∧ out.length = N ∧ N ≤ k ∧ ov = .slice A N c ∧
  wr.ownsRow w.heap.size 43 2 (.slice A N c) N (out.flatMap pairC) ∧ Gr w wr
def RStI (up : Nat → Bool) (W O : List Nat) (reps : Nat) (w : World) (pv : Value) (wr : World) : Prop := ∃ q : Nat, q ≤ reps ∧ pv = .int .i64 (q : Int) ∧ (W.drop q).filter up = O ∧ w = wr
set_option maxRecDepth 100000 in
set_option maxHeartbeats 16000000 in
theorem refStand_any (Aw : Option Addr) (cw reps n : Nat) (W : List Nat) (U : Option Addr) (cu : Nat) (ups : List Bool) (w : World) (hW : Rd w Aw reps (numV W)) (hU : Rd w U reps (ups.map Value.bool)) (hWm : ∀ x ∈ W, x < reps) (hr : reps ≤ 8) (hn : n ≤ reps) :
    Calls Tryd.prog 15 #[.slice Aw reps cw, .int .i64 (n : Int), .slice U reps cu] w fun e w' => RStQ (standG (upF ups) (W.take n) ((W.drop n).filter (upF ups))) w e w' := by
  obtain ⟨iA, zA, hiA, hzA, hA1, hA2, hA3⟩ : ∃ i z, Tryd.prog.info? 43 = some i ∧ i.zero = some z ∧ i.size = 2 ∧ i.bytes = 16 ∧ z.cells.size = 2 := by
    cases hie : Tryd.prog.info? 43 with
    | none => have := infoPr; rw [hie] at this; cases this
    | some ie =>
      have hq := infoPr
      rw [hie] at hq
      simp only [Option.map_some, Option.some.injEq, Prod.mk.injEq] at hq
      obtain ⟨q1, q2, q3⟩ := hq
      cases hz : ie.zero with
      | none => rw [hz] at q3; cases q3
      | some z =>
        rw [hz] at q3
        exact ⟨ie, z, rfl, hz, q1, q2, by simpa using q3⟩
  have hWl : W.length = reps := by have := hW.1; rwa [numV_length] at this
  have hul : ups.length = reps := by have := hU.1; simpa using this
  have hup : ∀ x, x < reps → ups[x]? = some (upF ups x) := fun x hx => by
    unfold upF
    rw [List.getD_eq_getElem?_getD, List.getElem?_eq_getElem (by omega)]
    rfl
  obtain ⟨up, hupe⟩ : ∃ up, up = upF ups := ⟨_, rfl⟩
  rw [← hupe] at hup ⊢
  have HWM := Lib.hid hWm
  have HUP := Lib.hid hup
  clear hupe hWm hup
  go_enter Tryd.func15, Tryd.ntmps15
  go_wp2_with fail
  go_simp
  go_loopw [7, 8, 9] (fun ov pv i wr => RStR up W n reps w ov pv i wr) (fun _ _ i _ => n - (intOf i).toNat)
  case atStart => exact ⟨0, 0, n, [], none, 0, Nat.zero_le _, rfl, rfl, hn, rfl, rfl, Nat.le_refl _, rfl, ⟨rfl, .inl ⟨rfl, rfl⟩⟩, Gr.refl _⟩
  case round =>
    obtain ⟨k, N, p, out, A8, c8, hkn, rfl, rfl, hpr, hst, hN, hNk, rfl, ho8, hG8⟩ := hrel
    have HST := Lib.hid hst
    have HN := Lib.hid hN
    clear hst hN
    by_cases hlt : k < n
    · have hki : (k : Int) < (n : Int) := by omega
      have hkr : k < reps := by omega
      have hkri : (k : Int) < (reps : Int) := by omega
      obtain ⟨ad, x, rfl, hxk, hcx⟩ := (hG8.rd hW).num hkr
      have hxm : x < reps := HWM.out x (List.mem_of_getElem? hxk)
      have hxi : (x : Int) < (reps : Int) := by omega
      obtain ⟨ud, rfl, hcu⟩ := (hG8.rd hU).2 x (.bool (up x)) (by rw [List.getElem?_map, HUP.out x hxm]; rfl)
      have hnx : standF up W n (k + 1) = stepS up (out, (W.drop p).filter up) x := by rw [standF_succ hlt hxk, HST.out]
      obtain ⟨b, hb⟩ : ∃ b, b = up x := ⟨_, rfl⟩
      unfold stepS at hnx
      rw [← hb] at hcu hnx
      have HNX := Lib.hid hnx
      clear hnx hb hxk
      cases b with
      | true =>
        have hnx := HNX.out
        rw [if_pos rfl] at hnx
        simp only at hnx
        have HNX2 := Lib.hid hnx
        clear hnx HNX
        go_upto_region 7 with fail
        refine wp_region_cut (by kernel_rfl) [IsV (.slice A8 N c8), IsV (.slice (some ad) reps cw), IsV (.int .i64 (k : Int)), IsV (.pointer (some (ad.add k))), IsV (.int .i64 (x : Int)), IsV (.slice (some ad) reps cw), IsV (.int .i64 (k : Int)), IsV (.pointer (some (ad.add k))), IsV (.int .i64 (x : Int)), IsV (.agg #[.int .i64 (x : Int), .int .i64 (x : Int)]), One1P 0 43 (pairC (x, x))] 11 (by decide) (by kernel_rfl) (by kernel_rfl) (by kernel_rfl) ?_ ?_ ?_
        · intro φ hφ v w1 w2 h hg
          simp only [List.mem_cons, List.not_mem_nil, or_false] at hφ
          rcases hφ with rfl | rfl | rfl | rfl | rfl | rfl | rfl | rfl | rfl | rfl | rfl
          all_goals first | exact h | exact One1P.gr h hg
        · refine ⟨?_, ?_, ?_, ?_, ?_, ?_, ?_, ?_, ?_, ?_, ?_, trivial⟩
          · intro a1 w1 hG hF
            exact s_old rfl (wants0 rfl) (.tmp 7) (.inr rfl) (.slice A8 N c8) (hF.ol 7 (by kernel_rfl)) rfl
          · intro a1 w1 hG hF
            exact s_old rfl (wants0 rfl) (.tmp 0) (.inr rfl) (.slice (some ad) reps cw) (hF.ol 0 (by kernel_rfl)) rfl
          · intro a1 w1 hG hF
            exact s_old rfl (wants0 rfl) (.tmp 9) (.inr rfl) (.int .i64 (k : Int)) (hF.ol 9 (by kernel_rfl)) rfl
          · intro a1 w1 hG hF
            obtain ⟨_, e1, rfl⟩ := hF.dp 1 24 (by kernel_rfl)
            obtain ⟨_, e2, rfl⟩ := hF.dp 2 25 (by kernel_rfl)
            exact s_is rfl (wants0 rfl) _ rfl (run_idxSl Tryd.underlying30 (by kernel_rfl) e1 e2 (by omega))
          · intro a1 w1 hG hF
            obtain ⟨_, e3, rfl⟩ := hF.dp 3 26 (by kernel_rfl)
            exact s_is rfl (wants0 rfl) _ rfl (run_load1 Tryd.underlying3 e3 (Gr.cell ((Gr.drew wr).trans hG) hcx))
          · intro a1 w1 hG hF
            exact s_old rfl (wants0 rfl) (.tmp 0) (.inr rfl) (.slice (some ad) reps cw) (hF.ol 0 (by kernel_rfl)) rfl
          · intro a1 w1 hG hF
            exact s_old rfl (wants0 rfl) (.tmp 9) (.inr rfl) (.int .i64 (k : Int)) (hF.ol 9 (by kernel_rfl)) rfl
          · intro a1 w1 hG hF
            obtain ⟨_, e5, rfl⟩ := hF.dp 5 28 (by kernel_rfl)
            obtain ⟨_, e6, rfl⟩ := hF.dp 6 29 (by kernel_rfl)
            exact s_is rfl (wants0 rfl) _ rfl (run_idxSl Tryd.underlying30 (by kernel_rfl) e5 e6 (by omega))
          · intro a1 w1 hG hF
            obtain ⟨_, e7, rfl⟩ := hF.dp 7 30 (by kernel_rfl)
            exact s_is rfl (wants0 rfl) _ rfl (run_load1 Tryd.underlying3 e7 (Gr.cell ((Gr.drew wr).trans hG) hcx))
          · intro a1 w1 hG hF
            obtain ⟨_, e4, rfl⟩ := hF.dp 4 27 (by kernel_rfl)
            obtain ⟨_, e8, rfl⟩ := hF.dp 8 31 (by kernel_rfl)
            exact s_is rfl (wants0 rfl) _ rfl (by simp only [execOp, List.map_toArray, List.map_cons, List.map_nil, e4, e8]; go_simp)
          · intro a1 w1 hG hF
            obtain ⟨_, e9, rfl⟩ := hF.dp 9 32 (by kernel_rfl)
            exact s_val rfl (wants0 rfl) _ rfl (.slice (some ⟨w1.heap.size, 0, none⟩) 1 1) (w1.alloc (.cells #[.int .i64 (x : Int), .int .i64 (x : Int)] 43)) (run_buildPr e9) ⟨_, rfl, Nat.zero_le _, Arr.newAt rfl rfl⟩ (Gr.alloc _ _)
        · intro vs w1 hG hf
          have zO : vs 0 = .slice A8 N c8 := hf.1
          have yS : (One1P 0 43 (pairC (x, x))) (vs 10) w1 := hf.2.2.2.2.2.2.2.2.2.2.1
          clear hf
          obtain ⟨gz, zS, _, hz⟩ := yS
          have hGd := (Gr.drew wr).trans hG
          have ho1 := Gr.own hGd ho8
          have hG1 := Gr.trans hG8 hGd
          have hs1 : w.heap.size ≤ w1.heap.size := hG1.size
          simp only [List.take_succ_cons, List.take_zero, List.drop_succ_cons, List.drop_zero, putAll, Nat.zero_add, Nat.reduceAdd, zO, zS]
          refine wpList_appT rfl (.tmp 23) (.tmp 33) 38 rfl w.heap.size 43 iA zA 2 16 Tryd.underlying38 hiA hzA hA1 hA2 hA3 (by omega) (by kernel_rfl) ho1 ⟨gz, 0, none⟩ 1 1 (pairC (x, x)) (by kernel_rfl) rfl (fun j u h => by rw [add_row, Nat.zero_add]; exact hz.cell h) (by simp [pairC, Value.oneCell']) (by unfold maxLen; omega) (by omega) hs1 ?_
          intro A9 c9 w9 ho9 _ hT9
          have hTB := hT9 pairT (fun _ _ _ => by simp [pairT])
          have hG9 : Gr w w9 := Below.trans hG1 (hTB.below hs1)
          have hfl : out.flatMap pairC ++ pairC (x, x) = (out ++ [(x, x)]).flatMap pairC := by rw [List.flatMap_append]; simp
          rw [hfl] at ho9
          have hl9 : Hid ((out ++ [(x, x)]).length = N + 1) := by show _ = _; rw [List.length_append, HN.out]; rfl
          clear hT9 hTB hfl ho8 ho1 hG hGd hG1 hz zO zS
          unfold wpList
          go_simp
          try refine .inl ?_
          try unfold wpList
          go_simp
          go_wp2_with fail
          exact ⟨⟨k + 1, N + 1, p, out ++ [(x, x)], A9, c9, hlt, by go_num, rfl, hpr, HNX2.out, hl9.out, by omega, rfl, ho9, hG9⟩, by simp [intOf]; omega⟩
      | false =>
        have hnx := HNX.out
        rw [if_neg (by decide)] at hnx
        obtain ⟨O, hO⟩ : ∃ O, O = (W.drop p).filter up := ⟨_, rfl⟩
        rw [← hO] at hnx
        have HNX2 := Lib.hid hnx
        have HO := Lib.hid hO
        clear hnx HNX hO
        go_upto_region 8 with fail
        go_simp
        go_loopw [8] (fun pv wq => RStI up W O reps wr pv wq) (fun i _ => reps - (intOf i).toNat)
        case atStart => exact ⟨p, hpr, rfl, HO.out.symm, rfl⟩
        case round =>
          obtain ⟨q, hqr, rfl, hq, rfl⟩ := hrel
          have HQ := Lib.hid hq
          clear hq
          by_cases hqlt : q < reps
          · have hqi : (q : Int) < (reps : Int) := by omega
            obtain ⟨_, y, e, hyq, hcy⟩ := (hG8.rd hW).num hqlt
            injection e with e
            subst e
            have hym : y < reps := HWM.out y (List.mem_of_getElem? hyq)
            have hyi : (y : Int) < (reps : Int) := by omega
            obtain ⟨_, e, hcuy⟩ := (hG8.rd hU).2 y (.bool (up y)) (by rw [List.getElem?_map, HUP.out y hym]; rfl)
            injection e with e
            subst e
            have HYQ := Lib.hid hyq
            have hcx2 := hcx
            obtain ⟨b, hb⟩ : ∃ b, b = up y := ⟨_, rfl⟩
            rw [← hb] at hcuy
            have HB := Lib.hid hb
            clear hb hyq
            cases b with
            | true =>
              have hOe : O = y :: (W.drop (q + 1)).filter up := by rw [← HQ.out]; exact filter_yes HYQ.out HB.out.symm
              have hnx := HNX2.out
              rw [hOe] at hnx
              simp only at hnx
              have HNX3 := Lib.hid hnx
              clear hnx HNX2 hOe
              go_upto_region 11 with fail
              refine wp_region_cut (by kernel_rfl) [IsV (.slice A8 N c8), IsV (.slice (some ad) reps cw), IsV (.int .i64 (q : Int)), IsV (.pointer (some (ad.add q))), IsV (.int .i64 (y : Int)), IsV (.slice (some ad) reps cw), IsV (.int .i64 (k : Int)), IsV (.pointer (some (ad.add k))), IsV (.int .i64 (x : Int)), IsV (.agg #[.int .i64 (y : Int), .int .i64 (x : Int)]), One1P 0 43 (pairC (y, x))] 11 (by decide) (by kernel_rfl) (by kernel_rfl) (by kernel_rfl) ?_ ?_ ?_
              · intro φ hφ v w1 w2 h hg
                simp only [List.mem_cons, List.not_mem_nil, or_false] at hφ
                rcases hφ with rfl | rfl | rfl | rfl | rfl | rfl | rfl | rfl | rfl | rfl | rfl
                all_goals first | exact h | exact One1P.gr h hg
              · refine ⟨?_, ?_, ?_, ?_, ?_, ?_, ?_, ?_, ?_, ?_, ?_, trivial⟩
                · intro a1 w1 hG hF
                  exact s_old rfl (wants0 rfl) (.tmp 7) (.inr rfl) (.slice A8 N c8) (hF.ol 7 (by kernel_rfl)) rfl
                · intro a1 w1 hG hF
                  exact s_old rfl (wants0 rfl) (.tmp 0) (.inr rfl) (.slice (some ad) reps cw) (hF.ol 0 (by kernel_rfl)) rfl
                · intro a1 w1 hG hF
                  exact s_old rfl (wants0 rfl) (.tmp 8) (.inr rfl) (.int .i64 (q : Int)) (hF.ol 8 (by kernel_rfl)) rfl
                · intro a1 w1 hG hF
                  obtain ⟨_, e1, rfl⟩ := hF.dp 1 56 (by kernel_rfl)
                  obtain ⟨_, e2, rfl⟩ := hF.dp 2 57 (by kernel_rfl)
                  exact s_is rfl (wants0 rfl) _ rfl (run_idxSl Tryd.underlying30 (by kernel_rfl) e1 e2 (by omega))
                · intro a1 w1 hG hF
                  obtain ⟨_, e3, rfl⟩ := hF.dp 3 58 (by kernel_rfl)
                  exact s_is rfl (wants0 rfl) _ rfl (run_load1 Tryd.underlying3 e3 (Gr.cell ((Gr.drew wr).trans hG) hcy))
                · intro a1 w1 hG hF
                  exact s_old rfl (wants0 rfl) (.tmp 0) (.inr rfl) (.slice (some ad) reps cw) (hF.ol 0 (by kernel_rfl)) rfl
                · intro a1 w1 hG hF
                  exact s_old rfl (wants0 rfl) (.tmp 9) (.inr rfl) (.int .i64 (k : Int)) (hF.ol 9 (by kernel_rfl)) rfl
                · intro a1 w1 hG hF
                  obtain ⟨_, e5, rfl⟩ := hF.dp 5 60 (by kernel_rfl)
                  obtain ⟨_, e6, rfl⟩ := hF.dp 6 61 (by kernel_rfl)
                  exact s_is rfl (wants0 rfl) _ rfl (run_idxSl Tryd.underlying30 (by kernel_rfl) e5 e6 (by omega))
                · intro a1 w1 hG hF
                  obtain ⟨_, e7, rfl⟩ := hF.dp 7 62 (by kernel_rfl)
                  exact s_is rfl (wants0 rfl) _ rfl (run_load1 Tryd.underlying3 e7 (Gr.cell ((Gr.drew wr).trans hG) hcx2))
                · intro a1 w1 hG hF
                  obtain ⟨_, e4, rfl⟩ := hF.dp 4 59 (by kernel_rfl)
                  obtain ⟨_, e8, rfl⟩ := hF.dp 8 63 (by kernel_rfl)
                  exact s_is rfl (wants0 rfl) _ rfl (by simp only [execOp, List.map_toArray, List.map_cons, List.map_nil, e4, e8]; go_simp)
                · intro a1 w1 hG hF
                  obtain ⟨_, e9, rfl⟩ := hF.dp 9 64 (by kernel_rfl)
                  exact s_val rfl (wants0 rfl) _ rfl (.slice (some ⟨w1.heap.size, 0, none⟩) 1 1) (w1.alloc (.cells #[.int .i64 (y : Int), .int .i64 (x : Int)] 43)) (run_buildPr e9) ⟨_, rfl, Nat.zero_le _, Arr.newAt rfl rfl⟩ (Gr.alloc _ _)
              · intro vs w1 hG hf
                have zO : vs 0 = .slice A8 N c8 := hf.1
                have yS : (One1P 0 43 (pairC (y, x))) (vs 10) w1 := hf.2.2.2.2.2.2.2.2.2.2.1
                clear hf
                obtain ⟨gz, zS, _, hz⟩ := yS
                have hGd := (Gr.drew wr).trans hG
                have ho1 := Gr.own hGd ho8
                have hG1 := Gr.trans hG8 hGd
                have hs1 : w.heap.size ≤ w1.heap.size := hG1.size
                simp only [List.take_succ_cons, List.take_zero, List.drop_succ_cons, List.drop_zero, putAll, Nat.zero_add, Nat.reduceAdd, zO, zS]
                refine wpList_appT rfl (.tmp 55) (.tmp 65) 38 rfl w.heap.size 43 iA zA 2 16 Tryd.underlying38 hiA hzA hA1 hA2 hA3 (by omega) (by kernel_rfl) ho1 ⟨gz, 0, none⟩ 1 1 (pairC (y, x)) (by kernel_rfl) rfl (fun j u h => by rw [add_row, Nat.zero_add]; exact hz.cell h) (by simp [pairC, Value.oneCell']) (by unfold maxLen; omega) (by omega) hs1 ?_
                intro A9 c9 w9 ho9 _ hT9
                have hTB := hT9 pairT (fun _ _ _ => by simp [pairT])
                have hG9 : Gr w w9 := Below.trans hG1 (hTB.below hs1)
                have hfl : out.flatMap pairC ++ pairC (y, x) = (out ++ [(y, x)]).flatMap pairC := by rw [List.flatMap_append]; simp
                rw [hfl] at ho9
                have hl9 : Hid ((out ++ [(y, x)]).length = N + 1) := by show _ = _; rw [List.length_append, HN.out]; rfl
                clear hT9 hTB hfl ho8 ho1 hG hGd hG1 hz zO zS
                unfold wpList
                go_simp
                try refine .inl ?_
                try unfold wpList
                go_simp
                go_wp2_with fail
                exact ⟨⟨k + 1, N + 1, q + 1, out ++ [(y, x)], A9, c9, hlt, by go_num, by go_num, hqlt, HNX3.out, hl9.out, by omega, rfl, ho9, hG9⟩, by simp [intOf]; omega⟩
            | false =>
              have hQ2 : Hid ((W.drop (q + 1)).filter up = O) := by
                show _ = _
                rw [← HQ.out]
                exact (filter_no HYQ.out HB.out.symm).symm
              go_wp2_with fail
              exact ⟨⟨q + 1, hqlt, by go_num, hQ2.out, rfl⟩, by simp [intOf]; omega⟩
          · have hqi : ¬ (q : Int) < (reps : Int) := by omega
            have hOe : O = [] := by
              rw [← HQ.out, List.drop_of_length_le (by omega)]
              rfl
            have hnx := HNX2.out
            rw [hOe] at hnx
            simp only at hnx
            have hres : standF up W n (k + 1) = (out, (W.drop q).filter up) := by rw [hnx, HQ.out, hOe]
            have HRES := Lib.hid hres
            clear hnx HNX2 hOe hres
            go_wp2_with fail
            exact ⟨⟨k + 1, N, q, out, A8, c8, hlt, by go_num, rfl, hqr, HRES.out, HN.out, by omega, rfl, ho8, hG8⟩, by simp [intOf]; omega⟩
    · have hki : ¬ (k : Int) < (n : Int) := by omega
      have hke : k = n := by omega
      subst hke
      have hfin : standG up (W.take k) ((W.drop k).filter up) = out := by rw [← standF_end, HST.out]
      have HF := Lib.hid hfin
      clear hfin
      go_wp2_with fail
      go_ret
      have hq : RStQ out w (.returned (.slice A8 N c8)) wr := ⟨A8, c8, by rw [HN.out], by rw [HN.out]; exact ho8, hG8⟩
      rw [HF.out]
      exact hq
end Go.Proofs.YtmcnnjcbgbdeeaaDoor