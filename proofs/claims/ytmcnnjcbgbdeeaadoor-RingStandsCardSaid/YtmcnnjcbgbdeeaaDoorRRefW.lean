/- The walk of the reference's order of replicas. No condition. -/
import Derived.Test.YtmcnnjcbgbdeeaaDoorRRefW0
namespace Go.Proofs.YtmcnnjcbgbdeeaaDoor
open Go.RowKit
/-- The replicas while one more is put in. -/
def putA (near : Nat → Nat) (r a : Nat) : List Nat := (nearL near r).take a ++ r :: (nearL near r).drop a
theorem putA_length (near : Nat → Nat) (r a : Nat) : (putA near r a).length = r + 1 := by
  unfold putA
  rw [List.length_append, List.length_cons, ← Nat.add_assoc, ← List.length_append, List.take_append_drop, nearL_length]
/-- Where the order stands. -/
def WalkO (near : Nat → Nat) (reps : Nat) (w : World) (ov fv i : Value) (wr : World) : Prop := ∃ (r : Nat) (AO AF : Option Addr) (cO cF : Nat), r ≤ reps ∧ i = .int .i64 (r : Int) ∧ ov = .slice AO r cO ∧ fv = .slice AF r cF ∧ wr.ownsRow w.heap.size 3 1 ov r (numV (nearL near r)) ∧ wr.ownsRow w.heap.size 24 1 fv r (farV near (nearL near r)) ∧ Gr w wr
def WalkI (near : Nat → Nat) (r gO cO gF cF : Nat) (w : World) (i : Value) (wr : World) : Prop := ∃ a : Nat, a ≤ r ∧ i = .int .i64 (a : Int) ∧ wr.ownsRow w.heap.size 3 1 (.slice (some ⟨gO, 0, none⟩) (r + 1) cO) (r + 1) (numV (putA near r a)) ∧ wr.ownsRow w.heap.size 24 1 (.slice (some ⟨gF, 0, none⟩) (r + 1) cF) (r + 1) (farV near (putA near r a)) ∧ (∀ x ∈ (nearL near r).drop a, near r < near x) ∧ Gr w wr
def intT : Nat → Obj → Bool := fun _ o => match o with | .cells _ t _ => t == 3 | _ => false
def farT : Nat → Obj → Bool := fun _ o => match o with | .cells _ t _ => t == 24 | _ => false
set_option maxRecDepth 100000 in
set_option maxHeartbeats 16000000 in
theorem refWalk_any (K : List UInt8) (hK : K.length = 32) (reps points : Nat) (hr : reps ≤ 8) (hp : points ≤ 64) (w0 : World) :
    Calls Tryd.prog 14 #[.string ⟨K.toArray⟩, .int .i64 (reps : Int), .int .i64 (points : Int)] w0 fun e w' => ∃ v, e = .returned v ∧ w'.ownsRow w0.heap.size 3 1 v reps (numV (nearL (nearOf atP (beNat (K.take 8)) points) reps)) ∧ Gr w0 w' := by
  obtain ⟨i0, hi0, hz0, hz1, hz2⟩ := info_parts (P := Tryd.prog) (e := 3) (z := .int .i64 0) (size := 1) (bytes := 8) (by kernel_rfl)
  obtain ⟨i1, hi1, hy0, hy1, hy2⟩ := info_parts (P := Tryd.prog) (e := 24) (z := .int .u64 0) (size := 1) (bytes := 8) (by kernel_rfl)
  obtain ⟨near, hnear⟩ : ∃ near, near = nearOf atP (beNat (K.take 8)) points := ⟨_, rfl⟩
  have HN : Hid (∀ r : Nat, r ≤ 255 → ∀ w, Calls Tryd.prog 29 #[.string ⟨K.toArray⟩, .int .i64 (r : Int), .int .i64 (points : Int)] w fun e w' => e = .returned (.int .u64 (near r : Nat)) ∧ Gr w w') := fun r h w => by
    rw [hnear]
    exact near_any K hK r points h hp w
  rw [← hnear]
  obtain ⟨sK, hsK⟩ : ∃ s : ByteArray, s = ⟨K.toArray⟩ := ⟨_, rfl⟩
  simp only [← hsK] at HN ⊢
  clear hsK hnear hK
  go_enter Tryd.func14, Tryd.ntmps14
  go_wp2_with fail
  go_simp
  go_loopw [7, 8, 9] (fun ov fv i wr => WalkO near reps w0 ov fv i wr) (fun _ _ i _ => reps - (intOf i).toNat)
  case atStart => exact ⟨0, none, none, 0, 0, Nat.zero_le _, rfl, rfl, rfl, ⟨rfl, .inl ⟨rfl, rfl⟩⟩, ⟨rfl, .inl ⟨rfl, rfl⟩⟩, Gr.refl _⟩
  case round =>
    obtain ⟨r, AO, AF, cO, cF, hrr, rfl, rfl, rfl, hoO, hoF, hG⟩ := hrel
    by_cases hlt : r < reps
    · have hri : (r : Int) < (reps : Int) := by omega
      have hr7 : r ≤ 7 := by omega
      have hP := HN.out r (by omega) wr
      go_wp2_with fail
      refine hP.mono ?_
      rintro e w1 ⟨rfl, hG1⟩
      have hoO1 := Gr.own hG1 hoO
      have hoF1 := Gr.own hG1 hoF
      have hGa := Gr.trans hG hG1
      have hs1 : w0.heap.size ≤ w1.heap.size := hGa.size
      clear hoO hoF hG hG1 hP
      go_upto_region 8 with fail
      go_wp2_with (at_builtin; go_must (refine wpList_appT rfl (.tmp 23) (.tmp 25) 30 rfl w0.heap.size 3 i0 (.int .i64 0) 1 8 Tryd.underlying30 hi0 hz0 hz1 hz2 rfl (by omega) rfl (Gr.own (Gr.alloc _ _) hoO1) ⟨w1.heap.size, 0, none⟩ 1 1 [.int .i64 (r : Int)] rfl rfl (fun j u h => by rw [add_row, Nat.zero_add]; exact (Arr.newAt rfl rfl).cell h) (by simp [Value.oneCell']) (by unfold maxLen; omega) (by omega) (by simp only [asz]; omega) ?_))
      intro AO2 cO2 w2 hoO2 _ hT2
      have hTB := hT2 intT (fun _ _ _ => by simp [intT])
      have hGb : Gr w0 w2 := Below.trans hGa (Below.trans ((Gr.alloc w1 _).mono hs1) (hTB.below (by simp only [asz]; omega)))
      have hoF2 := own_tn (Gr.own (Gr.alloc w1 (.cells #[.int .i64 (r : Int)] 3)) hoF1) hTB (fun k C f => by simp [intT])
      have hs2 : w0.heap.size ≤ w2.heap.size := hGb.size
      clear hT2 hTB hoO1 hoF1 hGa
      go_simp
      go_wp2_with (at_builtin; go_must (refine wpList_appT rfl (.tmp 27) (.tmp 29) 66 rfl w0.heap.size 24 i1 (.int .u64 0) 1 8 Tryd.underlying66 hi1 hy0 hy1 hy2 rfl (by omega) rfl (Gr.own (Gr.alloc _ _) hoF2) ⟨w2.heap.size, 0, none⟩ 1 1 [.int .u64 (near r : Int)] rfl rfl (fun j u h => by rw [add_row, Nat.zero_add]; exact (Arr.newAt rfl rfl).cell h) (by simp [Value.oneCell']) (by unfold maxLen; omega) (by omega) (by simp only [asz]; omega) ?_))
      intro AF3 cF3 w3 hoF3 _ hT3
      have hTB := hT3 farT (fun _ _ _ => by simp [farT])
      have hGc : Gr w0 w3 := Below.trans hGb (Below.trans ((Gr.alloc w2 _).mono hs2) (hTB.below (by simp only [asz]; omega)))
      have hoO3 := own_tn (Gr.own (Gr.alloc w2 (.cells #[.int .u64 (near r : Int)] 24)) hoO2) hTB (fun k C f => by simp [farT])
      clear hT3 hTB hoO2 hoF2 hGb
      obtain ⟨gO, rfl⟩ : ∃ g, AO2 = some ⟨g, 0, none⟩ := by
        obtain ⟨g, e, _⟩ := own_at1 hoO3 (k := r) (u := .int .i64 (r : Int)) (by omega) (by rw [List.getElem?_append_right (by rw [numV_length, nearL_length]; omega), numV_length, nearL_length]; simp)
        exact ⟨g, e⟩
      obtain ⟨gF, rfl⟩ : ∃ g, AF3 = some ⟨g, 0, none⟩ := by
        obtain ⟨g, e, _⟩ := own_at1 hoF3 (k := r) (u := .int .u64 (near r : Int)) (by omega) (by rw [List.getElem?_append_right (by rw [farV_length, nearL_length]; omega), farV_length, nearL_length]; simp)
        exact ⟨g, e⟩
      have hpO : numV (nearL near r) ++ [.int .i64 (r : Int)] = numV (putA near r r) := by
        unfold putA
        rw [List.take_of_length_le (by rw [nearL_length]; omega), List.drop_of_length_le (by rw [nearL_length]; omega)]
        simp [numV]
      have hpF : farV near (nearL near r) ++ [.int .u64 (near r : Int)] = farV near (putA near r r) := by
        unfold putA
        rw [List.take_of_length_le (by rw [nearL_length]; omega), List.drop_of_length_le (by rw [nearL_length]; omega)]
        simp [farV]
      rw [hpO] at hoO3
      rw [hpF] at hoF3
      have hdr : Hid (∀ x ∈ (nearL near r).drop r, near r < near x) := by
        intro x hx
        rw [List.drop_of_length_le (by rw [nearL_length]; omega)] at hx
        cases hx
      clear hpO hpF hs1 hs2
      go_simp
      go_upto_region 9 with fail
      go_loopw [11] (fun i wr => WalkI near r gO cO2 gF cF3 w0 i wr) (fun i _ => (intOf i).toNat)
      case atStart => exact ⟨r, Nat.le_refl _, rfl, hoO3, hoF3, hdr.out, hGc⟩
      case round =>
        obtain ⟨a0, har, rfl, hoO, hoF, hdrop, hG⟩ := hrel
        obtain ⟨Z, hZ⟩ : ∃ Z, Z = putA near r a0 := ⟨_, rfl⟩
        have hZl : Z.length = r + 1 := by rw [hZ, putA_length]
        rw [← hZ] at hoO hoF
        have hSl : (nearL near r).length = r := nearL_length near r
        have HDROP := Lib.hid hdrop
        clear hdrop
        by_cases h0 : a0 = 0
        · subst h0
          have hend : nearL near (r + 1) = Z := by
            rw [nearL_succ, putIn_at (j := 0) HDROP.out (fun x hx => by simp at hx), hZ]
            rfl
          rw [← hend] at hoO hoF
          clear hend hZ hZl hSl HDROP
          go_wp2_with fail
          exact ⟨⟨r + 1, some ⟨gO, 0, none⟩, some ⟨gF, 0, none⟩, cO2, cF3, hlt, by go_num, rfl, rfl, hoO, hoF, hG⟩, by simp [intOf]; omega⟩
        · obtain ⟨a, rfl⟩ : ∃ a, a0 = a + 1 := ⟨a0 - 1, by omega⟩
          obtain ⟨y, hy⟩ : ∃ y, (nearL near r)[a]? = some y := ⟨_, List.getElem?_eq_getElem (by omega)⟩
          have hZy : Z[a]? = some y := by
            rw [hZ]
            unfold putA
            rw [List.getElem?_append_left (by rw [List.length_take]; omega), List.getElem?_take, if_pos (by omega), hy]
          have hX := numV_at hZy
          have hXF := farV_at (near := near) hZy
          obtain ⟨_, e, hcF⟩ := own_at1 hoF (show a < r + 1 by omega) hXF
          injection e with e
          injection e with e
          subst e
          have hai : 0 < ((a + 1 : Nat) : Int) := by omega
          have har' : (a : Int) < (r : Int) := by omega
          have hsub : ((a + 1 : Nat) : Int) - 1 = (a : Int) := by omega
          by_cases hgt : near r < near y
          · have hgi : (near r : Int) < (near y : Int) := by omega
            go_upto_region 10 with fail
            obtain ⟨YS, hYS⟩ : ∃ YS, YS = (numV Z).set (a + 1) (.int .i64 (y : Int)) := ⟨_, rfl⟩
            have HYS : Hid ((numV Z).set (a + 1) (.int .i64 (y : Int)) = YS) := hYS.symm
            have HY2 : Hid (YS[a]? = some (.int .i64 (y : Int))) := by
              show _ = _
              rw [hYS, List.getElem?_set_ne (by omega)]
              exact hX
            have hX2 := hX
            have hswp : Hid ((Z.set (a + 1) y).set a r = putA near r a) := by
              show _ = _
              rw [hZ]
              exact swap_at hy
            have hdrop2 : Hid (∀ x ∈ (nearL near r).drop a, near r < near x) := by
              intro x hx
              rw [List.drop_eq_getElem_cons (show a < (nearL near r).length by omega)] at hx
              rcases List.mem_cons.1 hx with rfl | hx
              · rw [(List.getElem?_eq_some_iff.1 hy).2]; exact hgt
              · exact HDROP.out x hx
            have hGw := hG
            clear hZ hZl hSl HDROP hZy hy hcF
            refine wp_region_cutG (GS w0.heap.size (some ⟨gO, 0, none⟩) (r + 1) cO2 (numV Z) YS) (GS.refl _ _ _ _ _ _) (fun _ _ _ => GS.trans) (by kernel_rfl) [IsV (.slice (some ⟨gO, 0, none⟩) (r + 1) cO2), IsV (.int .i64 ((a + 1 : Nat) : Int)), IsV (.slice (some ⟨gF, 0, none⟩) (r + 1) cF3), IsV (.int .i64 ((a + 1 : Nat) : Int)), IsV (.slice (some ⟨gO, 0, none⟩) (r + 1) cO2), IsV (.int .i64 ((a + 1 : Nat) : Int)), IsV (.int .i64 (a : Int)), IsV (.pointer (some ⟨gO, a, none⟩)), IsV (.int .i64 (y : Int)), IsV (.slice (some ⟨gF, 0, none⟩) (r + 1) cF3), IsV (.int .i64 ((a + 1 : Nat) : Int)), IsV (.int .i64 (a : Int)), IsV (.pointer (some ⟨gF, a, none⟩)), IsV (.int .u64 (near y : Int)), IsV (.pointer (some ⟨gO, a + 1, none⟩)), fun _ w => w.ownsRow w0.heap.size 3 1 (.slice (some ⟨gO, 0, none⟩) (r + 1) cO2) (r + 1) YS] 16 (by decide) (by kernel_rfl) (by kernel_rfl) (by kernel_rfl) ?_ ?_ ?_
            · intro φ hφ v w1 w2 h hg
              simp only [List.mem_cons, List.not_mem_nil, or_false] at hφ
              rcases hφ with rfl | rfl | rfl | rfl | rfl | rfl | rfl | rfl | rfl | rfl | rfl | rfl | rfl | rfl | rfl | rfl
              all_goals first | exact h | exact hg.two h
            · refine ⟨?_, ?_, ?_, ?_, ?_, ?_, ?_, ?_, ?_, ?_, ?_, ?_, ?_, ?_, ?_, ?_, trivial⟩
              · intro a1 w1 hG hF
                exact gstepN (fun _ h => GS.of_gr h) (s_old rfl (wants0 rfl) (.tmp 7) (.inr rfl) (.slice (some ⟨gO, 0, none⟩) (r + 1) cO2) (hF.ol 7 (by kernel_rfl)) rfl)
              · intro a1 w1 hG hF
                exact gstepN (fun _ h => GS.of_gr h) (s_old rfl (wants0 rfl) (.tmp 11) (.inr rfl) (.int .i64 ((a + 1 : Nat) : Int)) (hF.ol 11 (by kernel_rfl)) rfl)
              · intro a1 w1 hG hF
                exact gstepN (fun _ h => GS.of_gr h) (s_old rfl (wants0 rfl) (.tmp 8) (.inr rfl) (.slice (some ⟨gF, 0, none⟩) (r + 1) cF3) (hF.ol 8 (by kernel_rfl)) rfl)
              · intro a1 w1 hG hF
                exact gstepN (fun _ h => GS.of_gr h) (s_old rfl (wants0 rfl) (.tmp 11) (.inr rfl) (.int .i64 ((a + 1 : Nat) : Int)) (hF.ol 11 (by kernel_rfl)) rfl)
              · intro a1 w1 hG hF
                exact gstepN (fun _ h => GS.of_gr h) (s_old rfl (wants0 rfl) (.tmp 7) (.inr rfl) (.slice (some ⟨gO, 0, none⟩) (r + 1) cO2) (hF.ol 7 (by kernel_rfl)) rfl)
              · intro a1 w1 hG hF
                exact gstepN (fun _ h => GS.of_gr h) (s_old rfl (wants0 rfl) (.tmp 11) (.inr rfl) (.int .i64 ((a + 1 : Nat) : Int)) (hF.ol 11 (by kernel_rfl)) rfl)
              · intro a1 w1 hG hF
                obtain ⟨_, e47, rfl⟩ := hF.dp 5 47 (by kernel_rfl)
                exact gstepN (fun _ h => GS.of_gr h) (s_is rfl (wants0 rfl) _ rfl (run_dec (by omega) e47 rfl))
              · intro a1 w1 hG hF
                obtain ⟨_, e46, rfl⟩ := hF.dp 4 46 (by kernel_rfl)
                obtain ⟨_, e48, rfl⟩ := hF.dp 6 48 (by kernel_rfl)
                exact gstepN (fun _ h => GS.of_gr h) (s_is rfl (wants0 rfl) _ rfl (run_idxG Tryd.underlying30 (by kernel_rfl) e46 e48 (by omega)))
              · intro a1 w1 hG hF
                obtain ⟨_, e49, rfl⟩ := hF.dp 7 49 (by kernel_rfl)
                obtain ⟨g', hg', hc1⟩ := hG.cell (Gr.own (Gr.drew wr) hoO) (show a < r + 1 by omega) hX HY2.out
                injection hg' with hg'
                injection hg' with hg'
                subst hg'
                exact gstepN (fun _ h => GS.of_gr h) (s_is rfl (wants0 rfl) _ rfl (run_load1 Tryd.underlying3 e49 hc1))
              · intro a1 w1 hG hF
                exact gstepN (fun _ h => GS.of_gr h) (s_old rfl (wants0 rfl) (.tmp 8) (.inr rfl) (.slice (some ⟨gF, 0, none⟩) (r + 1) cF3) (hF.ol 8 (by kernel_rfl)) rfl)
              · intro a1 w1 hG hF
                exact gstepN (fun _ h => GS.of_gr h) (s_old rfl (wants0 rfl) (.tmp 11) (.inr rfl) (.int .i64 ((a + 1 : Nat) : Int)) (hF.ol 11 (by kernel_rfl)) rfl)
              · intro a1 w1 hG hF
                obtain ⟨_, e52, rfl⟩ := hF.dp 10 52 (by kernel_rfl)
                exact gstepN (fun _ h => GS.of_gr h) (s_is rfl (wants0 rfl) _ rfl (run_dec (by omega) e52 rfl))
              · intro a1 w1 hG hF
                obtain ⟨_, e51, rfl⟩ := hF.dp 9 51 (by kernel_rfl)
                obtain ⟨_, e53, rfl⟩ := hF.dp 11 53 (by kernel_rfl)
                exact gstepN (fun _ h => GS.of_gr h) (s_is rfl (wants0 rfl) _ rfl (run_idxG Tryd.underlying66 (by kernel_rfl) e51 e53 (by omega)))
              · intro a1 w1 hG hF
                obtain ⟨_, e54, rfl⟩ := hF.dp 12 54 (by kernel_rfl)
                obtain ⟨g', hg', hc1⟩ := own_at1 (own_tn hoF ((Tn.of_gr (Gr.drew wr)).trans hG.tn) (fun k C f => blkT_other rfl k C f)) (show a < r + 1 by omega) hXF
                injection hg' with hg'
                injection hg' with hg'
                subst hg'
                exact gstepN (fun _ h => GS.of_gr h) (s_is rfl (wants0 rfl) _ rfl (run_load1 Tryd.underlying24 e54 hc1))
              · intro a1 w1 hG hF
                obtain ⟨_, e42, rfl⟩ := hF.dp 0 42 (by kernel_rfl)
                obtain ⟨_, e43, rfl⟩ := hF.dp 1 43 (by kernel_rfl)
                exact gstepN (fun _ h => GS.of_gr h) (s_is rfl (wants0 rfl) _ rfl (run_idxG Tryd.underlying30 (by kernel_rfl) e42 e43 (by omega)))
              · intro a1 w1 hG hF
                obtain ⟨_, e56, rfl⟩ := hF.dp 14 56 (by kernel_rfl)
                obtain ⟨_, e50, rfl⟩ := hF.dp 8 50 (by kernel_rfl)
                obtain ⟨g', vv, hg', hc1, hf1, ho1, hG1⟩ := hG.set (Gr.own (Gr.drew wr) hoO) (i := a + 1) (u := .int .i64 (y : Int)) (show a + 1 < r + 1 by omega) HYS.out
                injection hg' with hg'
                injection hg' with hg'
                subst hg'
                exact g_skipN rfl rfl _ (run_store1 (by kernel_rfl) e56 e50 (by rw [hc1]; rfl) hf1) ho1 hG1
            · intro vs w1 hG hf
              have z44 : vs 2 = .slice (some ⟨gF, 0, none⟩) (r + 1) cF3 := hf.2.2.1
              have z45 : vs 3 = .int .i64 ((a + 1 : Nat) : Int) := hf.2.2.2.1
              have z55 : vs 13 = .int .u64 (near y : Int) := hf.2.2.2.2.2.2.2.2.2.2.2.2.2.1
              have ho1 : w1.ownsRow w0.heap.size 3 1 (.slice (some ⟨gO, 0, none⟩) (r + 1) cO2) (r + 1) YS := hf.2.2.2.2.2.2.2.2.2.2.2.2.2.2.2.1
              clear hf
              simp only [List.take_succ_cons, List.take_zero, List.drop_succ_cons, List.drop_zero, putAll, Nat.zero_add, Nat.reduceAdd, z44, z45, z55]
              have hT1 : Tn (blkT (some ⟨gO, 0, none⟩) 3) w0.heap.size wr w1 := (Tn.of_gr (Gr.drew wr)).trans hG.tn
              have hoF1 := own_tn hoF hT1 (fun k C f => blkT_other rfl k C f)
              have hG1 : Gr w0 w1 := Below.trans hGw (hT1.below hGw.size)
              rw [← HYS.out, numV_set] at ho1
              obtain ⟨_, vF, e, hcF1, hfF1, hoF2, hTF⟩ := own_setE hoF1 (i := a + 1) (show a + 1 < r + 1 by omega) (.int .u64 (near y : Int))
              injection e with e
              injection e with e
              subst e
              rw [farV_set] at hoF2
              have hoO2 := own_tn ho1 hTF (fun k C f => blkT_other rfl k C f)
              have hG2 : Gr w0 (w1.setCell ⟨gF, a + 1, none⟩ (.int .u64 (near y : Int))) := Below.trans hG1 (hTF.below hG1.size)
              clear hG hT1 hoF1 hG1 ho1 hTF hoO hoF z44 z45 z55
              have hnn : 0 ≤ (a : Int) + 1 := by omega
              unfold wpList
              go_simp
              refine .inl ?_
              unfold wpList
              go_simp
              refine .inl ?_
              unfold wpList
              go_simp
              go_upto_region 11 with fail
              generalize w1.setCell ⟨gF, a + 1, none⟩ (.int .u64 (near y : Int)) = w2 at hoF2 hoO2 hG2 ⊢
              clear hcF1 hfF1
              obtain ⟨_, vO, e, hc1, hf1, hoO3, hT3⟩ := own_setE hoO2 (i := a) (show a < r + 1 by omega) (.int .i64 (r : Int))
              injection e with e
              injection e with e
              subst e
              rw [numV_set, hswp.out] at hoO3
              have hoF3 := own_tn hoF2 hT3 (fun k C f => blkT_other rfl k C f)
              have hG3 : Gr w0 (w2.setCell ⟨gO, a, none⟩ (.int .i64 (r : Int))) := Below.trans hG2 (hT3.below hG2.size)
              obtain ⟨_, vF, e, hc2, hf2, hoF4, hT4⟩ := own_setE hoF3 (i := a) (show a < r + 1 by omega) (.int .u64 (near r : Int))
              injection e with e
              injection e with e
              subst e
              rw [farV_set, hswp.out] at hoF4
              have hoO4 := own_tn hoO3 hT4 (fun k C f => blkT_other rfl k C f)
              have hG4 : Gr w0 ((w2.setCell ⟨gO, a, none⟩ (.int .i64 (r : Int))).setCell ⟨gF, a, none⟩ (.int .u64 (near r : Int))) := Below.trans hG3 (hT4.below hG3.size)
              clear hT3 hoF3 hG3 hT4 hoO3 hoF2 hoO2 hG2
              go_wp2_with fail
              exact ⟨⟨a, by omega, rfl, hoO4, hoF4, hdrop2.out, hG4⟩, by simp [intOf]⟩
          · have hgi : ¬ (near r : Int) < (near y : Int) := by omega
            have hend : nearL near (r + 1) = Z := by
              rw [nearL_succ, putIn_at (j := a + 1) HDROP.out (take_le_last (nearL_rises near r) hy (by omega)), hZ]
              rfl
            rw [← hend] at hoO hoF
            clear hend hZ hZl hSl HDROP hX hXF hZy hy
            go_wp2_with fail
            exact ⟨⟨r + 1, some ⟨gO, 0, none⟩, some ⟨gF, 0, none⟩, cO2, cF3, hlt, by go_num, rfl, rfl, hoO, hoF, hG⟩, by simp [intOf]; omega⟩
    · have hri : ¬ (r : Int) < (reps : Int) := by omega
      have hre : r = reps := by omega
      subst hre
      go_wp2_with fail
      go_ret
      exact ⟨_, rfl, hoO, hG⟩
end Go.Proofs.YtmcnnjcbgbdeeaaDoor
