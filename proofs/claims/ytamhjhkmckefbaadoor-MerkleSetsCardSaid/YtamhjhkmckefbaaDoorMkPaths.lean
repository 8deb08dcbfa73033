/- The walk of the law MerklePaths. No condition. -/
import Derived.Test.YtamhjhkmckefbaaDoorMkTrees
import Derived.Test.YtamhjhkmckefbaaDoorMkOpen
import Derived.Test.YtamhjhkmckefbaaDoorMkWas
import Derived.Test.YtamhjhkmckefbaaDoorMkRefN
import Derived.BigQuiet
import Derived.Deep.CutBlock
import Derived.Deep.CutRange
namespace Go.Proofs.YtamhjhkmckefbaaDoor
open Go.RowKit
def d55 : Nm := ⟨5 :: 5 :: List.replicate 30 0, rfl⟩
/-- A tree of the law's, over a mark. -/
structure TreeB (B : Nat) (w : World) (g b n : Nat) (R : Rw) : Prop where
  is : TreeIs w g b n R
  hg : B ≤ g
  hb : B ≤ b
theorem TreeB.gr {B : Nat} {w w' : World} {g b n : Nat} {R : Rw} (h : TreeB B w g b n R) (hG : Gr w w') : TreeB B w' g b n R := ⟨h.is.gr hG, h.hg, h.hb⟩
theorem act_range {w : World} {A : Option Addr} {n : Nat} {f : Nat → ActM} (h : Acts w A n f) {i : Nat} (hi : i < n) : ∃ b o, A = some ⟨b, o, none⟩ ∧ w.rangeAt b (o + i * 34) (actC (f i)) := h i hi
theorem infoAct (a : ActM) : (Tryd.prog.info? 41).map (·.size) = some (actC a).length := by rw [actC_length]; kernel_rfl
/-- The first loop. -/
def FillR (B g b m : Nat) (w0 : World) (k : Value) (w : World) : Prop := ∃ (i : Nat) (R : Rw), i ≤ m ∧ k = .int .i64 (i : Int) ∧ TreeB B w g b i R ∧ Tn (treeT g b) B w0 w
theorem FillR.out {B g b m : Nat} {w0 : World} {k : Value} {w : World} (h : FillR B g b m w0 k w) : ∃ (i : Nat) (R : Rw), i ≤ m ∧ k = .int .i64 (i : Int) ∧ TreeB B w g b i R ∧ Tn (treeT g b) B w0 w := h
set_option maxRecDepth 100000 in
set_option maxHeartbeats 8000000 in
theorem law_paths (A : Option Addr) (n c : Nat) (f : Nat → ActM) (a : ActM) (w : World) (hA : Acts w A n f) (gw : Glob w) :
    Calls Tryd.prog 5 #[.slice A n c, .agg (actC a).toArray] w fun e w' => e = .returned (.bool true) ∧ Below w.heap.size w w' := by
  have hl := actC_length a
  have gl := Glob.lowG gw
  have HA := Lib.hid hA
  obtain ⟨m, hm⟩ : ∃ m : Nat, m = min n 16 := ⟨_, rfl⟩
  have hmn : m ≤ n := by omega
  have hm16 : m ≤ 16 := by omega
  have HMM : Hid (m = min n 16) := Lib.hid hm
  clear hm hA
  go_enter Tryd.func5, Tryd.ntmps5
  go_upto_region 1 with fail
  have h3 : Arr (w.alloc (.cells (actC a).toArray 41)) w.heap.size 41 (actC a) := Arr.newAt rfl rfl
  have gb : Gr w (w.alloc (.cells (actC a).toArray 41)) := Gr.alloc _ _
  try change Code.wp _ _ _ _ (w.alloc (.cells (actC a).toArray 41))
  generalize w.alloc (.cells (actC a).toArray 41) = w0 at h3 gb ⊢
  obtain ⟨B, hBe⟩ : ∃ B, B = w.heap.size := ⟨_, rfl⟩
  have hB0 : B ≤ w0.heap.size := by rw [hBe]; exact gb.size
  have hBw : Hid (B = w.heap.size) := Lib.hid hBe
  rw [← hBe] at h3 gl ⊢
  have h3' := h3
  clear h3 hBe hl
  go_upto_block 0 with first
    | (go_at_call 13; refine (new_is _).mono ?_; rintro e w1 ⟨g, b, rfl, hT1, hg, hb, hG1⟩; have gw1 := Glob.gr hG1 (Glob.gr gb gw))
    | (go_at_call 9; refine (trees_any gw1).mono ?_; rintro e w2 ⟨rfl, hG2⟩)
  have hT2 : TreeB B w2 g b 0 [] := ⟨hT1.gr hG2, Nat.le_trans hB0 hg, Nat.le_trans hB0 hb⟩
  have gw2 : Glob w2 := Glob.gr hG2 gw1
  have hB2 : B ≤ w2.heap.size := Nat.le_trans hB0 (hG1.trans hG2).size
  have hA2 := Lib.hid (HA.out.gr (gb.trans (hG1.trans hG2)))
  have h32 := h3'.gr (hG1.trans hG2)
  have hBl2 : Below B w w2 := by rw [hBw.out]; exact gb.trans (hG1.trans hG2)
  clear hT1 hg hb hG1 hG2 gw1 h3' gb
  go_cut [] from 6 to 40 (fun wx => ∃ R, TreeB B wx g b m R ∧ Tn (treeT g b) B w2 wx)
  case first =>
    go_upto_region 5 with fail
    go_loopw [6] (fun k wr => FillR B g b m w2 k wr) (fun k _ => m - (intOf k).toNat)
    case atStart => exact ⟨0, [], by omega, rfl, hT2, Tn.refl _⟩
    case round =>
      obtain ⟨i, R, hi, rfl, hTr, hTnr⟩ := FillR.out hrel
      clear hrel
      have hBr : B ≤ wr.heap.size := Nat.le_trans hB2 hTnr.size
      have gwr : Glob wr := gw2.keep (hTnr.below hB2) gl
      have HTr := Lib.hid hTr
      have HTnr := Lib.hid hTnr
      clear hTr hTnr
      by_cases hlt : i < m
      · have hin : i < n := by omega
        have hi16 : i < 16 := by omega
        have hAr : Acts wr A n f := fun q hq => by
          obtain ⟨bA, oA, e, hr⟩ := HA.out q hq
          refine ⟨bA, oA, e, fun j u hu => ?_⟩
          have hc := hr j u hu
          exact (World.cell?_of_block ((Below.trans hBl2 (HTnr.out.below hB2)).block _ (by rw [hBw.out]; exact lt_of_cell hc))).trans hc
        obtain ⟨bA, oA, hAe, rgA⟩ := act_range hAr hin
        subst hAe
        have c1 : (i : Int) < (n : Int) := by omega
        have c2 : (i : Int) < 16 := by omega
        go_upto_region 7 with fail
        refine wp_region_cut (by kernel_rfl) [IsV (.pointer (some ⟨g, 0, none⟩)), IsV (.slice (some ⟨bA, oA, none⟩) n c), IsV (.int .i64 (i : Int)), IsV (.pointer (some ⟨bA, oA + i * 34, none⟩)), IsV (.agg (actC (f i)).toArray), IsV (by32 (f i).name.1), IsV (.slice (some ⟨bA, oA, none⟩) n c), IsV (.int .i64 (i : Int)), IsV (.pointer (some ⟨bA, oA + i * 34, none⟩)), IsV (.agg (actC (f i)).toArray), IsV (by32 (f i).digest.1)] 11 (by decide) (by kernel_rfl) (by kernel_rfl) (by kernel_rfl) ?_ ?_ ?_
        · intro φ hφ v w1 w2 h hg
          simp only [List.mem_cons, List.not_mem_nil, or_false] at hφ
          rcases hφ with rfl | rfl | rfl | rfl | rfl | rfl | rfl | rfl | rfl | rfl | rfl <;> exact h
        · refine ⟨?_, ?_, ?_, ?_, ?_, ?_, ?_, ?_, ?_, ?_, ?_, trivial⟩
          · intro a1 w1 hG hF
            exact s_old rfl (wants0 rfl) (.tmp 5) (.inr rfl) (.pointer (some ⟨g, 0, none⟩)) (hF.ol 5 (by kernel_rfl)) rfl
          · intro a1 w1 hG hF
            exact s_old rfl (wants0 rfl) (.tmp 0) (.inr rfl) (.slice (some ⟨bA, oA, none⟩) n c) (hF.ol 0 (by kernel_rfl)) rfl
          · intro a1 w1 hG hF
            exact s_old rfl (wants0 rfl) (.tmp 6) (.inr rfl) (.int .i64 (i : Int)) (hF.ol 6 (by kernel_rfl)) rfl
          · intro a1 w1 hG hF
            obtain ⟨_, e1, rfl⟩ := hF.dp 1 30 (by kernel_rfl)
            obtain ⟨_, e2, rfl⟩ := hF.dp 2 31 (by kernel_rfl)
            exact s_is rfl (wants0 rfl) _ rfl (by simp only [execOp, e1, e2]; go_simp; try (intro h; omega))
          · intro a1 w1 hG hF
            obtain ⟨_, e1, rfl⟩ := hF.dp 3 32 (by kernel_rfl)
            exact s_wp rfl (wants0 rfl) (wp_load_mid _ _ rfl bA (oA + i * 34) e1 (actC (f i)) _ (((Gr.drew wr).trans hG).range rgA) Tryd.underlying41 rfl (infoAct _) ⟨_, rfl, rfl, Gr.refl _⟩)
          · intro a1 w1 hG hF
            obtain ⟨_, e1, rfl⟩ := hF.dp 4 33 (by kernel_rfl)
            exact s_call rfl (wants0 rfl) _ rfl _ _ (by simp only [execOp, resolve, invoke, List.map_toArray, List.map_cons, List.map_nil, e1]; go_simp) ((key_act (f i) w1).mono fun e w2 ⟨he, hb⟩ => ⟨_, he, rfl, hb⟩)
          · intro a1 w1 hG hF
            exact s_old rfl (wants0 rfl) (.tmp 0) (.inr rfl) (.slice (some ⟨bA, oA, none⟩) n c) (hF.ol 0 (by kernel_rfl)) rfl
          · intro a1 w1 hG hF
            exact s_old rfl (wants0 rfl) (.tmp 6) (.inr rfl) (.int .i64 (i : Int)) (hF.ol 6 (by kernel_rfl)) rfl
          · intro a1 w1 hG hF
            obtain ⟨_, e1, rfl⟩ := hF.dp 6 35 (by kernel_rfl)
            obtain ⟨_, e2, rfl⟩ := hF.dp 7 36 (by kernel_rfl)
            exact s_is rfl (wants0 rfl) _ rfl (by simp only [execOp, e1, e2]; go_simp; try (intro h; omega))
          · intro a1 w1 hG hF
            obtain ⟨_, e1, rfl⟩ := hF.dp 8 37 (by kernel_rfl)
            exact s_wp rfl (wants0 rfl) (wp_load_mid _ _ rfl bA (oA + i * 34) e1 (actC (f i)) _ (((Gr.drew wr).trans hG).range rgA) Tryd.underlying41 rfl (infoAct _) ⟨_, rfl, rfl, Gr.refl _⟩)
          · intro a1 w1 hG hF
            obtain ⟨_, e1, rfl⟩ := hF.dp 9 38 (by kernel_rfl)
            exact s_call rfl (wants0 rfl) _ rfl _ _ (by simp only [execOp, resolve, invoke, List.map_toArray, List.map_cons, List.map_nil, e1]; go_simp) ((digest_act (f i) w1).mono fun e w2 ⟨he, hb⟩ => ⟨_, he, rfl, hb⟩)
        · intro vs w1 hG hf
          have y0 : vs 0 = .pointer (some ⟨g, 0, none⟩) := hf.1
          have y5 : vs 5 = by32 (f i).name.1 := hf.2.2.2.2.2.1
          have y10 : vs 10 = by32 (f i).digest.1 := hf.2.2.2.2.2.2.2.2.2.2.1
          clear hf
          simp only [List.take_succ_cons, List.take_zero, List.drop_succ_cons, List.drop_zero, putAll, Nat.zero_add, Nat.reduceAdd, y0, y5, y10]
          have hG1 := (Gr.drew wr).trans hG
          have hSet := set_is (HTr.out.is.gr hG1) (by omega : i ≤ 9000) (f i).name (f i).digest HTr.out.hg HTr.out.hb (Nat.le_trans hBr hG1.size) (Glob.gr hG1 gwr) gl
          have HSet := Lib.hid hSet
          clear hSet y0 y5 y10
          unfold wpList
          go_simp
          refine .inl (HSet.out.mono ?_)
          rintro e w3 ⟨rfl, hT3, hTn3⟩
          have hR3 : FillR B g b m w2 (.int .i64 ((i : Int) + 1)) w3 := ⟨i + 1, _, by omega, by simp, ⟨hT3, HTr.out.hg, HTr.out.hb⟩, HTnr.out.trans ((Tn.of_gr hG1).trans hTn3)⟩
          clear hT3 hTn3 HSet
          unfold wpList
          go_simp
          go_wp2_with fail
          exact ⟨hR3, by simp only [intOf]; omega⟩
      · obtain rfl : i = m := by omega
        by_cases hc : i < n
        · have c1 : (i : Int) < (n : Int) := by omega
          have c2 : ¬ (i : Int) < 16 := by have := HMM.out; omega
          go_wp2_with fail
          go_meet
          exact ⟨R, HTr.out, HTnr.out⟩
        · have c1 : ¬ (i : Int) < (n : Int) := by omega
          go_wp2_with fail
          go_meet
          exact ⟨R, HTr.out, HTnr.out⟩
  case rest =>
    obtain ⟨R, hTc, hTnc⟩ := hcut
    have hwc : Below B w wc := Below.trans hBl2 (hTnc.below hB2)
    have hBwc : B ≤ wc.heap.size := Nat.le_trans hB2 hTnc.size
    have h3c := h32.tn hTnc (fun C f => treeT_cells rfl)
    obtain ⟨gW, hgW⟩ : ∃ g, g = wc.heap.size := ⟨_, rfl⟩
    have hgWB : B ≤ gW := by rw [hgW]; exact hBwc
    go_upto_block 2 with (refine wpList_valW rfl _ _ (run_allocR wc) ?_)
    rw [← hgW]
    have hW0 : RowsAt (wc.alloc (.cells noughts.toArray 55)) gW (fun _ _ => Z32) := by
      unfold RowsAt
      rw [nodesT_zero, hgW]
      exact Arr.newAt rfl rfl
    have hGa : Gr wc (wc.alloc (.cells noughts.toArray 55)) := Gr.alloc _ _
    generalize wc.alloc (.cells noughts.toArray 55) = wd at hW0 hGa ⊢
    have hTd := Lib.hid (hTc.gr hGa)
    have h3d := h3c.gr hGa
    have hwd : Below B w wd := Below.trans hwc (Below.mono hGa hBwc)
    have hBwd : B ≤ wd.heap.size := Nat.le_trans hBwc hGa.size
    have hWd : WasR B gW R wd 0 0 wd := ⟨_, hW0, fun _ _ => rfl, fun x a _ _ hc => by omega, Tn.refl _⟩
    clear hTc hTnc h3c hwc hBwc hgW hW0 hGa h32 hBl2 hB2 hT2 hA2 gw2
    go_cut [] from 8 to 61 (fun wx => WasR B gW R wd 5 0 wx)
    case first =>
      go_upto_region 10 with fail
      go_loopw [8] (fun k wr => ∃ l : Nat, l ≤ 5 ∧ k = .int .i64 (l : Int) ∧ WasR B gW R wd l 0 wr) (fun k _ => 5 - (intOf k).toNat)
      case atStart => exact ⟨0, by omega, rfl, hWd⟩
      case round =>
        obtain ⟨l, hl, rfl, hWl⟩ := hrel
        by_cases hl5 : l < 5
        · have HWl := Lib.hid hWl
          clear hWl
          obtain ⟨P, hP⟩ : ∃ P, P = 4 ^ l := ⟨_, rfl⟩
          have hWide : Hid (∀ w, Calls Tryd.prog 17 #[.int .i64 (l : Int)] w fun e w' => e = .returned (.int .i64 (P : Int)) ∧ w = w') := Lib.hid (fun w => by rw [hP]; exact wide_ref l (by omega) w)
          have HP := Lib.hid hP
          clear hP
          have cl : (l : Int) ≤ 4 := by omega
          go_upto_region 13 with fail
          go_loopw [9] (fun k wr => ∃ q : Nat, q ≤ P ∧ k = .int .i64 (q : Int) ∧ WasR B gW R wd l q wr) (fun k _ => P - (intOf k).toNat)
          case atStart => exact ⟨0, by omega, rfl, HWl.out⟩
          case round =>
            obtain ⟨q, hq, rfl, hWq⟩ := hrel
            have HWq := Lib.hid hWq
            clear hWq
            by_cases hqP : q < P
            · have hql : q < 4 ^ l := by rw [← HP.out]; exact hqP
              have hq256 := pow_256 hl5 hql
              have cq : (q : Int) < (P : Int) := by omega
              obtain ⟨D, hD⟩ : ∃ D, D = nodeR R (4 - l) q := ⟨_, rfl⟩
              have hDl : D.length = 32 := by rw [hD]; exact nodeR_length _ _ _
              have HNode : Hid (∀ w1, Tn (wasT gW) B wr w1 → Calls Tryd.prog 7 #[.pointer (some ⟨g, 0, none⟩), .int .i64 (l : Int), .int .i64 (q : Int)] w1 fun e w' => e = .returned (.tuple #[by32 D, .int .i64 0]) ∧ Gr w1 w') := Lib.hid (fun w1 hT1 => by
                rw [hD]
                refine node_is (b := b) (n := m) ?_ l q hl5 hql
                obtain ⟨N, h1, h2, h3, h4⟩ := HWq.out
                exact hTd.out.is.tn (h4.trans hT1) (fun _ _ => rfl) (fun C f => by simp [wasT]))
              have HD := Lib.hid hD
              have HQL := Lib.hid hql
              clear hD
              go_upto_region 15 with (go_at_call 17; refine (hWide.out _).mono ?_; rintro e w4 ⟨rfl, rfl⟩)
              refine wp_region_ssaG (GW B gW l q R wd) (fun _ _ _ => GW.trans) (by kernel_rfl) [IsV (.int .i64 (l : Int)), IsV (.int .i64 (q : Int)), IsV (.pointer (some ⟨g, 0, none⟩)), IsV (.int .i64 (l : Int)), IsV (.int .i64 (q : Int)), IsV (.tuple #[by32 D, .int .i64 0]), IsV (.tuple #[by32 D, .int .i64 0]), IsV (by32 D), IsV (.int .i64 0), IsV (.pointer (some ⟨gW, l * 8192, none⟩)), IsV (.pointer (some ⟨gW, l * 8192 + q * 32, none⟩)), fun _ w => WasR B gW R wd l (q + 1) w] (by kernel_rfl) (GW.refl _) ?_ ?_ ?_
              · intro φ hφ v w1 w2 h hg
                simp only [List.mem_cons, List.not_mem_nil, or_false] at hφ
                rcases hφ with rfl | rfl | rfl | rfl | rfl | rfl | rfl | rfl | rfl | rfl | rfl | rfl
                all_goals first | exact h | exact hg.new h
              · refine ⟨?_, ?_, ?_, ?_, ?_, ?_, ?_, ?_, ?_, ?_, ?_, ?_, trivial⟩
                · intro a1 w1 hG hF
                  exact g_stepR (fun _ h => GW.of_gr h) (s_old rfl (wants0 rfl) (.tmp 8) (.inr rfl) (.int .i64 (l : Int)) (hF.ol 8 (by kernel_rfl)) rfl)
                · intro a1 w1 hG hF
                  exact g_stepR (fun _ h => GW.of_gr h) (s_old rfl (wants0 rfl) (.tmp 9) (.inr rfl) (.int .i64 (q : Int)) (hF.ol 9 (by kernel_rfl)) rfl)
                · intro a1 w1 hG hF
                  exact g_stepR (fun _ h => GW.of_gr h) (s_old rfl (wants0 rfl) (.tmp 5) (.inr rfl) (.pointer (some ⟨g, 0, none⟩)) (hF.ol 5 (by kernel_rfl)) rfl)
                · intro a1 w1 hG hF
                  exact g_stepR (fun _ h => GW.of_gr h) (s_old rfl (wants0 rfl) (.tmp 8) (.inr rfl) (.int .i64 (l : Int)) (hF.ol 8 (by kernel_rfl)) rfl)
                · intro a1 w1 hG hF
                  exact g_stepR (fun _ h => GW.of_gr h) (s_old rfl (wants0 rfl) (.tmp 9) (.inr rfl) (.int .i64 (q : Int)) (hF.ol 9 (by kernel_rfl)) rfl)
                · intro a1 w1 hG hF
                  obtain ⟨_, e1, rfl⟩ := hF.dp 2 54 (by kernel_rfl)
                  obtain ⟨_, e2, rfl⟩ := hF.dp 3 55 (by kernel_rfl)
                  obtain ⟨_, e3, rfl⟩ := hF.dp 4 56 (by kernel_rfl)
                  have hc := HNode.out w1 ((Tn.of_gr (Gr.drew wr)).trans hG.tn)
                  exact g_stepR (fun _ h => GW.of_gr h) (s_call rfl (wants0 rfl) _ rfl _ _ (by simp only [execOp, resolve, invoke, List.map_toArray, List.map_cons, List.map_nil, e1, e2, e3]; go_simp) (hc.mono fun e w2 ⟨he, hb⟩ => ⟨_, he, rfl, hb⟩))
                · intro a1 w1 hG hF
                  exact g_stepR (fun _ h => GW.of_gr h) (s_same rfl (wants0 rfl) (.tmp 57) (.inr rfl) (hF.dp 5 57 (by kernel_rfl)))
                · intro a1 w1 hG hF
                  obtain ⟨_, e1, rfl⟩ := hF.dp 6 51 (by kernel_rfl)
                  exact g_stepR (fun _ h => GW.of_gr h) (s_is rfl (wants0 rfl) _ rfl (by simp only [execOp, e1]; go_simp))
                · intro a1 w1 hG hF
                  obtain ⟨_, e1, rfl⟩ := hF.dp 6 51 (by kernel_rfl)
                  exact g_stepR (fun _ h => GW.of_gr h) (s_is rfl (wants0 rfl) _ rfl (by simp only [execOp, e1]; go_simp))
                · intro a1 w1 hG hF
                  obtain ⟨_, e1, rfl⟩ := hF.dp 0 52 (by kernel_rfl)
                  have e7 : a1.eval (.tmp 7) = .pointer (some ⟨gW, 0, none⟩) := hF.ol 7 (by kernel_rfl)
                  exact g_stepR (fun _ h => GW.of_gr h) (s_is rfl (wants0 rfl) _ rfl (by simp only [execOp, e1, e7]; go_simp; try (intro h; omega)))
                · intro a1 w1 hG hF
                  obtain ⟨_, e1, rfl⟩ := hF.dp 1 53 (by kernel_rfl)
                  obtain ⟨_, e2, rfl⟩ := hF.dp 9 60 (by kernel_rfl)
                  exact g_stepR (fun _ h => GW.of_gr h) (s_is rfl (wants0 rfl) _ rfl (by simp only [execOp, e1, e2]; go_simp; try (intro h; omega)))
                · intro a1 w1 hG hF
                  obtain ⟨_, e1, rfl⟩ := hF.dp 10 61 (by kernel_rfl)
                  obtain ⟨_, e2, rfl⟩ := hF.dp 7 58 (by kernel_rfl)
                  have hW1 := hG.old (HWq.out.gr (Gr.drew wr))
                  have hth : w1.there gW (l * 8192 + q * 32) 32 := by
                    obtain ⟨N, h1, h2, _⟩ := hW1
                    exact RowsAt.there h1 h2 hl5 hq256
                  obtain ⟨hs1, hs2⟩ := GW.store hgWB hl5 HQL.out hW1
                  rw [← HD.out] at hs1 hs2
                  refine g_wpR rfl rfl (wp_store_mid _ _ _ rfl gW (l * 8192 + q * 32) (u8s D).toArray e1 e2 (by simpa [u8s_length, hDl] using hth) (by have := infoD D hDl; simpa using this) (all_oneCell_toArray (u8s_oneCell _)) ?_)
                  rw [List.toList_toArray]
                  exact ⟨undef, rfl, hs2, hs1⟩
              · intro vs w1 hG hf
                have hN7 : WasR B gW R wd l (q + 1) w1 := hf.2.2.2.2.2.2.2.2.2.2.2.1
                clear hf
                simp only [putAll, Nat.zero_add, Nat.reduceAdd]
                have HNx := Lib.hid hN7
                clear hN7 hG
                go_simp
                go_wp2_with fail
                exact ⟨⟨q + 1, by omega, by simp, HNx.out⟩, by simp only [intOf]; omega⟩
            · have cq : ¬ (q : Int) < (P : Int) := by omega
              have HW2 : Hid (WasR B gW R wd (l + 1) 0 wr) := Lib.hid (HWq.out.row (by rw [← HP.out]; omega))
              go_wp2_with (go_at_call 17; refine (hWide.out _).mono ?_; rintro e w4 ⟨rfl, rfl⟩)
              exact ⟨⟨l + 1, by omega, by simp, HW2.out⟩, by simp only [intOf]; omega⟩
        · have hl5' : l = 5 := by omega
          have cl : ¬ (l : Int) ≤ 4 := by omega
          subst hl5'
          go_wp2_with fail
          go_meet
          exact hWl
    case rest =>
      obtain ⟨N, hN1, hNF, hN2, hTn5⟩ := hcut
      have hT5 : TreeIs wc g b m R := hTd.out.is.tn hTn5 (fun _ _ => rfl) (fun C f => by simp [wasT])
      have hgB := hTd.out.hg
      have hbB := hTd.out.hb
      have h3e := h3d.tn hTn5 (fun C f => by simp [wasT])
      have hwc : Below B w wc := Below.trans hwd (hTn5.below hBwd)
      have hBwc : B ≤ wc.heap.size := Nat.le_trans hBwd hTn5.size
      have gwc : Glob wc := gw.keep hwc gl
      have HT5 := Lib.hid hT5
      have HN2 := Lib.hid hN2
      have HNF := Lib.hid hNF
      have hnl := a.name.2
      clear hT5 hN2 hNF hTn5 h3d hTd hwd hWd
      go_upto_region 17 with first
        | (refine wpList_load_mid rfl _ _ rfl B 0 rfl (actC a) _ (Arr.range h3e) Tryd.underlying41 rfl (infoAct a) ?_)
        | (go_at_call 14; refine (key_act a _).mono ?_; rintro e w6 ⟨rfl, hG6⟩)
        | (refine wpList_new (w := w6) (t := 30) rfl _ _ _ rfl w6.heap.size (u8s a.name.1) rfl rfl rfl (by rw [u8s_length, hnl]; kernel_rfl) (infoN a.name) (u8s_oneCell _) ?_; intro w7 hA7 hG7)
      have hG67 := hG6.trans hG7
      obtain ⟨g10, hg10⟩ : ∃ g, g = w6.heap.size := ⟨_, rfl⟩
      rw [← hg10] at hA7 ⊢
      clear hg10
      have hSet := set_is (HT5.out.gr hG67) (by omega : m ≤ 9000) a.name d55 hgB hbB (Nat.le_trans hBwc hG67.size) (Glob.gr hG67 gwc) gl
      have HSet := Lib.hid hSet
      have hN7 : RowsAt w7 gW N := Arr.gr hN1 hG67
      have hw7 : Below B w w7 := Below.trans hwc (Below.mono hG67 hBwc)
      clear hSet hN1 h3e hG6 hG7
      go_upto_region 18 with first
        | (refine wpList_loadW rfl 30 (.tmp 10) rfl rfl hA7 ⟨_, _, Tryd.underlying30⟩ (infoN a.name) ?_)
        | (go_at_call 8; refine HSet.out.mono ?_; rintro e w8 ⟨rfl, hT8, hTn8⟩)
      have hA8 := hA7.tn hTn8 (fun C f => treeT_cells rfl)
      have hN8 : RowsAt w8 gW N := Arr.tn hN7 hTn8 (fun C f => treeT_cells rfl)
      have hB7 : B ≤ w7.heap.size := Nat.le_trans hBwc hG67.size
      have hw8 : Below B w w8 := Below.trans hw7 (hTn8.below hB7)
      have hB8 : B ≤ w8.heap.size := Nat.le_trans hB7 hTn8.size
      have HT8 := Lib.hid hT8
      have HS := HT8.out.sorted
      have HA8 := Lib.hid hA8
      have HN8 := Lib.hid hN8
      obtain ⟨a0, ha0⟩ : ∃ a0, a0 = leafOf a.name := ⟨_, rfl⟩
      have ha256 : a0 < 256 := by rw [ha0]; exact leafOf_lt _
      have HA0 := Lib.hid ha0
      clear hT8 hTn8 hA7 hN7 hw7 hB7 HSet hG67 HT5 hgB hbB gwc hwc hBwc hA8 hN8 ha0 HS
      go_upto_block 6 with fail
      go_cut [] from 11 to 109 (fun wx => Gr w8 wx)
      case first =>
        go_upto_region 19 with fail
        go_loopw [11] (fun k wr => ∃ l : Nat, l ≤ 5 ∧ k = .int .i64 (l : Int) ∧ Gr w8 wr) (fun k _ => 5 - (intOf k).toNat)
        case atStart => exact ⟨0, by omega, rfl, Gr.refl _⟩
        case round =>
          obtain ⟨l, hl, rfl, hGl⟩ := hrel
          by_cases hl5 : l < 5
          · obtain ⟨P, hP⟩ : ∃ P, P = 4 ^ l := ⟨_, rfl⟩
            have hWide : Hid (∀ w, Calls Tryd.prog 17 #[.int .i64 (l : Int)] w fun e w' => e = .returned (.int .i64 (P : Int)) ∧ w = w') := Lib.hid (fun w => by rw [hP]; exact wide_ref l (by omega) w)
            have HP := Lib.hid hP
            clear hP
            have cl : (l : Int) ≤ 4 := by omega
            go_upto_region 22 with fail
            go_loopw [12] (fun k wr => ∃ q : Nat, q ≤ P ∧ k = .int .i64 (q : Int) ∧ Gr w8 wr) (fun k _ => P - (intOf k).toNat)
            case atStart => exact ⟨0, by omega, rfl, hGl⟩
            case round =>
              obtain ⟨q, hq, rfl, hGq⟩ := hrel
              by_cases hqP : q < P
              · have hql : q < 4 ^ l := by rw [← HP.out]; exact hqP
                have hq256 := pow_256 hl5 hql
                have cq : (q : Int) < (P : Int) := by omega
                obtain ⟨D, hD⟩ : ∃ D, D = nodeR (setR R a.name d55) (4 - l) q := ⟨_, rfl⟩
                have hDl : D.length = 32 := by rw [hD]; exact nodeR_length _ _ _
                have HNode : Hid (Calls Tryd.prog 7 #[.pointer (some ⟨g, 0, none⟩), .int .i64 (l : Int), .int .i64 (q : Int)] wr fun e w' => e = .returned (.tuple #[by32 D, .int .i64 0]) ∧ Gr wr w') := Lib.hid (by
                  rw [hD]
                  exact node_is (HT8.out.gr hGq) l q hl5 hql)
                have HD := Lib.hid hD
                have HQL := Lib.hid hql
                clear hD hql
                go_upto_region 25 with first
                  | (go_at_call 17; refine (hWide.out _).mono ?_; rintro e w4 ⟨rfl, rfl⟩)
                  | (go_at_call 7; refine HNode.out.mono ?_; rintro e w4 ⟨rfl, hG4⟩)
                  | (refine wpList_new (w := w4) (t := 23) rfl _ _ _ rfl w4.heap.size (u8s D) rfl rfl rfl (by rw [u8s_length, hDl]; kernel_rfl) (infoD D hDl) (u8s_oneCell _) ?_; intro w5 hA5 hG5)
                have hG45 := hG4.trans hG5
                obtain ⟨g13, hg13⟩ : ∃ g, g = w4.heap.size := ⟨_, rfl⟩
                rw [← hg13] at hA5 ⊢
                have hGq5 := hGq.trans hG45
                have kc : w5.cell? ⟨g10, 0, none⟩ = some (.int .u8 (a0 : Int)) := by
                  rw [HA0.out]
                  exact (HA8.out.gr hGq5).cell (u8s_at (by rw [List.getD_eq_getElem?_getD, List.getElem?_eq_getElem (by rw [hnl]; omega)]; rfl))
                clear hg13 hG4 hG5 hGq hG45 HNode
                obtain ⟨bq, hbq⟩ : ∃ bq, bq = decide (a0 / 4 ^ (4 - l) = q) := ⟨_, rfl⟩
                have HBQ := Lib.hid hbq
                clear hbq
                go_cut [15] from 72 to 109 (fun v wx => v = .bool bq ∧ Gr w5 wx)
                case first =>
                  obtain rfl | rfl | rfl | rfl | rfl : l = 0 ∨ l = 1 ∨ l = 2 ∨ l = 3 ∨ l = 4 := by omega
                  all_goals
                    go_quiet (fail)
                    go_wp2_with fail
                    go_meet
                    refine ⟨?_, below_dr ⟨_, rfl⟩⟩
                    have h1 := HBQ.out
                    simp only [Nat.reduceSub, Nat.reducePow, Nat.div_one] at h1
                    rw [h1]
                    congr 1
                    rw [Bool.eq_iff_iff, beq_iff_eq, decide_eq_true_eq]
                    omega
                case rest =>
                  obtain ⟨rfl, hGx⟩ := hcut
                  obtain ⟨wq, hwq⟩ : ∃ w, w = wc := ⟨_, rfl⟩
                  rw [← hwq] at hGx ⊢
                  clear hwq kc
                  have hA13 := hA5.gr hGx
                  have hGqx := hGq5.trans hGx
                  have hNq : RowsAt wq gW N := Arr.gr HN8.out hGqx
                  obtain ⟨E, hE⟩ : ∃ E, E = N l q := ⟨_, rfl⟩
                  have hEl : E.length = 32 := by rw [hE]; exact HNF.out l q
                  have hrE : wq.rangeAt gW (l * 8192 + q * 32) (u8s E) := by rw [hE]; exact hNq.range HNF.out hl5 hq256
                  have hEn : E = nodeR R (4 - l) q := by rw [hE]; exact HN2.out l q hl5 HQL.out (.inl hl5)
                  have hoff : bq = false → D = E := fun hb => by
                    rw [HD.out, hEn]
                    refine nodeR_off R a.name d55 ?_
                    rw [← HA0.out]
                    intro e
                    rw [HBQ.out, decide_eq_true e] at hb
                    cases hb
                  have HGq := Lib.hid hGqx
                  clear hA5 hGx hGq5 hNq hE hEn hGqx
                  by_cases hDE : D = E
                  · have HDE : Hid (false = !(D == E)) := Lib.hid (by rw [hDE]; simp)
                    clear hoff hDE
                    go_upto_region 26 with fail
                    refine wp_region_ssaL (by kernel_rfl) [IsV (.int .i64 ((0 : Nat) : Int)), IsV (.bool false), IsV (.bool false), IsV (.agg (u8s (D)).toArray), IsV (.int .i64 ((l : Nat) : Int)), IsV (.int .i64 ((q : Nat) : Int)), IsV (.pointer (some ⟨gW, l * 8192, none⟩)), IsV (.pointer (some ⟨gW, l * 8192 + q * 32, none⟩)), IsV (.agg (u8s (E)).toArray), IsV (.bool false), IsV (.bool false), IsV (undef), IsV (undef), IsV (.bool false), IsV (.bool false)] (by kernel_rfl) ?_ ?_ ?_
                    · intro φ hφ v w1 w2 h hg
                      simp only [List.mem_cons, List.not_mem_nil, or_false] at hφ
                      rcases hφ with rfl | rfl | rfl | rfl | rfl | rfl | rfl | rfl | rfl | rfl | rfl | rfl | rfl | rfl | rfl
                      all_goals first | exact h | exact RdV.gr h hg
                    · refine ⟨?_, ?_, ?_, ?_, ?_, ?_, ?_, ?_, ?_, ?_, ?_, ?_, ?_, ?_, ?_, trivial⟩
                      · intro a1 w1 hG hF
                        exact s_old rfl (wants0 rfl) (.tmp 14) (.inr rfl) (.int .i64 ((0 : Nat) : Int)) (hF.ol 14 (by kernel_rfl)) rfl
                      · intro a1 w1 hG hF
                        obtain ⟨_, e95, rfl⟩ := hF.dp 0 95 (by kernel_rfl)
                        exact s_is rfl (wants0 rfl) _ rfl (by simp only [execOp, e95]; go_simp)
                      · intro a1 w1 hG hF
                        exact s_same rfl (wants0 rfl) (.tmp 96) (.inr rfl) (hF.dp 1 96 (by kernel_rfl))
                      · intro a1 w1 hG hF
                        have e13 : a1.eval (.tmp 13) = .pointer (some ⟨g13, 0, none⟩) := hF.ol 13 (by kernel_rfl)
                        exact s_is rfl (wantsG hF 2 97 false rfl (by kernel_rfl) rfl) _ rfl (run_loadArr ⟨_, _, Tryd.underlying23⟩ (infoD D hDl) e13 (hA13.gr ((Gr.drew wq).trans hG)))
                      · intro a1 w1 hG hF
                        exact s_old rfl (wantsG hF 2 97 false rfl (by kernel_rfl) rfl) (.tmp 11) (.inr rfl) (.int .i64 ((l : Nat) : Int)) (hF.ol 11 (by kernel_rfl)) rfl
                      · intro a1 w1 hG hF
                        exact s_old rfl (wantsG hF 2 97 false rfl (by kernel_rfl) rfl) (.tmp 12) (.inr rfl) (.int .i64 ((q : Nat) : Int)) (hF.ol 12 (by kernel_rfl)) rfl
                      · intro a1 w1 hG hF
                        have e7 : a1.eval (.tmp 7) = .pointer (some ⟨gW, 0, none⟩) := hF.ol 7 (by kernel_rfl)
                        obtain ⟨_, e99, rfl⟩ := hF.dp 4 99 (by kernel_rfl)
                        exact s_is rfl (wantsG hF 2 97 false rfl (by kernel_rfl) rfl) _ rfl (by simp only [execOp, e7, e99]; go_simp; try (intro h; omega))
                      · intro a1 w1 hG hF
                        obtain ⟨_, e101, rfl⟩ := hF.dp 6 101 (by kernel_rfl)
                        obtain ⟨_, e100, rfl⟩ := hF.dp 5 100 (by kernel_rfl)
                        exact s_is rfl (wantsG hF 2 97 false rfl (by kernel_rfl) rfl) _ rfl (by simp only [execOp, e101, e100]; go_simp; try (intro h; omega))
                      · intro a1 w1 hG hF
                        obtain ⟨_, e102, rfl⟩ := hF.dp 7 102 (by kernel_rfl)
                        exact s_is rfl (wantsG hF 2 97 false rfl (by kernel_rfl) rfl) _ rfl (run_loadMid ⟨_, _, Tryd.underlying23⟩ (infoD E hEl) e102 (((Gr.drew wq).trans hG).range hrE))
                      · intro a1 w1 hG hF
                        obtain ⟨_, e98, rfl⟩ := hF.dp 3 98 (by kernel_rfl)
                        obtain ⟨_, e103, rfl⟩ := hF.dp 8 103 (by kernel_rfl)
                        exact s_is rfl (wantsG hF 2 97 false rfl (by kernel_rfl) rfl) _ rfl (by rw [HDE.out]; exact run_neBy (by kernel_rfl) Tryd.underlying23 Tryd.underlying5 (fun w => by kernel_rfl) hDl hEl e98 e103)
                      · intro a1 w1 hG hF
                        exact s_same rfl (wantsG hF 2 97 false rfl (by kernel_rfl) rfl) (.tmp 104) (.inr rfl) (hF.dp 9 104 (by kernel_rfl))
                      · intro a1 w1 hG hF
                        exact s_not rfl (notN hF 10 105 true rfl (by kernel_rfl) rfl) rfl
                      · intro a1 w1 hG hF
                        exact s_not rfl (notN hF 10 105 true rfl (by kernel_rfl) rfl) rfl
                      · intro a1 w1 hG hF
                        obtain ⟨_, e105, rfl⟩ := hF.dp 10 105 (by kernel_rfl)
                        exact s_pickF rfl (wantsG hF 2 97 false rfl (by kernel_rfl) rfl) (.tmp 105) _ _ rfl e105 _ rfl rfl
                      · intro a1 w1 hG hF
                        obtain ⟨_, e97, rfl⟩ := hF.dp 2 97 (by kernel_rfl)
                        obtain ⟨_, e108, rfl⟩ := hF.dp 13 108 (by kernel_rfl)
                        exact s_pickF rfl (wants0 rfl) (.tmp 97) _ (.tmp 108) rfl e97 _ e108 rfl
                    · intro vs w1 hG hf
                      have z109 : vs 14 = .bool false := hf.2.2.2.2.2.2.2.2.2.2.2.2.2.2.1
                      clear hf
                      simp only [putAll, Nat.zero_add, Nat.reduceAdd, z109]
                      have hR9 : Gr w8 w1 := HGq.out.trans ((Gr.drew wq).trans hG)
                      clear hG
                      go_simp
                      go_wp2_with fail
                      exact ⟨⟨q + 1, by omega, by simp, hR9⟩, by simp only [intOf]; omega⟩
                  · have HDE : Hid (true = !(D == E)) := Lib.hid (by rw [beq_false_of_ne hDE]; rfl)
                    have hbt : bq = true := by
                      cases bq with
                      | true => rfl
                      | false => exact absurd (hoff rfl) hDE
                    subst hbt
                    clear hoff hDE
                    go_upto_region 26 with fail
                    refine wp_region_ssaL (by kernel_rfl) [IsV (.int .i64 ((0 : Nat) : Int)), IsV (.bool false), IsV (.bool false), IsV (.agg (u8s (D)).toArray), IsV (.int .i64 ((l : Nat) : Int)), IsV (.int .i64 ((q : Nat) : Int)), IsV (.pointer (some ⟨gW, l * 8192, none⟩)), IsV (.pointer (some ⟨gW, l * 8192 + q * 32, none⟩)), IsV (.agg (u8s (E)).toArray), IsV (.bool true), IsV (.bool true), IsV (.bool true), IsV (.bool false), IsV (.bool false), IsV (.bool false)] (by kernel_rfl) ?_ ?_ ?_
                    · intro φ hφ v w1 w2 h hg
                      simp only [List.mem_cons, List.not_mem_nil, or_false] at hφ
                      rcases hφ with rfl | rfl | rfl | rfl | rfl | rfl | rfl | rfl | rfl | rfl | rfl | rfl | rfl | rfl | rfl
                      all_goals first | exact h | exact RdV.gr h hg
                    · refine ⟨?_, ?_, ?_, ?_, ?_, ?_, ?_, ?_, ?_, ?_, ?_, ?_, ?_, ?_, ?_, trivial⟩
                      · intro a1 w1 hG hF
                        exact s_old rfl (wants0 rfl) (.tmp 14) (.inr rfl) (.int .i64 ((0 : Nat) : Int)) (hF.ol 14 (by kernel_rfl)) rfl
                      · intro a1 w1 hG hF
                        obtain ⟨_, e95, rfl⟩ := hF.dp 0 95 (by kernel_rfl)
                        exact s_is rfl (wants0 rfl) _ rfl (by simp only [execOp, e95]; go_simp)
                      · intro a1 w1 hG hF
                        exact s_same rfl (wants0 rfl) (.tmp 96) (.inr rfl) (hF.dp 1 96 (by kernel_rfl))
                      · intro a1 w1 hG hF
                        have e13 : a1.eval (.tmp 13) = .pointer (some ⟨g13, 0, none⟩) := hF.ol 13 (by kernel_rfl)
                        exact s_is rfl (wantsG hF 2 97 false rfl (by kernel_rfl) rfl) _ rfl (run_loadArr ⟨_, _, Tryd.underlying23⟩ (infoD D hDl) e13 (hA13.gr ((Gr.drew wq).trans hG)))
                      · intro a1 w1 hG hF
                        exact s_old rfl (wantsG hF 2 97 false rfl (by kernel_rfl) rfl) (.tmp 11) (.inr rfl) (.int .i64 ((l : Nat) : Int)) (hF.ol 11 (by kernel_rfl)) rfl
                      · intro a1 w1 hG hF
                        exact s_old rfl (wantsG hF 2 97 false rfl (by kernel_rfl) rfl) (.tmp 12) (.inr rfl) (.int .i64 ((q : Nat) : Int)) (hF.ol 12 (by kernel_rfl)) rfl
                      · intro a1 w1 hG hF
                        have e7 : a1.eval (.tmp 7) = .pointer (some ⟨gW, 0, none⟩) := hF.ol 7 (by kernel_rfl)
                        obtain ⟨_, e99, rfl⟩ := hF.dp 4 99 (by kernel_rfl)
                        exact s_is rfl (wantsG hF 2 97 false rfl (by kernel_rfl) rfl) _ rfl (by simp only [execOp, e7, e99]; go_simp; try (intro h; omega))
                      · intro a1 w1 hG hF
                        obtain ⟨_, e101, rfl⟩ := hF.dp 6 101 (by kernel_rfl)
                        obtain ⟨_, e100, rfl⟩ := hF.dp 5 100 (by kernel_rfl)
                        exact s_is rfl (wantsG hF 2 97 false rfl (by kernel_rfl) rfl) _ rfl (by simp only [execOp, e101, e100]; go_simp; try (intro h; omega))
                      · intro a1 w1 hG hF
                        obtain ⟨_, e102, rfl⟩ := hF.dp 7 102 (by kernel_rfl)
                        exact s_is rfl (wantsG hF 2 97 false rfl (by kernel_rfl) rfl) _ rfl (run_loadMid ⟨_, _, Tryd.underlying23⟩ (infoD E hEl) e102 (((Gr.drew wq).trans hG).range hrE))
                      · intro a1 w1 hG hF
                        obtain ⟨_, e98, rfl⟩ := hF.dp 3 98 (by kernel_rfl)
                        obtain ⟨_, e103, rfl⟩ := hF.dp 8 103 (by kernel_rfl)
                        exact s_is rfl (wantsG hF 2 97 false rfl (by kernel_rfl) rfl) _ rfl (by rw [HDE.out]; exact run_neBy (by kernel_rfl) Tryd.underlying23 Tryd.underlying5 (fun w => by kernel_rfl) hDl hEl e98 e103)
                      · intro a1 w1 hG hF
                        exact s_same rfl (wantsG hF 2 97 false rfl (by kernel_rfl) rfl) (.tmp 104) (.inr rfl) (hF.dp 9 104 (by kernel_rfl))
                      · intro a1 w1 hG hF
                        exact s_old rfl (wantsG hF 10 105 true rfl (by kernel_rfl) rfl) (.tmp 15) (.inr rfl) (.bool true) (hF.ol 15 (by kernel_rfl)) rfl
                      · intro a1 w1 hG hF
                        obtain ⟨_, e106, rfl⟩ := hF.dp 11 106 (by kernel_rfl)
                        exact s_is rfl (wantsG hF 10 105 true rfl (by kernel_rfl) rfl) _ rfl (by simp only [execOp, e106]; go_simp)
                      · intro a1 w1 hG hF
                        obtain ⟨_, e105, rfl⟩ := hF.dp 10 105 (by kernel_rfl)
                        obtain ⟨_, e107, rfl⟩ := hF.dp 12 107 (by kernel_rfl)
                        exact s_pick rfl (wantsG hF 2 97 false rfl (by kernel_rfl) rfl) (.tmp 105) (.tmp 107) _ rfl e105 _ e107 rfl
                      · intro a1 w1 hG hF
                        obtain ⟨_, e97, rfl⟩ := hF.dp 2 97 (by kernel_rfl)
                        obtain ⟨_, e108, rfl⟩ := hF.dp 13 108 (by kernel_rfl)
                        exact s_pickF rfl (wants0 rfl) (.tmp 97) _ (.tmp 108) rfl e97 _ e108 rfl
                    · intro vs w1 hG hf
                      have z109 : vs 14 = .bool false := hf.2.2.2.2.2.2.2.2.2.2.2.2.2.2.1
                      clear hf
                      simp only [putAll, Nat.zero_add, Nat.reduceAdd, z109]
                      have hR9 : Gr w8 w1 := HGq.out.trans ((Gr.drew wq).trans hG)
                      clear hG
                      go_simp
                      go_wp2_with fail
                      exact ⟨⟨q + 1, by omega, by simp, hR9⟩, by simp only [intOf]; omega⟩
              · have cq : ¬ (q : Int) < (P : Int) := by omega
                go_wp2_with (go_at_call 17; refine (hWide.out _).mono ?_; rintro e w4 ⟨rfl, rfl⟩)
                exact ⟨⟨l + 1, by omega, by simp, hGq⟩, by simp only [intOf]; omega⟩
          · have hl5' : l = 5 := by omega
            have cl : ¬ (l : Int) ≤ 4 := by omega
            subst hl5'
            go_wp2_with fail
            go_meet
            exact hGl
      case rest =>
        have hg := get_is (HT8.out.gr hcut) a.name
        rw [look_set, if_neg (by decide : ¬ d55.1 = Z32)] at hg
        simp only [upd, if_true, Option.getD_some] at hg
        have HG := Lib.hid hg
        have hA10 := HA8.out.gr hcut
        have hwe : Below B w wc := Below.trans hw8 (Below.mono hcut hB8)
        clear hg
        go_wp2_with first
          | (refine wpList_loadW rfl 30 (.tmp 10) rfl rfl hA10 ⟨_, _, Tryd.underlying30⟩ (infoN a.name) ?_)
          | (go_at_call 11; refine HG.out.mono ?_; rintro e w9 ⟨rfl, hG9⟩)
          | (refine wpList_valW rfl (.bool true) _ (run_eqA32 (x := .tmp 112) (y := .tmp 113) (D := d55.1) rfl rfl rfl) ?_)
        go_ret
        rw [← hBw.out]
        exact ⟨rfl, Below.trans hwe (Below.mono hG9 (Nat.le_trans hB8 (Below.size hcut)))⟩
end Go.Proofs.YtamhjhkmckefbaaDoor
