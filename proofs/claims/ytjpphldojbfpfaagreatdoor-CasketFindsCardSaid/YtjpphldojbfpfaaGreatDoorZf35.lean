/- Texts of one proof, laid as one: part 35. No condition. -/
import Derived.Deep.Cut
import Derived.Test.YtjpphldojbfpfaaGreatDoorZf02
import Derived.Test.YtjpphldojbfpfaaGreatDoorZf05
import Derived.Test.YtjpphldojbfpfaaGreatDoorZf32
import Derived.Test.YtjpphldojbfpfaaGreatDoorZf33
import Derived.Test.YtjpphldojbfpfaaGreatDoorZf34
namespace Go.Proofs.YtjpphldojbfpfaaGreatDoor
open Go.RowKit
def u8T : Nat → Obj → Bool := fun _ o => match o with | .cells _ t _ => t == 5 | _ => false
theorem blkT_u8 {A : Option Addr} : ∀ k o, blkT A 5 k o = true → u8T k o = true := by
  intro k o h; simp only [blkT, Bool.and_eq_true] at h; obtain ⟨_, h⟩ := h; cases o <;> simp_all [u8T]
def LfR (wK : World) (M : List UInt8 → Option (List UInt8)) (L : List Nm) (m : Nat) (v k : Value) (wr : World) : Prop :=
  ∃ (i : Nat) (A : Option Addr) (cc : Nat), i ≤ m ∧ v = .slice A (64 * i) cc ∧ k = .int .i64 (i : Int) ∧ wr.ownsRow wK.heap.size 5 1 (.slice A (64 * i) cc) (64 * i) (u8s (joinM M (L.take i))) ∧ Gr wK wr
theorem LfR.out {wK : World} {M : List UInt8 → Option (List UInt8)} {L : List Nm} {m : Nat} {v k : Value} {wr : World} (h : LfR wK M L m v k wr) :
  ∃ (i : Nat) (A : Option Addr) (cc : Nat), i ≤ m ∧ v = .slice A (64 * i) cc ∧ k = .int .i64 (i : Int) ∧ wr.ownsRow wK.heap.size 5 1 (.slice A (64 * i) cc) (64 * i) (u8s (joinM M (L.take i))) ∧ Gr wK wr := h
set_option maxRecDepth 100000 in
set_option maxHeartbeats 8000000 in
theorem lf_any {w : World} {g b nn : Nat} {M : List UInt8 → Option (List UInt8)} {N : Nat → Nat → List UInt8} (hT : TreeAt w g b nn M N) (hnn : nn ≤ 10000) (a : Nat) (gw : Glob w) :
    Calls Tryz.prog 49 #[.pointer (some ⟨g, 0, none⟩), .int .i64 (a : Int)] w fun e w' => ∃ L : List Nm, LeafOf M (a : Int) L ∧ e = .returned (by32 (leafL M L)) ∧ Gr w w' := by
  have HT := Lib.hid hT; have HM := Lib.hid hT.map.len; clear hT; obtain ⟨i0, hi0, hz0, hz1, hz2⟩ := info_parts Tryz.info5
  go_enter Tryz.func49, Tryz.ntmps49
  go_upto_region 1 with fail
  have h4 : Arr (w.alloc (.cells (u8s Z32).toArray 35)) w.heap.size 35 (u8s Z32) := Arr.newAt rfl rfl; have gb : Gr w (w.alloc (.cells (u8s Z32).toArray 35)) := Gr.alloc _ _; change Code.wp _ _ _ _ (w.alloc (.cells (u8s Z32).toArray 35)); generalize w.alloc (.cells (u8s Z32).toArray 35) = w0 at h4 gb ⊢; obtain ⟨g4, hg4⟩ : ∃ g4, g4 = w.heap.size := ⟨_, rfl⟩; have hg4w : w.heap.size ≤ g4 := by omega
  rw [← hg4] at h4 ⊢; clear hg4; have hT0 := HT.out.gr gb; have HK := Lib.hid (keys_any hT0.map (by omega : nn ≤ 1000000) hT0.cell0 (a : Int)); have h40 := h4.lt; clear hT0
  go_upto_region 3 with (go_at_call 101; refine HK.out.mono ?_; rintro e wK ⟨AK, m, cK, L, rfl, hNm, hnd, hmem, hpw, hml, hGK⟩)
  have HL : Hid (LeafOf M (a : Int) L) := Lib.hid ⟨hnd, hmem, by simpa only [Int.not_lt] using hpw⟩; have hLm : L.length = m := hNm.1; have HNm := Lib.hid hNm; have HTK := Lib.hid (HT.out.gr (gb.trans hGK)); have h4K := h4.gr hGK; have gbK := gb.trans hGK; have h4l : g4 < wK.heap.size := h4K.lt; clear hnd hmem hpw hNm HK h4 gb hGK HT h40
  go_loopw [5, 13] (fun v k wr => LfR wK M L m v k wr) (fun _ k _ => m - (intOf k).toNat)
  case atStart => exact ⟨0, none, 0, by omega, rfl, rfl, ⟨rfl, .inl ⟨rfl, rfl⟩⟩, Gr.refl _⟩
  case round =>
    obtain ⟨i, A, cc, hi, rfl, rfl, ho, hG⟩ := LfR.out hrel; clear hrel; have hBr : wK.heap.size ≤ wr.heap.size := hG.size
    by_cases hlt : i < m
    · obtain ⟨x, hx⟩ : ∃ x, L[i]? = some x := ⟨_, List.getElem?_eq_getElem (by omega)⟩; obtain ⟨bk, hAK, hr⟩ := HNm.out.2 i x hx; subst hAK; have hri := hG.range hr; have hxl := x.2; have HJ := Lib.hid (joinM_take (M := M) hx); obtain ⟨d, hd⟩ : ∃ d, d = (M x.1).getD Z32 := ⟨_, rfl⟩; have hdl : d.length = 32 := by rw [hd]; exact getD_length HM.out x.1
      rw [← hd] at HJ; have HD := Lib.hid hd; clear hd hr hx
      go_upto_region 5 with first
        | (refine wpList_load_mid rfl _ _ rfl bk _ rfl (u8s x.1) _ (rangeEq hri (by omega)) Tryz.underlying36 rfl (infoN x) ?_)
        | (refine wpList_new (w := wr) (t := 36) rfl _ _ _ rfl wr.heap.size (u8s x.1) rfl rfl rfl (by rw [u8s_length, hxl]; kernel_rfl) (infoN x) (u8s_oneCell _) ?_; intro w5 hA5 hG5)
      obtain ⟨g7, hg7⟩ : ∃ g7, g7 = wr.heap.size := ⟨_, rfl⟩; rw [← hg7] at hA5 ⊢; clear hg7; have hT5 := Lib.hid (HTK.out.gr (hG.trans hG5)); refine wp_region_cut (by kernel_rfl) [IsV (.pointer (some ⟨g, 0, none⟩)), IsV (.pointer (some ⟨g, 0, none⟩)), IsV (.pointer (some ⟨g, 0, none⟩)), IsV (.map (some b)), IsV (by32 x.1), IsV (by32 d), NewA w5.heap.size 35 (u8s Z32)] 7 (by decide) (by kernel_rfl) (by kernel_rfl) (by kernel_rfl) ?_ ?_ ?_
      · intro φ hφ v w1 w2 h hg; simp only [List.mem_cons, List.not_mem_nil, or_false] at hφ; rcases hφ with rfl | rfl | rfl | rfl | rfl | rfl | rfl
        all_goals first | exact h | exact NewA.gr h hg
      · refine ⟨?_, ?_, ?_, ?_, ?_, ?_, ?_, trivial⟩
        · intro a1 w1 hG hF; exact s_old rfl (wants0 rfl) (.tmp 0) (.inr rfl) (.pointer (some ⟨g, 0, none⟩)) (hF.ol 0 (by kernel_rfl)) rfl
        · intro a1 w1 hG hF; obtain ⟨_, e1, rfl⟩ := hF.dp 0 17 (by kernel_rfl); exact s_is rfl (wants0 rfl) _ rfl (by simp only [execOp, e1]; go_simp)
        · intro a1 w1 hG hF; obtain ⟨_, e1, rfl⟩ := hF.dp 1 18 (by kernel_rfl); exact s_is rfl (wants0 rfl) _ rfl (by simp only [execOp, e1]; go_simp)
        · intro a1 w1 hG hF; obtain ⟨_, e1, rfl⟩ := hF.dp 2 19 (by kernel_rfl); have hc := (hT5.out.gr ((Gr.drew w5).trans hG)).cell0; exact s_is rfl (wants0 rfl) _ rfl (by simp only [execOp, e1]; go_simp)
        · intro a1 w1 hG hF; have e7 : a1.eval (.tmp 7) = .pointer (some ⟨g7, 0, none⟩) := hF.ol 7 (by kernel_rfl); have hA := hA5.gr ((Gr.drew w5).trans hG); exact s_is rfl (wants0 rfl) _ rfl (by simp only [execOp, e7, hA.loadAt Tryz.underlying36 (infoN x), Sem.run_bind, Result.andThen_ok, Sem.run_pure]; rfl)
        · intro a1 w1 hG hF; obtain ⟨_, e20, rfl⟩ := hF.dp 3 20 (by kernel_rfl); obtain ⟨_, e21, rfl⟩ := hF.dp 4 21 (by kernel_rfl); have hl := (hT5.out.map.gr ((Gr.drew w5).trans hG)).look Tryz.underlying122 (Tryz.zeroValue35 _) x.2; rw [← HD.out] at hl; exact s_is rfl (wants0 rfl) _ rfl (by simp only [execOp, e20, e21, hl, Sem.run_bind, Result.andThen_ok, Sem.run_pure])
        · intro a1 w1 hG hF; exact s_val rfl (wants0 rfl) _ rfl _ (w1.alloc (.cells (u8s Z32).toArray 35)) (by simp only [execOp]; go_simp; kernel_rfl) ⟨_, rfl, ((Gr.drew w5).trans hG).size, Arr.newAt rfl rfl⟩ (Gr.alloc _ _)
      · intro vs w1 hG1 hf; have y22 : vs 5 = by32 d := hf.2.2.2.2.2.1; have y8 : (NewA w5.heap.size 35 (u8s Z32)) (vs 6) w1 := hf.2.2.2.2.2.2.1; clear hf; obtain ⟨g8, hy8, hb8, hA8⟩ := y8; simp only [List.take_succ_cons, List.take_zero, List.drop_succ_cons, List.drop_zero, putAll, Nat.zero_add, Nat.reduceAdd, y22, hy8]; have hi := infoD d hdl; refine wpList_store_mid rfl _ _ _ rfl g8 0 (u8s d).toArray (by kernel_rfl) (by kernel_rfl) (by have := hA8.there; simpa [u8s_length, hdl, Z32_length] using this) (by simpa using hi) (all_oneCell_toArray (u8s_oneCell _)) ?_; rw [List.toList_toArray]; have hA82 := hA8.setAll (u8s d) (by rw [u8s_length, u8s_length, hdl]; rfl); have hG2 : Gr w5 (w1.setCells g8 0 (u8s d)) := Below.trans ((Gr.drew w5).trans hG1) (below_setCells hb8 _ _ _); have hA7 := hA5.gr hG2; have ho6 := Gr.own (hG5.trans hG2) ho; have hG6 := hG.trans (hG5.trans hG2); clear hA8 hG1 hA5 ho hG hT5 hri hb8; generalize w1.setCells g8 0 (u8s d) = w6 at hA82 hG2 hA7 ho6 hG6 ⊢; have hB6 : wK.heap.size ≤ w6.heap.size := hG6.size; clear hG2 hG5 hi y22 hy8 hBr; unfold wpList; go_simp; try refine .inl ?_
        go_upto_region 6 with fail
        refine wp_region_cutG (NB wK.heap.size A (64 * i) cc 32 (u8s (joinM M (L.take i))) (u8s x.1)) NB.refl (fun _ _ _ => NB.trans) (by kernel_rfl) [IsV (.slice A (64 * i) cc), IsV (.slice (some ⟨g7, 0, none⟩) 32 32), NewB wK.heap.size (64 * i + 32) (u8s (joinM M (L.take i)) ++ u8s x.1), IsV (.slice (some ⟨g8, 0, none⟩) 32 32)] 4 (by decide) (by kernel_rfl) (by kernel_rfl) (by kernel_rfl) ?_ ?_ ?_
        · intro φ hφ v w1 w2 h hg; simp only [List.mem_cons, List.not_mem_nil, or_false] at hφ; rcases hφ with rfl | rfl | rfl | rfl
          all_goals first | exact h | exact NewB.nb h hg
        · refine ⟨?_, ?_, ?_, ?_, trivial⟩
          · intro a1 w1 hG hF; exact gstepB (fun _ h => NB.of_gr h) (s_old rfl (wants0 rfl) (.tmp 5) (.inr rfl) (.slice A (64 * i) cc) (hF.ol 5 (by kernel_rfl)) rfl)
          · intro a1 w1 hG hF; have e7 : a1.eval (.tmp 7) = .pointer (some ⟨g7, 0, none⟩) := hF.ol 7 (by kernel_rfl); exact gstepB (fun _ h => NB.of_gr h) (s_is rfl (wants0 rfl) _ rfl (by simp only [execOp, e7, Option.map, Sem.run_bind, run_cutAll (P := Tryz.prog) Tryz.underlying36 (by kernel_rfl), Result.andThen_ok, Sem.run_pure]))
          · intro a1 w1 hG hF; obtain ⟨_, e23, rfl⟩ := hF.dp 0 23 (by kernel_rfl); obtain ⟨_, e24, rfl⟩ := hF.dp 1 24 (by kernel_rfl); have h71 := hA7.tn ((Tn.of_gr (Gr.drew w6)).trans hG.tn) (fun C f => blkT_other rfl _ C f); obtain ⟨A', c', w', hr, h2, hT, hold, hnew⟩ := run_append_keep (P := Tryz.prog) (w := w1) wK.heap.size 43 43 5 i0 (.int .u8 0) 1 1 Tryz.underlying43 hi0 hz0 hz1 hz2 rfl (by omega) A (64 * i) cc (u8s (joinM M (L.take i))) (hG.old (Gr.own (Gr.drew w6) ho6)) ⟨g7, 0, none⟩ 32 32 (u8s x.1) (by rw [u8s_length, hxl]) (fun j u h => by rw [add_row, Nat.zero_add]; exact h71.cell h) (u8s_oneCell _) (by unfold maxLen; omega) (by omega) (Nat.le_trans hB6 hG.tn.size); exact g_valB rfl rfl (.slice A' (64 * i + 32) c') w' (by simp only [execOp, resolve, invoke, builtin, List.map_toArray, List.map_cons, List.map_nil, e23, e24, Sem.run_bind, Sem.run_pure, hr, Result.andThen_ok]) ⟨A', c', rfl, h2⟩ ⟨hT, fun _ => hold, fun A2 d h => hnew A2 d h⟩
          · intro a1 w1 hG hF; have e8 : a1.eval (.tmp 8) = .pointer (some ⟨g8, 0, none⟩) := hF.ol 8 (by kernel_rfl); exact gstepB (fun _ h => NB.of_gr h) (s_is rfl (wants0 rfl) _ rfl (by simp only [execOp, e8, Option.map, Sem.run_bind, run_cutAll (P := Tryz.prog) Tryz.underlying35 (by kernel_rfl), Result.andThen_ok, Sem.run_pure]))
        · intro vs w1 hG hf; have y25 : (NewB wK.heap.size (64 * i + 32) (u8s (joinM M (L.take i)) ++ u8s x.1)) (vs 2) w1 := hf.2.2.1; have y26 : vs 3 = .slice (some ⟨g8, 0, none⟩) 32 32 := hf.2.2.2.1; clear hf; obtain ⟨A8, c8, hy25, ho8⟩ := y25; have hT1 : Tn u8T wK.heap.size w6 w1 := ((Tn.of_gr (Gr.drew w6)).trans hG.tn).wide blkT_u8; have h81 := hA82.tn hT1 (fun C f => by rfl); have hs1 : wK.heap.size ≤ w1.heap.size := Nat.le_trans hB6 hT1.size; simp only [List.take_succ_cons, List.take_zero, List.drop_succ_cons, List.drop_zero, putAll, Nat.zero_add, Nat.reduceAdd, hy25, y26]; refine wpList_appT rfl (.tmp 25) (.tmp 26) 43 rfl wK.heap.size 5 i0 (.int .u8 0) 1 1 Tryz.underlying43 hi0 hz0 hz1 hz2 rfl (by omega) (by kernel_rfl) ho8 ⟨g8, 0, none⟩ 32 32 (u8s d) (by kernel_rfl) (by rw [u8s_length, hdl]) (fun j u h => by rw [add_row, Nat.zero_add]; exact h81.cell h) (u8s_oneCell _) (by unfold maxLen; omega) (by omega) hs1 ?_; intro A9 c9 w9 ho9 _ hT9; have hTB := hT1.trans (hT9 u8T (fun _ _ _ => by simp [u8T])); have hG9 : Gr wK w9 := Below.trans hG6 (hTB.below hB6)
          have hR9 : LfR wK M L m (.slice A9 (64 * i + 32 + 32) c9) (.int .i64 ((i : Int) + 1)) w9 := by
            refine ⟨i + 1, A9, c9, hlt, rfl, by simp, ?_, hG9⟩; rw [HJ.out, u8s_app, u8s_app]; exact ho9
          clear hT9 ho9 hTB hT1 h81 hG ho8 hy25 y26 hA82 hA7 ho6 hG6 hG9 HJ; unfold wpList; go_simp; try refine .inl ?_
          unfold wpList; go_simp; try refine .inl ?_
          go_wp2_with fail
          exact ⟨hR9, by simp only [intOf]; omega⟩
    · obtain rfl : i = m := by omega
      rw [List.take_of_length_le (by omega : L.length ≤ i)] at ho; have hA4 := h4K.gr hG; have gG := gbK.trans hG; have hjl := joinM_length HM.out L; rw [hLm] at hjl; have hal : leafL M L = if L.length = 0 then Z32 else shaL (joinM M L) := rfl
      rw [hLm] at hal
      by_cases hm0 : i = 0
      · rw [if_pos hm0] at hal; have HAL := Lib.hid hal; clear hal; subst hm0
        go_wp2_with (refine wpList_store_mid rfl _ _ _ rfl g4 0 (u8s Z32).toArray rfl rfl (by have := hA4.there; simpa using this) (by have := infoD Z32 rfl; simpa using this) (all_oneCell_toArray (u8s_oneCell _)) ?_; rw [List.toList_toArray]; have hA5 := hA4.setAll (u8s Z32) rfl; have hG5 : Gr w (wr.setCells g4 0 (u8s Z32)) := Below.trans gG (below_setCells hg4w _ _ _); generalize wr.setCells g4 0 (u8s Z32) = w5 at hA5 hG5 ⊢)
        refine bodyPost_ret (results_cell_row rfl _ _ g4 _ _ _ _ rfl hA5 Tryz.underlying35 rfl (by have := infoD Z32 rfl; simpa using this)) rfl ?_; exact ⟨L, HL.out, by rw [HAL.out]; rfl, hG5⟩
      · rw [if_neg hm0] at hal; have HAL := Lib.hid hal; clear hal; have hrd := Rd.of_own ho
        have hcc : 64 * i ≤ cc := by
          rcases ho.2 with ⟨_, e⟩ | ⟨g1, cap, cur, e, _, _, hn, _⟩
          · omega
          · injection e with _ _ e
            omega
        have hP := parts1 (w := wr) rfl 43 ⟨A, 64 * i, cc, joinM M L⟩ hrd hcc; have hS := shaSum_any (some ⟨wr.heap.size, 0, none⟩) 1 1 [⟨A, 64 * i, cc, joinM M L⟩] (by omega) (joinM M L) (by simp [allP]) (by omega) _ hP (Glob.gr (gG.trans (Gr.alloc wr _)) gw); have HS := Lib.hid hS; have hDl := shaL_length (joinM M L); have h64 : ¬ (64 * (i : Int) = 0) := by omega
        clear hS hP hjl
        go_wp2_with first
          | (go_at_call 19; refine HS.out.mono ?_; rintro e w5 ⟨rfl, hB5⟩)
          | (refine wpList_store_mid rfl _ _ _ rfl g4 0 (u8s (shaL (joinM M L))).toArray rfl rfl (by have := ((hA4.gr (Gr.alloc wr _)).gr hB5).there; simpa [u8s_length, hDl, Z32_length] using this) (by have := infoD _ hDl; simpa using this) (all_oneCell_toArray (u8s_oneCell _)) ?_; rw [List.toList_toArray]; have hA6 := ((hA4.gr (Gr.alloc wr _)).gr hB5).setAll (u8s (shaL (joinM M L))) (by rw [u8s_length, u8s_length, hDl]; rfl); have hG6 : Gr w (w5.setCells g4 0 (u8s (shaL (joinM M L)))) := Below.trans ((gG.trans (Gr.alloc wr _)).trans hB5) (below_setCells hg4w _ _ _); generalize w5.setCells g4 0 (u8s (shaL (joinM M L))) = w6 at hA6 hG6 ⊢)
        refine bodyPost_ret (results_cell_row rfl _ _ g4 _ _ _ _ rfl hA6 Tryz.underlying35 rfl (by have := infoD _ hDl; simpa using this)) rfl ?_; exact ⟨L, HL.out, by rw [HAL.out]; rfl, hG6⟩
theorem leaf_rows (w : World) (g b n : Nat) (R : Rw) (N : Nat → Nat → List UInt8) (hT : TreeAt w g b n (look R) N) (hS : SortedR R) (hn : n ≤ 10000) (a : Nat) (gw : Glob w) :
    Calls Tryz.prog 49 #[.pointer (some ⟨g, 0, none⟩), .int .i64 (a : Int)] w fun e w' => e = .returned (by32 (leafR R a)) ∧ Gr w w' :=
  (lf_any hT hn a gw).mono fun _ _ ⟨_, h1, h2, h3⟩ => ⟨by rw [h2, leafL_rows hS h1], h3⟩
end Go.Proofs.YtjpphldojbfpfaaGreatDoor
namespace Go.Proofs.YtjpphldojbfpfaaGreatDoor
open Go.RowKit
theorem set_is {w : World} {g b n B : Nat} {R : Rw} (hT : TreeIs w g b n R) (hn : n ≤ 9000) (k d : Nm) (hg : B ≤ g) (hb : B ≤ b) (hB : B ≤ w.heap.size) (gw : Glob w) (gl : LowG B) :
    Calls Tryz.prog 24 #[.pointer (some ⟨g, 0, none⟩), .agg (u8s k.1).toArray, .agg (u8s d.1).toArray] w fun e w' => e = .returned (.tuple #[]) ∧ TreeIs w' g b (n + 1) (setR R k d) ∧ Tn (treeT g b) B w w' :=
  set_walk leaf_rows hT hn k d hg hb hB gw gl
theorem new_is (w : World) : Calls Tryz.prog 20 #[] w fun e w' => ∃ g b, e = .returned (.pointer (some ⟨g, 0, none⟩)) ∧ TreeIs w' g b 0 [] ∧ w.heap.size ≤ g ∧ w.heap.size ≤ b ∧ Gr w w' :=
  (new_tree w).mono fun _ _ ⟨g, b, h1, h2, h3, h4, h5⟩ => ⟨g, b, h1, ⟨⟨_, h2, fun h a _ _ => (nodeR_nil h a).symm⟩, List.Pairwise.nil⟩, h3, h4, h5⟩
theorem node_is {w : World} {g b n : Nat} {R : Rw} (hT : TreeIs w g b n R) (l a : Nat) (hl : l < 5) (ha : a < 4 ^ l) :
    Calls Tryz.prog 27 #[.pointer (some ⟨g, 0, none⟩), .int .i64 (l : Int), .int .i64 (a : Int)] w fun e w' => e = .returned (.tuple #[by32 (nodeR R (4 - l) a), .int .i64 0]) ∧ Gr w w' := by
  obtain ⟨⟨N, h1, h2⟩, _⟩ := hT; have := node_any h1 l a hl ha; have h3 := h2 (4 - l) a (by omega) (by rw [show 4 - (4 - l) = l by omega]; exact ha); rw [show 4 - (4 - l) = l by omega] at h3
  rwa [h3] at this
end Go.Proofs.YtjpphldojbfpfaaGreatDoor
namespace Go.Proofs.YtjpphldojbfpfaaGreatDoor
open Go.RowKit
def belowL (l n : Nat) : List Nat := if l = 4 then [n] else [4 * n, 4 * n + 1, 4 * n + 2, 4 * n + 3]
def unlikeL (R S : Rw) (l : Nat) (at_ : List Nat) : List Nat := at_.flatMap fun n => if nodeR R (4 - l) n = nodeR S (4 - l) n then [] else belowL l n
def levelL (R S : Rw) : Nat → List Nat
  | 0 => [0]
  | l + 1 => unlikeL R S l (levelL R S l)
def toldL (R S : Rw) : Nat → Nat
  | 0 => 0
  | l + 1 => toldL R S l + (levelL R S l).length
theorem belowL_length (l n : Nat) : (belowL l n).length ≤ 4 := by
  unfold belowL; split <;> simp
theorem unlikeL_length (R S : Rw) (l : Nat) (at_ : List Nat) : (unlikeL R S l at_).length ≤ 4 * at_.length := by
  unfold unlikeL
  induction at_ with
  | nil => simp
  | cons n at_ ih =>
    rw [List.flatMap_cons, List.length_append, List.length_cons]
    have : (if nodeR R (4 - l) n = nodeR S (4 - l) n then [] else belowL l n).length ≤ 4 := by
      split
      · simp
      · exact belowL_length l n
    omega
theorem levelL_length (R S : Rw) : ∀ l, (levelL R S l).length ≤ 4 ^ l
  | 0 => Nat.le_refl _
  | l + 1 => by
    have h1 := unlikeL_length R S l (levelL R S l); have h2 := levelL_length R S l; show (unlikeL R S l (levelL R S l)).length ≤ _; rw [Nat.pow_succ]; omega
theorem unlikeL_lt {R S : Rw} {l : Nat} {at_ : List Nat} (hl : l < 4) (h : ∀ n ∈ at_, n < 4 ^ l) : ∀ n ∈ unlikeL R S l at_, n < 4 ^ (l + 1) := by
  intro n hn; unfold unlikeL at hn; obtain ⟨m, hm, hn⟩ := List.mem_flatMap.1 hn; have hm4 := h m hm; split at hn
  · cases hn
  · unfold belowL at hn; rw [if_neg (by omega)] at hn; rw [Nat.pow_succ]; simp only [List.mem_cons, List.not_mem_nil, or_false] at hn; omega
theorem levelL_lt (R S : Rw) : ∀ l, l ≤ 4 → ∀ n ∈ levelL R S l, n < 4 ^ l
  | 0, _, n, hn => by
    have : n ∈ [0] := hn; simp at this; omega
  | l + 1, hl, n, hn => unlikeL_lt (by omega) (levelL_lt R S l (by omega)) n hn
theorem leaves_unlike {R S : Rw} {n : Nat} (h : n ∈ levelL R S 5) : n < 256 ∧ leafR R n ≠ leafR S n := by
  have h1 : n ∈ unlikeL R S 4 (levelL R S 4) := h; unfold unlikeL at h1; obtain ⟨m, hm, hn⟩ := List.mem_flatMap.1 h1; split at hn
  · cases hn
  · rename_i hne
    unfold belowL at hn; rw [if_pos rfl] at hn; simp only [List.mem_cons, List.not_mem_nil, or_false] at hn; subst hn; exact ⟨levelL_lt R S 4 (Nat.le_refl _) _ hm, hne⟩
theorem toldL_le (R S : Rw) : ∀ l, toldL R S l ≤ l * 4 ^ l
  | 0 => Nat.le_refl _
  | l + 1 => by
    have h1 := toldL_le R S l; have h2 := levelL_length R S l; show toldL R S l + (levelL R S l).length ≤ _; have h3 : l * 4 ^ l + 4 ^ l = (l + 1) * 4 ^ l := by rw [Nat.add_mul, Nat.one_mul]
    have h4 : (l + 1) * 4 ^ l ≤ (l + 1) * 4 ^ (l + 1) := Nat.mul_le_mul_left _ (Nat.pow_le_pow_right (by omega) (by omega)); omega
theorem level_found {R S : Rw} {n : Nat} (hn : n < 256) (h : ∀ k, k ≤ 4 → nodeR R k (n / 4 ^ k) ≠ nodeR S k (n / 4 ^ k)) : ∀ l, l ≤ 4 → n / 4 ^ (4 - l) ∈ levelL R S l
  | 0, _ => by
    have : n / 4 ^ 4 = 0 := Nat.div_eq_of_lt hn; show n / 4 ^ (4 - 0) ∈ [0]; rw [show 4 - 0 = 4 from rfl, this]; simp
  | l + 1, hl => by
    have ih := level_found hn h l (by omega); show _ ∈ unlikeL R S l (levelL R S l); unfold unlikeL; refine List.mem_flatMap.2 ⟨_, ih, ?_⟩; have hne := h (4 - l) (by omega); rw [if_neg hne]; unfold belowL; rw [if_neg (by omega)]
    have e : n / 4 ^ (4 - l) = n / 4 ^ (4 - (l + 1)) / 4 := by
      rw [Nat.div_div_eq_div_mul, ← Nat.pow_succ]; congr 2
      omega
    rw [e]; have := Nat.div_add_mod (n / 4 ^ (4 - (l + 1))) 4; have := Nat.mod_lt (n / 4 ^ (4 - (l + 1))) (by omega : 0 < 4); simp only [List.mem_cons, List.not_mem_nil, or_false]; omega
theorem leaf_found {R S : Rw} {n : Nat} (hn : n < 256) (h : ∀ k, k ≤ 4 → nodeR R k (n / 4 ^ k) ≠ nodeR S k (n / 4 ^ k)) : n ∈ levelL R S 5 := by
  have h4 := level_found hn h 4 (Nat.le_refl _); show n ∈ unlikeL R S 4 (levelL R S 4); unfold unlikeL; refine List.mem_flatMap.2 ⟨_, h4, ?_⟩; have hne := h 0 (by omega); simp only [Nat.sub_self, Nat.pow_zero, Nat.div_one] at hne ⊢; rw [if_neg hne]; simp [belowL]
end Go.Proofs.YtjpphldojbfpfaaGreatDoor
namespace Go.Proofs.YtjpphldojbfpfaaGreatDoor
open Go.RowKit
theorem infoDg : (Tryz.prog.info? 35).map (fun i => (i.size, i.bytes, i.zero.map (·.cells.size))) = some (32, 32, some 32) := by kernel_rfl
theorem infoDg_parts : ∃ i z, Tryz.prog.info? 35 = some i ∧ i.zero = some z ∧ i.size = 32 ∧ i.bytes = 32 ∧ z.cells.size = 32 := by
  cases hie : Tryz.prog.info? 35 with
  | none => have := infoDg; rw [hie] at this; cases this
  | some ie =>
    have hq := infoDg; rw [hie] at hq; simp only [Option.map_some, Option.some.injEq, Prod.mk.injEq] at hq; obtain ⟨q1, q2, q3⟩ := hq; cases hz : ie.zero with
    | none => rw [hz] at q3; cases q3
    | some z =>
      rw [hz] at q3; exact ⟨ie, z, rfl, hz, q1, q2, by simpa using q3⟩
section
variable {ev : Operand → Value} {d : Option Tmp} {t : TypeId} {p : String} {af : Array Edge} {gd : Option (Nat × Bool)} {w : World} {x : Operand}
set_option maxRecDepth 100000 in
theorem run_buildDg {X : List UInt8} (hX : X.length = 32) (h1 : ev x = .agg (u8s X).toArray) :
    (execOp ev ⟨d, .buildSlice 89 1 #[(0, x)], t, p, af, gd⟩).run Tryz.prog w = .ok (.value (.slice (some ⟨w.heap.size, 0, none⟩) 1 1)) (w.alloc (.cells (u8s X).toArray 35)) := by
  obtain ⟨ie, z, hie, hz, q1, _, q3⟩ := infoDg_parts
  have hf : ∀ C : Array Value, C.size = 32 → Instr.fill (fun i => some (i * ie.size, ie.size)) C [(0, .agg (u8s X).toArray)] = some (u8s X).toArray := by
    intro C hC; rw [fill_step (fun i => some (i * ie.size, ie.size)) C 0 (.agg (u8s X).toArray) (u8s X) 0 (by simp [q1, hX]) rfl [] (by simp [hX, hC])]; simp only [Instr.fill]; rw [List.drop_of_length_le (by simp [hX, hC])]; simp
  have h := run_buildSlice (P := Tryz.prog) w 89 35 1 #[(0, .agg (u8s X).toArray)] (u8s X).toArray ie z Tryz.underlying89 hie hz (by rw [q1]; omega) (by rw [q1]; omega) (hf _ (by simp [q1])); simp only [execOp, List.map_toArray, List.map_cons, List.map_nil, h1, Sem.run_bind, h, Result.andThen_ok, Sem.run_pure]
end
def NodeQ (q : Option Addr) (lv : Int) (zs : List Int) (ok : Nat → Bool) (D : Nat → Nm) (w : World) : Prop := ∀ i z, zs[i]? = some z → ∀ w1, Gr w w1 → Calls Tryz.prog 27 #[.pointer q, .int .i64 lv, .int .i64 z] w1 fun e w' => e = .returned (.tuple #[by32 (if ok i then (D i).1 else Z32), .int .i64 (if ok i then 0 else 1)]) ∧ Gr w1 w'
def digs (D : Nat → Nm) (i : Nat) : List Nm := (List.range i).map D
theorem digs_succ (D : Nat → Nm) (i : Nat) : digs D (i + 1) = digs D i ++ [D i] := by unfold digs; rw [List.range_succ, List.map_append]; rfl
theorem digs_length (D : Nat → Nm) (i : Nat) : (digs D i).length = i := by simp [digs]
def TellR (n : Nat) (ok : Nat → Bool) (D : Nat → Nm) (w0 : World) (v k : Value) (w : World) : Prop := ∃ (i : Nat) (A : Option Addr) (c : Nat), i ≤ n ∧ (∀ j, j < i → ok j = true) ∧ v = .slice A i c ∧ k = .int .i64 (i : Int) ∧ w.ownsRow w0.heap.size 35 32 (.slice A i c) i ((digs D i).flatMap encN) ∧ Gr w0 w
theorem TellR.out {n : Nat} {ok : Nat → Bool} {D : Nat → Nm} {w0 : World} {v k : Value} {w : World} (h : TellR n ok D w0 v k w) : ∃ (i : Nat) (A : Option Addr) (c : Nat), i ≤ n ∧ (∀ j, j < i → ok j = true) ∧ v = .slice A i c ∧ k = .int .i64 (i : Int) ∧ w.ownsRow w0.heap.size 35 32 (.slice A i c) i ((digs D i).flatMap encN) ∧ Gr w0 w := h
def TellQ (n : Nat) (ok : Nat → Bool) (D : Nat → Nm) (w : World) (e : Ending) (w' : World) : Prop :=
  ((∀ j, j < n → ok j = true) ∧ (∃ A c, e = .returned (.tuple #[.slice A n c, .int .i64 0]) ∧ w'.ownsRow w.heap.size 35 32 (.slice A n c) n ((digs D n).flatMap encN)) ∧ Gr w w') ∨
  ((∃ j, j < n ∧ ok j = false) ∧ e = .returned (.tuple #[.slice none 0 0, .int .i64 1]) ∧ Gr w w')
def dgT : Nat → Obj → Bool := fun _ o => match o with | .cells _ t _ => t == 35 | _ => false
set_option maxRecDepth 100000 in
set_option maxHeartbeats 8000000 in
theorem tell_any {w : World} {q : Option Addr} {lv : Int} {zs : List Int} {ok : Nat → Bool} {D : Nat → Nm} {A : Option Addr} {n c : Nat} (hc : NodeQ q lv zs ok D w) (hz : Rd w A n (zs.map fun z => Value.int .i64 z)) (hn : n ≤ 100000) :
    Calls Tryz.prog 25 #[.pointer q, .int .i64 lv, .slice A n c] w fun e w' => TellQ n ok D w e w' := by
  obtain ⟨i0, z0, hi0, hz0, hz1, hz2, hz3⟩ := infoDg_parts; have HC : Hid (NodeQ q lv zs ok D w) := Lib.hid hc; have HZ := Lib.hid hz; have hzl : zs.length = n := by have := hz.1; rwa [List.length_map] at this
  have HL := Lib.hid hzl; clear hc hz hzl
  go_enter Tryz.func25, Tryz.ntmps25
  go_upto_region 3 with fail
  go_loopw [8, 15] (fun v k wr => TellR n ok D w v k wr) (fun _ k _ => n - (intOf k).toNat)
  case atStart => exact ⟨0, none, 0, by omega, fun j hj => absurd hj (by omega), rfl, rfl, ⟨rfl, .inl ⟨rfl, rfl⟩⟩, Gr.refl _⟩
  case round =>
    obtain ⟨i, A2, c2, hi, hok, rfl, rfl, ho, hG⟩ := TellR.out hrel; have HOK := Lib.hid hok; clear hrel hok
    by_cases hlt : i < n
    · obtain ⟨z, hz⟩ : ∃ z, zs[i]? = some z := ⟨_, List.getElem?_eq_getElem (by rw [HL.out]; exact hlt)⟩; obtain ⟨ad, rfl, hcz⟩ := HZ.out.2 i (.int .i64 z) (by rw [List.getElem?_map, hz]; rfl); have kz : wr.cell? (ad.add i) = some (.int .i64 z) := Gr.cell hG hcz; have hci : (i : Int) < (n : Int) := by omega
      have hNode := HC.out i z hz wr hG; have hBr : w.heap.size ≤ wr.heap.size := hG.size; clear hcz hz; cases hoi : ok i with
      | true =>
        rw [hoi] at hNode; simp only [if_true] at hNode; obtain ⟨d, hd⟩ : ∃ d, d = D i := ⟨_, rfl⟩; rw [← hd] at hNode; have hdl := d.2; have HNode := Lib.hid hNode
        have HE : Hid (∀ A3 c3 w3, w3.ownsRow w.heap.size 35 32 (.slice A3 (i + 1) c3) (i + 1) ((digs D i).flatMap encN ++ u8s d.1) → Gr w w3 → TellR n ok D w (.slice A3 (i + 1) c3) (.int .i64 ((i : Int) + 1)) w3) := Lib.hid (fun A3 c3 w3 h3 hG3 => by
          refine ⟨i + 1, A3, c3, by omega, fun j hj => ?_, rfl, by simp, ?_, hG3⟩
          · rcases Nat.lt_or_ge j i with h | h
            · exact HOK.out j h
            · have : j = i := by omega
              rw [this]; exact hoi
          · rw [digs_succ, List.flatMap_append, List.flatMap_singleton, ← hd]; exact h3)
        clear hNode hd hoi
        go_upto_region 6 with first
          | (go_at_call 27; refine HNode.out.mono ?_; rintro e w1 ⟨rfl, hG1⟩)
          | (refine wpList_new (w := w1) (t := 35) rfl _ _ _ rfl w1.heap.size (u8s d.1) rfl rfl rfl (by rw [u8s_length, hdl]; kernel_rfl) (infoD d.1 hdl) (u8s_oneCell _) ?_; intro w2 hA2 hG2)
        have hGr2 := hG1.trans hG2; obtain ⟨g11, hg11⟩ : ∃ g, g = w1.heap.size := ⟨_, rfl⟩; rw [← hg11] at hA2 ⊢; have ho2 := Gr.own (Gr.alloc w2 (.cells (u8s d.1).toArray 35)) (Gr.own hGr2 ho); have hAn : Arr (w2.alloc (.cells (u8s d.1).toArray 35)) w2.heap.size 35 (u8s d.1) := Arr.newAt rfl rfl; have hG3 := hG.trans (hGr2.trans (Gr.alloc w2 (.cells (u8s d.1).toArray 35))); have hBn : w.heap.size ≤ (w2.alloc (.cells (u8s d.1).toArray 35)).heap.size := hG3.size; clear hg11 hG1 hG2 hGr2 ho hG HNode
        go_wp2_with first
          | (refine wpList_loadW rfl 35 (.tmp 11) rfl rfl hA2 ⟨_, _, Tryz.underlying35⟩ (infoD d.1 hdl) ?_)
          | (refine wpList_valW rfl (.slice (some ⟨w2.heap.size, 0, none⟩) 1 1) _ (run_buildDg (x := .tmp 30) hdl rfl) ?_)
          | (at_builtin; go_must (refine wpList_appT rfl (.tmp 29) (.tmp 31) 89 rfl w.heap.size 35 i0 z0 32 32 Tryz.underlying89 hi0 hz0 hz1 hz2 hz3 (by omega) rfl ho2 ⟨w2.heap.size, 0, none⟩ 1 1 (u8s d.1) rfl (by rw [u8s_length, hdl]) (fun j u h => by rw [add_row, Nat.zero_add]; exact hAn.cell h) (u8s_oneCell _) (by unfold maxLen; omega) (by omega) hBn ?_; intro A3 c3 w3 h3 _ hT3; have hR3 := HE.out A3 c3 w3 h3 (Below.trans hG3 ((hT3 dgT (fun _ _ _ => by simp [dgT])).below hBn)); clear h3 hT3))
        exact ⟨hR3, by simp only [intOf]; omega⟩
      | false =>
        rw [hoi] at hNode; simp only [Bool.false_eq_true, if_false] at hNode; have HNode := Lib.hid hNode; have HX : Hid (∃ j, j < n ∧ ok j = false) := Lib.hid ⟨i, hlt, hoi⟩; clear hNode hoi
        go_wp2_with first
          | (go_at_call 27; refine HNode.out.mono ?_; rintro e w1 ⟨rfl, hG1⟩)
          | (refine wpList_new (w := w1) (t := 35) rfl _ _ _ rfl w1.heap.size (u8s Z32) rfl rfl rfl (by kernel_rfl) (infoD Z32 rfl) (u8s_oneCell _) ?_; intro w2 hA2 hG2)
        refine bodyPost_ret (results_tmp2 rfl _ _ _) rfl ?_; exact .inr ⟨HX.out, rfl, hG.trans (hG1.trans hG2)⟩
    · obtain rfl : n = i := by omega
      have hci : ¬ (n : Int) < (n : Int) := by omega
      go_wp2_with fail
      refine bodyPost_ret (results_tmp2 rfl _ _ _) rfl ?_; exact .inl ⟨HOK.out, ⟨A2, c2, rfl, ho⟩, hG⟩
end Go.Proofs.YtjpphldojbfpfaaGreatDoor
namespace Go.Proofs.YtjpphldojbfpfaaGreatDoor
open Go.RowKit
theorem infoInt : (Tryz.prog.info? 3).map (fun i => (i.size, i.bytes, i.zero)) = some (1, 8, some (.int .i64 0)) := by kernel_rfl
theorem infoInt_parts : ∃ i, Tryz.prog.info? 3 = some i ∧ i.zero = some (.int .i64 0) ∧ i.size = 1 ∧ i.bytes = 8 := by
  cases hie : Tryz.prog.info? 3 with
  | none => have := infoInt; rw [hie] at this; cases this
  | some ie =>
    have hq := infoInt; rw [hie] at hq; simp only [Option.map_some, Option.some.injEq, Prod.mk.injEq] at hq; exact ⟨ie, rfl, hq.2.2, hq.1, hq.2.1⟩
def intT : Nat → Obj → Bool := fun _ o => match o with | .cells _ t _ => t == 3 | _ => false
theorem own_arr1 {w : World} {B g : Nat} {x : Nat} (h : Arr w g 3 [.int .i64 (x : Int)]) (hB : B ≤ g) : w.ownsRow B 3 1 (.slice (some ⟨g, 0, none⟩) 1 1) 1 (intV [x]) :=
  ⟨rfl, .inr ⟨g, 1, #[.int .i64 (x : Int)], rfl, hB, h, Nat.le_refl _, by unfold maxLen; omega, rfl, rfl⟩⟩
def fourL (n i : Nat) : List Nat := (List.range i).map fun k => 4 * n + k
theorem fourL_succ (n i : Nat) : fourL n (i + 1) = fourL n i ++ [4 * n + i] := by unfold fourL; rw [List.range_succ, List.map_append]; rfl
def BelowR (n : Nat) (w0 : World) (v k : Value) (w : World) : Prop := ∃ (i : Nat) (A : Option Addr) (c : Nat), i ≤ 4 ∧ v = .slice A i c ∧ k = .int .i64 (i : Int) ∧ w.ownsRow w0.heap.size 3 1 (.slice A i c) i (intV (fourL n i)) ∧ Gr w0 w
theorem BelowR.out {n : Nat} {w0 : World} {v k : Value} {w : World} (h : BelowR n w0 v k w) : ∃ (i : Nat) (A : Option Addr) (c : Nat), i ≤ 4 ∧ v = .slice A i c ∧ k = .int .i64 (i : Int) ∧ w.ownsRow w0.heap.size 3 1 (.slice A i c) i (intV (fourL n i)) ∧ Gr w0 w := h
set_option maxRecDepth 100000 in
set_option maxHeartbeats 8000000 in
theorem below_any (l n : Nat) (hl : l < 5) (hn : n < 256) (w : World) : Calls Tryz.prog 51 #[.int .i64 (l : Int), .int .i64 (n : Int)] w fun e w' => ∃ A m c, e = .returned (.slice A m c) ∧ m = (belowL l n).length ∧ w'.ownsRow w.heap.size 3 1 (.slice A m c) m (intV (belowL l n)) ∧ Gr w w' := by
  obtain ⟨i0, hi0, hz0, hz1, hz2⟩ := infoInt_parts
  by_cases h4 : l = 4
  · subst h4
    go_enter Tryz.func51, Tryz.ntmps51
    go_wp2_with fail
    go_ret
    refine ⟨some ⟨w.heap.size, 0, none⟩, 1, 1, rfl, rfl, own_arr1 (x := n) (Arr.newAt rfl rfl) (Nat.le_refl _), Gr.alloc _ _⟩
  · have hl4 : ((l : Int) == 4) = false := beq_false_of_ne (by omega); have hbl : belowL l n = fourL n 4 := by unfold belowL; rw [if_neg h4]; rfl
    have HBL := Lib.hid hbl; clear h4 hbl
    go_enter Tryz.func51, Tryz.ntmps51
    go_upto_region 5 with fail
    go_loopw [5, 11] (fun v k wr => BelowR n w v k wr) (fun _ k _ => 4 - (intOf k).toNat)
    case atStart => exact ⟨0, none, 0, by omega, rfl, rfl, ⟨rfl, .inl ⟨rfl, rfl⟩⟩, Gr.refl _⟩
    case round =>
      obtain ⟨i, A2, c2, hi, rfl, rfl, ho, hG⟩ := BelowR.out hrel; clear hrel
      by_cases hlt : i < 4
      · have hci : (i : Int) < 4 := by omega
        have hon := Gr.own (Gr.alloc wr (.cells #[.int .i64 (4 * (n : Int) + (i : Int))] 3)) ho; have hG2 := hG.trans (Gr.alloc wr (.cells #[.int .i64 (4 * (n : Int) + (i : Int))] 3)); have hBn := hG2.size; have hAn : Arr (wr.alloc (.cells #[.int .i64 (4 * (n : Int) + (i : Int))] 3)) wr.heap.size 3 [.int .i64 (4 * (n : Int) + (i : Int))] := Arr.newAt rfl rfl
        have HE : Hid (∀ A3 c3 w6, w6.ownsRow w.heap.size 3 1 (.slice A3 (i + 1) c3) (i + 1) (intV (fourL n i) ++ [.int .i64 (4 * (n : Int) + (i : Int))]) → Gr w w6 → BelowR n w (.slice A3 (i + 1) c3) (.int .i64 ((i : Int) + 1)) w6) := Lib.hid (fun A3 c3 w6 h6 hG6 => by
          refine ⟨i + 1, A3, c3, by omega, rfl, by simp, ?_, hG6⟩; rw [fourL_succ, intV_append]; have e : intV [4 * n + i] = [.int .i64 (4 * (n : Int) + (i : Int))] := by simp [intV]
          rw [e]; exact h6)
        clear hG ho
        go_wp2_with (at_builtin; go_must (refine wpList_appT rfl (.tmp 14) (.tmp 19) 22 rfl w.heap.size 3 i0 (.int .i64 0) 1 8 Tryz.underlying22 hi0 hz0 hz1 hz2 rfl (by omega) rfl hon ⟨wr.heap.size, 0, none⟩ 1 1 [.int .i64 (4 * (n : Int) + (i : Int))] rfl rfl (fun j u h => by rw [add_row, Nat.zero_add]; exact hAn.cell h) (by simp [Value.oneCell']) (by unfold maxLen; omega) (by omega) hBn ?_; intro A3 c3 w6 h6 _ hT6; have hR6 := HE.out A3 c3 w6 h6 (Below.trans hG2 ((hT6 intT (fun _ _ _ => by simp [intT])).below hBn)); clear h6 hT6))
        exact ⟨hR6, by simp only [intOf]; omega⟩
      · obtain rfl : i = 4 := by omega
        go_wp2_with fail
        go_ret
        exact ⟨A2, 4, c2, rfl, by rw [HBL.out]; rfl, by rw [HBL.out]; exact ho, hG⟩
end Go.Proofs.YtjpphldojbfpfaaGreatDoor
