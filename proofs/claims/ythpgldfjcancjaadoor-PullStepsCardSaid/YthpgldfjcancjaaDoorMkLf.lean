/- The walk of Tree.leaf. No condition. -/
import Derived.Test.YthpgldfjcancjaaDoorMkLfR
import Derived.Test.YthpgldfjcancjaaDoorMkGet
import Derived.Test.YthpgldfjcancjaaDoorMkSetR
import Derived.Deep.Cut
namespace Go.Proofs.YthpgldfjcancjaaDoor
open Go.RowKit
def u8T : Nat → Obj → Bool := fun _ o => match o with | .cells _ t _ => t == 5 | _ => false
theorem blkT_u8 {A : Option Addr} : ∀ k o, blkT A 5 k o = true → u8T k o = true := by
  intro k o h
  simp only [blkT, Bool.and_eq_true] at h
  obtain ⟨_, h⟩ := h
  cases o <;> simp_all [u8T]
/-- The loop over the names. -/
def LfR (wK : World) (M : List UInt8 → Option (List UInt8)) (L : List Nm) (m : Nat) (v k : Value) (wr : World) : Prop :=
  ∃ (i : Nat) (A : Option Addr) (cc : Nat), i ≤ m ∧ v = .slice A (64 * i) cc ∧ k = .int .i64 (i : Int) ∧ wr.ownsRow wK.heap.size 5 1 (.slice A (64 * i) cc) (64 * i) (u8s (joinM M (L.take i))) ∧ Gr wK wr
theorem LfR.out {wK : World} {M : List UInt8 → Option (List UInt8)} {L : List Nm} {m : Nat} {v k : Value} {wr : World} (h : LfR wK M L m v k wr) :
  ∃ (i : Nat) (A : Option Addr) (cc : Nat), i ≤ m ∧ v = .slice A (64 * i) cc ∧ k = .int .i64 (i : Int) ∧ wr.ownsRow wK.heap.size 5 1 (.slice A (64 * i) cc) (64 * i) (u8s (joinM M (L.take i))) ∧ Gr wK wr := h
set_option maxRecDepth 100000 in
set_option maxHeartbeats 8000000 in
theorem lf_any {w : World} {g b nn : Nat} {M : List UInt8 → Option (List UInt8)} {N : Nat → Nat → List UInt8} (hT : TreeAt w g b nn M N) (hnn : nn ≤ 10000) (a : Nat) (gw : Glob w) :
    Calls Tryd.prog 32 #[.pointer (some ⟨g, 0, none⟩), .int .i64 (a : Int)] w fun e w' => ∃ L : List Nm, LeafOf M (a : Int) L ∧ e = .returned (by32 (leafL M L)) ∧ Gr w w' := by
  have HT := Lib.hid hT
  have HM := Lib.hid hT.map.len
  clear hT
  obtain ⟨i0, hi0, hz0, hz1, hz2⟩ := info_parts Tryd.info5
  go_enter Tryd.func32, Tryd.ntmps32
  go_upto_region 1 with fail
  have h4 : Arr (w.alloc (.cells (u8s Z32).toArray 43)) w.heap.size 43 (u8s Z32) := Arr.newAt rfl rfl
  have gb : Gr w (w.alloc (.cells (u8s Z32).toArray 43)) := Gr.alloc _ _
  change Code.wp _ _ _ _ (w.alloc (.cells (u8s Z32).toArray 43))
  generalize w.alloc (.cells (u8s Z32).toArray 43) = w0 at h4 gb ⊢
  obtain ⟨g4, hg4⟩ : ∃ g4, g4 = w.heap.size := ⟨_, rfl⟩
  have hg4w : w.heap.size ≤ g4 := by omega
  rw [← hg4] at h4 ⊢
  clear hg4
  have hT0 := HT.out.gr gb
  have HK := Lib.hid (keys_any hT0.map (by omega : nn ≤ 1000000) hT0.cell0 (a : Int))
  have h40 := h4.lt
  clear hT0
  go_upto_region 3 with (go_at_call 17; refine HK.out.mono ?_; rintro e wK ⟨AK, m, cK, L, rfl, hNm, hnd, hmem, hpw, hml, hGK⟩)
  have HL : Hid (LeafOf M (a : Int) L) := Lib.hid ⟨hnd, hmem, by simpa only [Int.not_lt] using hpw⟩
  have hLm : L.length = m := hNm.1
  have HNm := Lib.hid hNm
  have HTK := Lib.hid (HT.out.gr (gb.trans hGK))
  have h4K := h4.gr hGK
  have gbK := gb.trans hGK
  have h4l : g4 < wK.heap.size := h4K.lt
  clear hnd hmem hpw hNm HK h4 gb hGK HT h40
  go_loopw [5, 13] (fun v k wr => LfR wK M L m v k wr) (fun _ k _ => m - (intOf k).toNat)
  case atStart => exact ⟨0, none, 0, by omega, rfl, rfl, ⟨rfl, .inl ⟨rfl, rfl⟩⟩, Gr.refl _⟩
  case round =>
    obtain ⟨i, A, cc, hi, rfl, rfl, ho, hG⟩ := LfR.out hrel
    clear hrel
    have hBr : wK.heap.size ≤ wr.heap.size := hG.size
    by_cases hlt : i < m
    · obtain ⟨x, hx⟩ : ∃ x, L[i]? = some x := ⟨_, List.getElem?_eq_getElem (by omega)⟩
      obtain ⟨bk, hAK, hr⟩ := HNm.out.2 i x hx
      subst hAK
      have hri := hG.range hr
      have hxl := x.2
      have HJ := Lib.hid (joinM_take (M := M) hx)
      obtain ⟨d, hd⟩ : ∃ d, d = (M x.1).getD Z32 := ⟨_, rfl⟩
      have hdl : d.length = 32 := by rw [hd]; exact getD_length HM.out x.1
      rw [← hd] at HJ
      have HD := Lib.hid hd
      clear hd hr hx
      go_upto_region 5 with first
        | (refine wpList_load_mid rfl _ _ rfl bk _ rfl (u8s x.1) _ (rangeEq hri (by omega)) Tryd.underlying51 rfl (infoN x) ?_)
        | (refine wpList_new (w := wr) (t := 51) rfl _ _ _ rfl wr.heap.size (u8s x.1) rfl rfl rfl (by rw [u8s_length, hxl]; kernel_rfl) (infoN x) (u8s_oneCell _) ?_; intro w5 hA5 hG5)
      obtain ⟨g7, hg7⟩ : ∃ g7, g7 = wr.heap.size := ⟨_, rfl⟩
      rw [← hg7] at hA5 ⊢
      clear hg7
      have hT5 := Lib.hid (HTK.out.gr (hG.trans hG5))
      refine wp_region_cut (by kernel_rfl) [IsV (.pointer (some ⟨g, 0, none⟩)), IsV (.pointer (some ⟨g, 0, none⟩)), IsV (.pointer (some ⟨g, 0, none⟩)), IsV (.map (some b)), IsV (by32 x.1), IsV (by32 d), NewA w5.heap.size 43 (u8s Z32)] 7 (by decide) (by kernel_rfl) (by kernel_rfl) (by kernel_rfl) ?_ ?_ ?_
      · intro φ hφ v w1 w2 h hg
        simp only [List.mem_cons, List.not_mem_nil, or_false] at hφ
        rcases hφ with rfl | rfl | rfl | rfl | rfl | rfl | rfl
        all_goals first | exact h | exact NewA.gr h hg
      · refine ⟨?_, ?_, ?_, ?_, ?_, ?_, ?_, trivial⟩
        · intro a1 w1 hG hF
          exact s_old rfl (wants0 rfl) (.tmp 0) (.inr rfl) (.pointer (some ⟨g, 0, none⟩)) (hF.ol 0 (by kernel_rfl)) rfl
        · intro a1 w1 hG hF
          obtain ⟨_, e1, rfl⟩ := hF.dp 0 17 (by kernel_rfl)
          exact s_is rfl (wants0 rfl) _ rfl (by simp only [execOp, e1]; go_simp)
        · intro a1 w1 hG hF
          obtain ⟨_, e1, rfl⟩ := hF.dp 1 18 (by kernel_rfl)
          exact s_is rfl (wants0 rfl) _ rfl (by simp only [execOp, e1]; go_simp)
        · intro a1 w1 hG hF
          obtain ⟨_, e1, rfl⟩ := hF.dp 2 19 (by kernel_rfl)
          have hc := (hT5.out.gr ((Gr.drew w5).trans hG)).cell0
          exact s_is rfl (wants0 rfl) _ rfl (by simp only [execOp, e1]; go_simp)
        · intro a1 w1 hG hF
          have e7 : a1.eval (.tmp 7) = .pointer (some ⟨g7, 0, none⟩) := hF.ol 7 (by kernel_rfl)
          have hA := hA5.gr ((Gr.drew w5).trans hG)
          exact s_is rfl (wants0 rfl) _ rfl (by simp only [execOp, e7, hA.loadAt Tryd.underlying51 (infoN x), Sem.run_bind, Result.andThen_ok, Sem.run_pure]; rfl)
        · intro a1 w1 hG hF
          obtain ⟨_, e20, rfl⟩ := hF.dp 3 20 (by kernel_rfl)
          obtain ⟨_, e21, rfl⟩ := hF.dp 4 21 (by kernel_rfl)
          have hl := (hT5.out.map.gr ((Gr.drew w5).trans hG)).look Tryd.underlying72 (Tryd.zeroValue43 _) x.2
          rw [← HD.out] at hl
          exact s_is rfl (wants0 rfl) _ rfl (by simp only [execOp, e20, e21, hl, Sem.run_bind, Result.andThen_ok, Sem.run_pure])
        · intro a1 w1 hG hF
          exact s_val rfl (wants0 rfl) _ rfl _ (w1.alloc (.cells (u8s Z32).toArray 43)) (by simp only [execOp]; go_simp; kernel_rfl) ⟨_, rfl, ((Gr.drew w5).trans hG).size, Arr.newAt rfl rfl⟩ (Gr.alloc _ _)
      · intro vs w1 hG1 hf
        have y22 : vs 5 = by32 d := hf.2.2.2.2.2.1
        have y8 : (NewA w5.heap.size 43 (u8s Z32)) (vs 6) w1 := hf.2.2.2.2.2.2.1
        clear hf
        obtain ⟨g8, hy8, hb8, hA8⟩ := y8
        simp only [List.take_succ_cons, List.take_zero, List.drop_succ_cons, List.drop_zero, putAll, Nat.zero_add, Nat.reduceAdd, y22, hy8]
        have hi := infoD d hdl
        refine wpList_store_mid rfl _ _ _ rfl g8 0 (u8s d).toArray (by kernel_rfl) (by kernel_rfl) (by have := hA8.there; simpa [u8s_length, hdl, Z32_length] using this) (by simpa using hi) (all_oneCell_toArray (u8s_oneCell _)) ?_
        rw [List.toList_toArray]
        have hA82 := hA8.setAll (u8s d) (by rw [u8s_length, u8s_length, hdl]; rfl)
        have hG2 : Gr w5 (w1.setCells g8 0 (u8s d)) := Below.trans ((Gr.drew w5).trans hG1) (below_setCells hb8 _ _ _)
        have hA7 := hA5.gr hG2
        have ho6 := Gr.own (hG5.trans hG2) ho
        have hG6 := hG.trans (hG5.trans hG2)
        clear hA8 hG1 hA5 ho hG hT5 hri hb8
        generalize w1.setCells g8 0 (u8s d) = w6 at hA82 hG2 hA7 ho6 hG6 ⊢
        have hB6 : wK.heap.size ≤ w6.heap.size := hG6.size
        clear hG2 hG5 hi y22 hy8 hBr
        unfold wpList
        go_simp
        try refine .inl ?_
        go_upto_region 6 with fail
        refine wp_region_cutG (NB wK.heap.size A (64 * i) cc 32 (u8s (joinM M (L.take i))) (u8s x.1)) NB.refl (fun _ _ _ => NB.trans) (by kernel_rfl) [IsV (.slice A (64 * i) cc), IsV (.slice (some ⟨g7, 0, none⟩) 32 32), NewB wK.heap.size (64 * i + 32) (u8s (joinM M (L.take i)) ++ u8s x.1), IsV (.slice (some ⟨g8, 0, none⟩) 32 32)] 4 (by decide) (by kernel_rfl) (by kernel_rfl) (by kernel_rfl) ?_ ?_ ?_
        · intro φ hφ v w1 w2 h hg
          simp only [List.mem_cons, List.not_mem_nil, or_false] at hφ
          rcases hφ with rfl | rfl | rfl | rfl
          all_goals first | exact h | exact NewB.nb h hg
        · refine ⟨?_, ?_, ?_, ?_, trivial⟩
          · intro a1 w1 hG hF
            exact gstepB (fun _ h => NB.of_gr h) (s_old rfl (wants0 rfl) (.tmp 5) (.inr rfl) (.slice A (64 * i) cc) (hF.ol 5 (by kernel_rfl)) rfl)
          · intro a1 w1 hG hF
            have e7 : a1.eval (.tmp 7) = .pointer (some ⟨g7, 0, none⟩) := hF.ol 7 (by kernel_rfl)
            exact gstepB (fun _ h => NB.of_gr h) (s_is rfl (wants0 rfl) _ rfl (by simp only [execOp, e7, Option.map, Sem.run_bind, run_cutAll (P := Tryd.prog) Tryd.underlying51 (by kernel_rfl), Result.andThen_ok, Sem.run_pure]))
          · intro a1 w1 hG hF
            obtain ⟨_, e23, rfl⟩ := hF.dp 0 23 (by kernel_rfl)
            obtain ⟨_, e24, rfl⟩ := hF.dp 1 24 (by kernel_rfl)
            have h71 := hA7.tn ((Tn.of_gr (Gr.drew w6)).trans hG.tn) (fun C f => blkT_other rfl _ C f)
            obtain ⟨A', c', w', hr, h2, hT, hold, hnew⟩ := run_append_keep (P := Tryd.prog) (w := w1) wK.heap.size 44 44 5 i0 (.int .u8 0) 1 1 Tryd.underlying44 hi0 hz0 hz1 hz2 rfl (by omega) A (64 * i) cc (u8s (joinM M (L.take i))) (hG.old (Gr.own (Gr.drew w6) ho6)) ⟨g7, 0, none⟩ 32 32 (u8s x.1) (by rw [u8s_length, hxl]) (fun j u h => by rw [add_row, Nat.zero_add]; exact h71.cell h) (u8s_oneCell _) (by unfold maxLen; omega) (by omega) (Nat.le_trans hB6 hG.tn.size)
            exact g_valB rfl rfl (.slice A' (64 * i + 32) c') w' (by simp only [execOp, resolve, invoke, builtin, List.map_toArray, List.map_cons, List.map_nil, e23, e24, Sem.run_bind, Sem.run_pure, hr, Result.andThen_ok]) ⟨A', c', rfl, h2⟩ ⟨hT, fun _ => hold, fun A2 d h => hnew A2 d h⟩
          · intro a1 w1 hG hF
            have e8 : a1.eval (.tmp 8) = .pointer (some ⟨g8, 0, none⟩) := hF.ol 8 (by kernel_rfl)
            exact gstepB (fun _ h => NB.of_gr h) (s_is rfl (wants0 rfl) _ rfl (by simp only [execOp, e8, Option.map, Sem.run_bind, run_cutAll (P := Tryd.prog) Tryd.underlying43 (by kernel_rfl), Result.andThen_ok, Sem.run_pure]))
        · intro vs w1 hG hf
          have y25 : (NewB wK.heap.size (64 * i + 32) (u8s (joinM M (L.take i)) ++ u8s x.1)) (vs 2) w1 := hf.2.2.1
          have y26 : vs 3 = .slice (some ⟨g8, 0, none⟩) 32 32 := hf.2.2.2.1
          clear hf
          obtain ⟨A8, c8, hy25, ho8⟩ := y25
          have hT1 : Tn u8T wK.heap.size w6 w1 := ((Tn.of_gr (Gr.drew w6)).trans hG.tn).wide blkT_u8
          have h81 := hA82.tn hT1 (fun C f => by rfl)
          have hs1 : wK.heap.size ≤ w1.heap.size := Nat.le_trans hB6 hT1.size
          simp only [List.take_succ_cons, List.take_zero, List.drop_succ_cons, List.drop_zero, putAll, Nat.zero_add, Nat.reduceAdd, hy25, y26]
          refine wpList_appT rfl (.tmp 25) (.tmp 26) 44 rfl wK.heap.size 5 i0 (.int .u8 0) 1 1 Tryd.underlying44 hi0 hz0 hz1 hz2 rfl (by omega) (by kernel_rfl) ho8 ⟨g8, 0, none⟩ 32 32 (u8s d) (by kernel_rfl) (by rw [u8s_length, hdl]) (fun j u h => by rw [add_row, Nat.zero_add]; exact h81.cell h) (u8s_oneCell _) (by unfold maxLen; omega) (by omega) hs1 ?_
          intro A9 c9 w9 ho9 _ hT9
          have hTB := hT1.trans (hT9 u8T (fun _ _ _ => by simp [u8T]))
          have hG9 : Gr wK w9 := Below.trans hG6 (hTB.below hB6)
          have hR9 : LfR wK M L m (.slice A9 (64 * i + 32 + 32) c9) (.int .i64 ((i : Int) + 1)) w9 := by
            refine ⟨i + 1, A9, c9, hlt, rfl, by simp, ?_, hG9⟩
            rw [HJ.out, u8s_app, u8s_app]
            exact ho9
          clear hT9 ho9 hTB hT1 h81 hG ho8 hy25 y26 hA82 hA7 ho6 hG6 hG9 HJ
          unfold wpList
          go_simp
          try refine .inl ?_
          unfold wpList
          go_simp
          try refine .inl ?_
          go_wp2_with fail
          exact ⟨hR9, by simp only [intOf]; omega⟩
    · obtain rfl : i = m := by omega
      rw [List.take_of_length_le (by omega : L.length ≤ i)] at ho
      have hA4 := h4K.gr hG
      have gG := gbK.trans hG
      have hjl := joinM_length HM.out L
      rw [hLm] at hjl
      have hal : leafL M L = if L.length = 0 then Z32 else shaL (joinM M L) := rfl
      rw [hLm] at hal
      by_cases hm0 : i = 0
      · rw [if_pos hm0] at hal
        have HAL := Lib.hid hal
        clear hal
        subst hm0
        go_wp2_with (refine wpList_store_mid rfl _ _ _ rfl g4 0 (u8s Z32).toArray rfl rfl (by have := hA4.there; simpa using this) (by have := infoD Z32 rfl; simpa using this) (all_oneCell_toArray (u8s_oneCell _)) ?_; rw [List.toList_toArray]; have hA5 := hA4.setAll (u8s Z32) rfl; have hG5 : Gr w (wr.setCells g4 0 (u8s Z32)) := Below.trans gG (below_setCells hg4w _ _ _); generalize wr.setCells g4 0 (u8s Z32) = w5 at hA5 hG5 ⊢)
        refine bodyPost_ret (results_cell_row rfl _ _ g4 _ _ _ _ rfl hA5 Tryd.underlying43 rfl (by have := infoD Z32 rfl; simpa using this)) rfl ?_
        exact ⟨L, HL.out, by rw [HAL.out]; rfl, hG5⟩
      · rw [if_neg hm0] at hal
        have HAL := Lib.hid hal
        clear hal
        have hrd := Rd.of_own ho
        have hcc : 64 * i ≤ cc := by
          rcases ho.2 with ⟨_, e⟩ | ⟨g1, cap, cur, e, _, _, hn, _⟩
          · omega
          · injection e with _ _ e
            omega
        have hP := parts1 (w := wr) rfl 44 ⟨A, 64 * i, cc, joinM M L⟩ hrd hcc
        have hS := shaSum_any (some ⟨wr.heap.size, 0, none⟩) 1 1 [⟨A, 64 * i, cc, joinM M L⟩] (by omega) (joinM M L) (by simp [allP]) (by omega) _ hP (Glob.gr (gG.trans (Gr.alloc wr _)) gw)
        have HS := Lib.hid hS
        have hDl := shaL_length (joinM M L)
        have h64 : ¬ (64 * (i : Int) = 0) := by omega
        clear hS hP hjl
        go_wp2_with first
          | (go_at_call 42; refine HS.out.mono ?_; rintro e w5 ⟨rfl, hB5⟩)
          | (refine wpList_store_mid rfl _ _ _ rfl g4 0 (u8s (shaL (joinM M L))).toArray rfl rfl (by have := ((hA4.gr (Gr.alloc wr _)).gr hB5).there; simpa [u8s_length, hDl, Z32_length] using this) (by have := infoD _ hDl; simpa using this) (all_oneCell_toArray (u8s_oneCell _)) ?_; rw [List.toList_toArray]; have hA6 := ((hA4.gr (Gr.alloc wr _)).gr hB5).setAll (u8s (shaL (joinM M L))) (by rw [u8s_length, u8s_length, hDl]; rfl); have hG6 : Gr w (w5.setCells g4 0 (u8s (shaL (joinM M L)))) := Below.trans ((gG.trans (Gr.alloc wr _)).trans hB5) (below_setCells hg4w _ _ _); generalize w5.setCells g4 0 (u8s (shaL (joinM M L))) = w6 at hA6 hG6 ⊢)
        refine bodyPost_ret (results_cell_row rfl _ _ g4 _ _ _ _ rfl hA6 Tryd.underlying43 rfl (by have := infoD _ hDl; simpa using this)) rfl ?_
        exact ⟨L, HL.out, by rw [HAL.out]; rfl, hG6⟩
/-- Tree.leaf, at rows. -/
theorem leaf_rows (w : World) (g b n : Nat) (R : Rw) (N : Nat → Nat → List UInt8) (hT : TreeAt w g b n (look R) N) (hS : SortedR R) (hn : n ≤ 10000) (a : Nat) (gw : Glob w) :
    Calls Tryd.prog 32 #[.pointer (some ⟨g, 0, none⟩), .int .i64 (a : Int)] w fun e w' => e = .returned (by32 (leafR R a)) ∧ Gr w w' :=
  (lf_any hT hn a gw).mono fun _ _ ⟨_, h1, h2, h3⟩ => ⟨by rw [h2, leafL_rows hS h1], h3⟩
end Go.Proofs.YthpgldfjcancjaaDoor
