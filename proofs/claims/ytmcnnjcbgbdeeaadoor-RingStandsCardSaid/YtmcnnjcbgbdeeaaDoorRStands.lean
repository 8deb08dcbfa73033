/- The walk of the law RingStands. No condition. -/
import Derived.Test.YtmcnnjcbgbdeeaaDoorRStd0
namespace Go.Proofs.YtmcnnjcbgbdeeaaDoor
open Go.RowKit
set_option maxRecDepth 100000 in
set_option maxHeartbeats 16000000 in
theorem law_stands (za zb : Int) (K : List UInt8) (hK : K.length = 32) (A : Option Addr) (m c : Nat) (bl : List Bool) (w : World) (hmc : m ≤ c) (hr : Rd w A m (bl.map Value.bool)) (gw : Glob w) :
    Calls Tryd.prog 6 #[.agg #[.int .i64 za, .int .i64 zb], .agg (u8s K).toArray, .slice A m c] w fun e w' => e = .returned (.bool true) ∧ Gr w w' := by
  obtain ⟨iB, hiB, hz0, hz1, hz2⟩ := info_parts (P := Tryd.prog) (e := 4) (z := .bool false) (size := 1) (bytes := 1) (by kernel_rfl)
  obtain ⟨a, ha, hae⟩ := wrap_remN za 8 (by omega) (by omega)
  have HAE : Hid (wrap64 ((IntKind.u64.wrap za).tmod 8) = (a : Int)) := hae
  obtain ⟨n, hn⟩ : ∃ n : Nat, n = 1 + a := ⟨_, rfl⟩
  obtain ⟨b, hb, hbe⟩ := wrap_remN zb n (by omega) (by omega)
  have HBE : Hid (wrap64 ((IntKind.u64.wrap zb).tmod (n : Int)) = (b : Int)) := hbe
  obtain ⟨s, hs⟩ : ∃ s : Nat, s = 1 + b := ⟨_, rfl⟩
  have HN1 : Hid ((1 : Int) + (a : Int) = (n : Int)) := by show _ = _; omega
  have HN2 : Hid ((1 : Int) + (b : Int) = (s : Int)) := by show _ = _; omega
  have HW1 : Hid (wrap64 (n : Int) = (n : Int)) := IntWalk.wrap64_in _ (by omega)
  have HW2 : Hid (wrap64 (s : Int) = (s : Int)) := IntWalk.wrap64_in _ (by omega)
  have hn1 : 1 ≤ n := by omega
  have hn8 : n ≤ 8 := by omega
  have hs1 : 1 ≤ s := by omega
  have hsn : s ≤ n := by omega
  have hn0 : ¬ (n : Int) = 0 := by omega
  obtain ⟨k, hk⟩ : ∃ k, k = min m 10 := ⟨_, rfl⟩
  have HK : Hid (min (m : Int) 10 = (k : Int)) := by show _ = _; omega
  have hki : min (m : Int) 10 = (k : Int) := HK.out
  have hkm : k ≤ m := by omega
  have hk10 : k ≤ 10 := by omega
  obtain ⟨ups, hups⟩ : ∃ u, u = bl.take k := ⟨_, rfl⟩
  have hrk : Rd w A k (ups.map Value.bool) := by
    have := hr.take hkm
    rwa [← List.map_take, ← hups] at this
  have G0 : Gr w ((w.alloc (.cells #[.int .i64 za, .int .i64 zb] 43)).alloc (.cells (u8s K).toArray 23)) := (Gr.alloc _ _).trans ((Gr.alloc _ _).mono (by simp only [asz]; omega))
  have h3 : Arr ((w.alloc (.cells #[.int .i64 za, .int .i64 zb] 43)).alloc (.cells (u8s K).toArray 23)) w.heap.size 43 [.int .i64 za, .int .i64 zb] := Arr.alloc (Arr.newAt rfl rfl) _
  have h4 : Arr ((w.alloc (.cells #[.int .i64 za, .int .i64 zb] 43)).alloc (.cells (u8s K).toArray 23)) (w.heap.size + 1) 23 (u8s K) := Arr.newAt (by simp only [asz]) rfl
  clear hae hbe hn hs hk hups hr
  go_enter Tryd.func6, Tryd.ntmps6
  go_upto_region 1 with fail
  change Code.wp _ _ _ _ ((w.alloc (.cells #[.int .i64 za, .int .i64 zb] 43)).alloc (.cells (u8s K).toArray 23))
  generalize (w.alloc (.cells #[.int .i64 za, .int .i64 zb] 43)).alloc (.cells (u8s K).toArray 23) = w0 at h3 h4 G0 ⊢
  obtain ⟨g4, hg4⟩ : ∃ g, g = w.heap.size + 1 := ⟨_, rfl⟩
  rw [← hg4] at h4
  simp only [← hg4]
  clear hg4
  obtain ⟨g3, hg3⟩ : ∃ g, g = w.heap.size := ⟨_, rfl⟩
  rw [← hg3] at h3
  simp only [← hg3]
  clear hg3
  have c30 := h3.cell (i := 0) (v := .int .i64 za) rfl
  have c31 := h3.cell (i := 1) (v := .int .i64 zb) rfl
  have gw0 := gw.gr G0
  have hr0 := G0.rd hrk
  clear gw hrk
  go_upto_region 2 with fail
  simp only [HAE.out, HN1.out, HW1.out]
  go_upto_region 3 with fail
  simp only [HBE.out, HN2.out, HW2.out]
  have HNew := Lib.hid (new_any n 4 hn1 hn8 (by omega) (by omega) w0 gw0)
  go_wp2_with fail
  refine HNew.out.mono ?_
  rintro e w3 ⟨gR, rfl, hR, hG3⟩
  have h43 := h4.gr hG3
  have gw3 := gw0.gr hG3
  have hr3 := hG3.rd hr0
  have G3 := Gr.trans G0 hG3
  clear HNew h3 h4 gw0 hr0 G0 hG3 HAE HBE HN1 HN2 HW1 HW2 c30 c31
  go_upto_region 4 with fail
  have hcutk := fun w => run_cut_h (P := Tryd.prog) (A := A) (n := m) (c := c) (hi := k) (h := (k : Int)) Tryd.underlying44 (by kernel_rfl) rfl (by omega) w
  have hub : ∀ u ∈ ups.map Value.bool, u.oneCell' = true := fun u h => by
    obtain ⟨x, _, rfl⟩ := List.mem_map.1 h
    rfl
  go_wp2_with (at_builtin; go_must (refine wpList_clipV _ rfl (.tmp 35) (.tmp 40) 44 rfl 4 iB (.bool false) 1 Tryd.underlying44 hiB hz0 hz1 hz2 rfl w3.heap.size rfl rfl A k c (ups.map Value.bool) rfl hr3 hub (by omega) (by omega) ?_))
  intro v4 w4 ho4 hG4
  obtain ⟨Au, cu, rfl, hkc, _, hr4⟩ := own_form3 ho4
  have h44 := h43.gr hG4
  have gw4 := gw3.gr hG4
  have hR4 := hR.gr hG4
  have G4 := Gr.trans G3 hG4
  have hAu : 0 < k → ∃ g, Au = some ⟨g, 0, none⟩ := fun h => by
    rcases ho4.2 with ⟨_, e2⟩ | ⟨g, cap, cur, e1, _⟩
    · omega
    · injection e1 with e1
      exact ⟨g, e1⟩
  clear ho4 hr3 h43 gw3 hR G3 hG4 hcutk hub hki
  go_simp
  have HRs := Lib.hid rings_any
  by_cases hkn : k = n
  · subst hkn
    obtain ⟨gu, rfl⟩ := hAu (by omega)
    obtain ⟨W, hW⟩ : ∃ W, W = nearL (nearOf atP (beNat (K.take 8)) 4) k := ⟨_, rfl⟩
    have hWm : ∀ x ∈ W, x < k := fun x hx => by rw [hW] at hx; exact (mem_nearL _ _ _).1 hx
    have hWn : W.Nodup := by rw [hW]; exact nearL_nodup _ _
    obtain ⟨PP, hPP⟩ : ∃ PP, PP = standG (upF ups) (W.take s) ((W.drop s).filter (upF ups)) := ⟨_, rfl⟩
    obtain ⟨hin, hnd⟩ := stand_in hWm hWn hPP
    have hPl : PP.length ≤ 8 := by
      have h := standG_length (up := upF ups) (W.take s) ((W.drop s).filter (upF ups))
      rw [← hPP, List.length_take] at h
      omega
    have HSt := Lib.hid (stand_any hR4 hn1 hn8 (by omega) (by omega) K hK s hs1 hsn (some ⟨gu, 0, none⟩) cu ups hr4)
    rw [← hW, ← hPP] at HSt
    have HRf : Hid (∀ w, Calls Tryd.prog 14 #[.string ⟨K.toArray⟩, .int .i64 (k : Int), .int .i64 4] w fun e w' => ∃ v, e = .returned v ∧ w'.ownsRow w.heap.size 3 1 v k (numV W) ∧ Gr w w') := fun w => by
      rw [hW]
      exact refWalk_any K hK k 4 hn8 (by omega) w
    have HRS : Hid (∀ w Aw cw, Rd w Aw k (numV W) → Rd w (some ⟨gu, 0, none⟩) k (ups.map Value.bool) → Calls Tryd.prog 15 #[.slice Aw k cw, .int .i64 (s : Int), .slice (some ⟨gu, 0, none⟩) k cu] w fun e w' => RStQ PP w e w') := fun w Aw cw h1 h2 => by
      rw [hPP]
      exact refStand_any Aw cw k s W (some ⟨gu, 0, none⟩) cu ups w h1 h2 hWm hn8 hsn
    clear hW hPP hWm hWn hR4 hAu
    go_wp2_with first
      | (refine wpList_load_mid rfl 23 (.tmp 4) rfl g4 0 rfl (u8s K) _ h44.range Tryd.underlying23 rfl (infoK K hK) ?_)
    refine HSt.out.mono ?_
    rintro e w5 ⟨Al, cl, rfl, hol, hG5⟩
    have h45 := h44.gr hG5
    have gw5 := gw4.gr hG5
    have hr5 := hG5.rd hr4
    have G5 := Gr.trans G4 hG5
    clear HSt h44 gw4 hr4 G4 hG5
    obtain ⟨N, hN⟩ : ∃ N, N = PP.length := ⟨_, rfl⟩
    rw [← hN] at hol
    simp only [← hN]
    go_wp2_with fail
    refine (HRs.out w5 gw5).mono ?_
    rintro e w6 ⟨rfl, hG6⟩
    have h46 := h45.gr hG6
    have hr6 := hG6.rd hr5
    have hol6 := Gr.own hG6 hol
    have G6 := Gr.trans G5 hG6
    have hcv6 : (convert 42 9 (.slice (some ⟨g4, 0, none⟩) 32 32)).run Tryd.prog w6 = .ok (.string ⟨K.toArray⟩) w6 := run_str w6 Tryd.underlying42 Tryd.underlying5 Tryd.underlying9 (h46.rdAll hK)
    have hcutA := fun w => run_cutAll (P := Tryd.prog) (g := g4) (w := w) Tryd.underlying23 (by kernel_rfl)
    obtain ⟨sK, hsK⟩ : ∃ s : ByteArray, s = ⟨K.toArray⟩ := ⟨_, rfl⟩
    rw [← hsK] at HRf hcv6
    clear hsK h45 hr5 hol G5 hG6 HRs gw5
    go_wp2_with fail
    refine (HRf.out w6).mono ?_
    rintro e w7 ⟨v, rfl, ho7, hG7⟩
    obtain ⟨Aw, cw, rfl, _, _, hr7⟩ := own_form3 ho7
    have hU7 := hG7.rd hr6
    have hol7 := Gr.own hG7 hol6
    have G7 := Gr.trans G6 hG7
    clear ho7 HRf hcv6 hcutA hol6 G6 hG7 h46 hr6
    go_wp2_with fail
    refine (HRS.out w7 Aw cw hr7 hU7).mono ?_
    rintro e w8 ⟨Ax, cx, rfl, hox, hG8⟩
    rw [← hN] at hox
    simp only [← hN]
    have hU8 := hG8.rd hU7
    have hol8 := Gr.own hG8 hol7
    have G8 := Gr.trans G7 hG8
    have HN := Lib.hid hN
    clear HRS hr7 hU7 hol7 G7 hG8 hN
    have h14 : Arr (w8.alloc (.cells #[.bool false, .bool false, .bool false, .bool false, .bool false, .bool false, .bool false, .bool false] 34)) w8.heap.size 34 ((List.replicate 8 false).map Value.bool) := Arr.newAt rfl rfl
    have G89 : Gr w8 (w8.alloc (.cells #[.bool false, .bool false, .bool false, .bool false, .bool false, .bool false, .bool false, .bool false] 34)) := Gr.alloc _ _
    go_upto_region 14 with fail
    change Code.wp _ _ _ _ (w8.alloc (.cells #[.bool false, .bool false, .bool false, .bool false, .bool false, .bool false, .bool false, .bool false] 34))
    generalize w8.alloc (.cells #[.bool false, .bool false, .bool false, .bool false, .bool false, .bool false, .bool false, .bool false] 34) = w9 at h14 G89 ⊢
    obtain ⟨g14, hg⟩ : ∃ g, g = w8.heap.size := ⟨_, rfl⟩
    have Hg14 : Hid (w8.heap.size ≤ g14) := by show _ ≤ _; omega
    rw [← hg] at h14
    simp only [← hg]
    clear hg
    go_upto_region 15 with fail
    go_simp
    go_loopw [15] (fun i wr => SeenR (PP.map (·.1)) N g14 w8 i wr) (fun i _ => N - (intOf i).toNat)
    case atStart => exact ⟨0, List.replicate 8 false, Nat.zero_le _, rfl, rfl, fun x hx => by rw [List.getElem?_replicate, if_pos hx]; simp, h14, G89⟩
    case round =>
      obtain ⟨i, bs, hi, rfl, hbl, hbs, hAr, hG⟩ := hrel
      have hN8 : N ≤ 8 := by rw [HN.out]; exact hPl
      by_cases hlt : i < N
      · have hii : (i : Int) < (N : Int) := by omega
        have hi8 : (i : Int) < 8 := by omega
        obtain ⟨⟨x, y⟩, hxy⟩ : ∃ p, PP[i]? = some p := ⟨_, List.getElem?_eq_getElem (by rw [← HN.out]; exact hlt)⟩
        obtain ⟨gl, rfl, hl0, hl1⟩ := pairs_at (Gr.own hG hol8) hlt hxy
        obtain ⟨gx, rfl, hx0, hx1⟩ := pairs_at (Gr.own hG hox) hlt hxy
        simp only at hl0 hl1 hx0 hx1
        obtain ⟨hxk, hupx⟩ := hin _ (List.mem_of_getElem? hxy)
        simp only at hxk hupx
        have hx8 : x < 8 := by omega
        have hxi : (x : Int) < (k : Int) := by omega
        have hxi8 : (x : Int) < 8 := by omega
        have hxf : (PP.map (·.1))[i]? = some x := by rw [List.getElem?_map, hxy]; rfl
        have hnot : x ∉ (PP.map (·.1)).take i := fun h => by
          obtain ⟨j, hj, he⟩ := List.getElem_of_mem h
          rw [List.length_take] at hj
          rw [List.getElem_take] at he
          obtain ⟨hl, hxe⟩ := List.getElem?_eq_some_iff.1 hxf
          have := (List.nodup_iff_pairwise_ne.1 hnd |> List.pairwise_iff_getElem.1) j i (by omega) hl (by omega)
          exact this (he.trans hxe.symm)
        have hcs : wr.cell? ⟨g14, x, none⟩ = some (.bool false) := hAr.cell (by rw [List.getElem?_map, hbs x hx8, decide_eq_false hnot]; rfl)
        have hfb : wr.frozen? ⟨g14, x, none⟩ = false := hAr.frozen x
        have hul : ups.length = k := by have := hU8.1; simpa using this
        have hux : ups[x]? = some true := by
          have : ups[x]? = some (upF ups x) := by
            unfold upF
            rw [List.getD_eq_getElem?_getD, List.getElem?_eq_getElem (by omega)]
            rfl
          rw [this, hupx]
        have hcu : wr.cell? ⟨gu, x, none⟩ = some (.bool true) := by
          obtain ⟨ad, e, hc⟩ := (hG.rd hU8).2 x (.bool true) (by rw [List.getElem?_map, hux]; rfl)
          injection e with e
          subst e
          rwa [add_row, Nat.zero_add] at hc
        have hb2 : Hid (∀ z, z < 8 → (bs.set x true)[z]? = some (decide (z ∈ (PP.map (·.1)).take (i + 1)))) := fun z hz => by
          rw [List.take_add_one, hxf]
          by_cases e : z = x
          · subst e
            rw [List.getElem?_set_self (by omega)]
            simp
          · rw [List.getElem?_set_ne (fun h => e h.symm), hbs z hz]
            simp [e]
        have hm2 : (bs.map Value.bool).set x (.bool true) = (bs.set x true).map Value.bool := by rw [List.map_set]
        have HM2 := Lib.hid hm2
        have hG0 := hG
        clear hG
        have hb2l : (bs.set x true).length = 8 := by rw [List.length_set]; exact hbl
        have hiN := hlt
        have hxn := hxk
        clear hbs hnot hm2 hxy hxf hux hul hupx
        go_upto_region 17 with fail
        refine wp_region_ssaL (by kernel_rfl) [IsV (.slice (some ⟨gl, 0, none⟩) N cl), IsV (.int .i64 ((i : Nat) : Int)), IsV (.pointer (some ⟨gl, i * 2, none⟩)), IsV (.agg #[.int .i64 (x : Int), .int .i64 (y : Int)]), IsV (.slice (some ⟨gx, 0, none⟩) N cx), IsV (.int .i64 ((i : Nat) : Int)), IsV (.pointer (some ⟨gx, i * 2, none⟩)), IsV (.agg #[.int .i64 (x : Int), .int .i64 (y : Int)]), IsV (.bool false), IsV (.bool false), IsV (.slice (some ⟨gl, 0, none⟩) N cl), IsV (.int .i64 ((i : Nat) : Int)), IsV (.pointer (some ⟨gl, i * 2, none⟩)), IsV (.pointer (some ⟨gl, i * 2, none⟩)), IsV (.int .i64 ((x : Nat) : Int)), IsV (.bool false), IsV (.bool false), IsV (.bool false), IsV (.slice (some ⟨gl, 0, none⟩) N cl), IsV (.int .i64 ((i : Nat) : Int)), IsV (.pointer (some ⟨gl, i * 2, none⟩)), IsV (.pointer (some ⟨gl, i * 2, none⟩)), IsV (.int .i64 ((x : Nat) : Int)), IsV (.bool false), IsV (.bool false), IsV (.bool false), IsV (.slice (some ⟨gl, 0, none⟩) N cl), IsV (.int .i64 ((i : Nat) : Int)), IsV (.pointer (some ⟨gl, i * 2, none⟩)), IsV (.pointer (some ⟨gl, i * 2, none⟩)), IsV (.int .i64 ((x : Nat) : Int)), IsV (.pointer (some ⟨g14, x, none⟩)), IsV (.bool false), IsV (.bool false), IsV (.bool false), IsV (.slice (some ⟨gu, 0, none⟩) k cu), IsV (.slice (some ⟨gl, 0, none⟩) N cl), IsV (.int .i64 ((i : Nat) : Int)), IsV (.pointer (some ⟨gl, i * 2, none⟩)), IsV (.pointer (some ⟨gl, i * 2, none⟩)), IsV (.int .i64 ((x : Nat) : Int)), IsV (.pointer (some ⟨gu, x, none⟩)), IsV (.bool true), IsV (.bool false), IsV (.bool false)] (by kernel_rfl) ?_ ?_ ?_
        · intro φ hφ v w1 w2 h hg
          simp only [List.mem_cons, List.not_mem_nil, or_false] at hφ
          rcases hφ with rfl | rfl | rfl | rfl | rfl | rfl | rfl | rfl | rfl | rfl | rfl | rfl | rfl | rfl | rfl | rfl | rfl | rfl | rfl | rfl | rfl | rfl | rfl | rfl | rfl | rfl | rfl | rfl | rfl | rfl | rfl | rfl | rfl | rfl | rfl | rfl | rfl | rfl | rfl | rfl | rfl | rfl | rfl | rfl | rfl
          all_goals first | exact h | exact RdV.gr h hg
        · refine ⟨?_, ?_, ?_, ?_, ?_, ?_, ?_, ?_, ?_, ?_, ?_, ?_, ?_, ?_, ?_, ?_, ?_, ?_, ?_, ?_, ?_, ?_, ?_, ?_, ?_, ?_, ?_, ?_, ?_, ?_, ?_, ?_, ?_, ?_, ?_, ?_, ?_, ?_, ?_, ?_, ?_, ?_, ?_, ?_, ?_, trivial⟩
          · intro a1 w1 hG hF
            exact s_old rfl (wants0 rfl) (.tmp 11) (.inr rfl) (.slice (some ⟨gl, 0, none⟩) N cl) (hF.ol 11 (by kernel_rfl)) rfl
          · intro a1 w1 hG hF
            exact s_old rfl (wants0 rfl) (.tmp 15) (.inr rfl) (.int .i64 ((i : Nat) : Int)) (hF.ol 15 (by kernel_rfl)) rfl
          · intro a1 w1 hG hF
            obtain ⟨_, e89, rfl⟩ := hF.dp 0 89 (by kernel_rfl)
            obtain ⟨_, e90, rfl⟩ := hF.dp 1 90 (by kernel_rfl)
            exact s_is rfl (wants0 rfl) _ rfl (run_idx2S (c := cl) Tryd.underlying38 (by kernel_rfl) e89 e90 hiN)
          · intro a1 w1 hG hF
            obtain ⟨_, e91, rfl⟩ := hF.dp 2 91 (by kernel_rfl)
            exact s_is rfl (wants0 rfl) _ rfl (run_loadPr e91 (Gr.cell ((Gr.drew wr).trans hG) hl0) (Gr.cell ((Gr.drew wr).trans hG) hl1))
          · intro a1 w1 hG hF
            exact s_old rfl (wants0 rfl) (.tmp 13) (.inr rfl) (.slice (some ⟨gx, 0, none⟩) N cx) (hF.ol 13 (by kernel_rfl)) rfl
          · intro a1 w1 hG hF
            exact s_old rfl (wants0 rfl) (.tmp 15) (.inr rfl) (.int .i64 ((i : Nat) : Int)) (hF.ol 15 (by kernel_rfl)) rfl
          · intro a1 w1 hG hF
            obtain ⟨_, e93, rfl⟩ := hF.dp 4 93 (by kernel_rfl)
            obtain ⟨_, e94, rfl⟩ := hF.dp 5 94 (by kernel_rfl)
            exact s_is rfl (wants0 rfl) _ rfl (run_idx2S (c := cx) Tryd.underlying38 (by kernel_rfl) e93 e94 hiN)
          · intro a1 w1 hG hF
            obtain ⟨_, e95, rfl⟩ := hF.dp 6 95 (by kernel_rfl)
            exact s_is rfl (wants0 rfl) _ rfl (run_loadPr e95 (Gr.cell ((Gr.drew wr).trans hG) hx0) (Gr.cell ((Gr.drew wr).trans hG) hx1))
          · intro a1 w1 hG hF
            obtain ⟨_, e92, rfl⟩ := hF.dp 3 92 (by kernel_rfl)
            obtain ⟨_, e96, rfl⟩ := hF.dp 7 96 (by kernel_rfl)
            exact s_is rfl (wants0 rfl) _ rfl (run_nePr e92 e96)
          · intro a1 w1 hG hF
            exact s_same rfl (wants0 rfl) (.tmp 97) (.inr rfl) (hF.dp 8 97 (by kernel_rfl))
          · intro a1 w1 hG hF
            exact s_old rfl (wantsG hF 9 98 false rfl (by kernel_rfl) rfl) (.tmp 11) (.inr rfl) (.slice (some ⟨gl, 0, none⟩) N cl) (hF.ol 11 (by kernel_rfl)) rfl
          · intro a1 w1 hG hF
            exact s_old rfl (wantsG hF 9 98 false rfl (by kernel_rfl) rfl) (.tmp 15) (.inr rfl) (.int .i64 ((i : Nat) : Int)) (hF.ol 15 (by kernel_rfl)) rfl
          · intro a1 w1 hG hF
            obtain ⟨_, e99, rfl⟩ := hF.dp 10 99 (by kernel_rfl)
            obtain ⟨_, e100, rfl⟩ := hF.dp 11 100 (by kernel_rfl)
            exact s_is rfl (wantsG hF 9 98 false rfl (by kernel_rfl) rfl) _ rfl (run_idx2S (c := cl) Tryd.underlying38 (by kernel_rfl) e99 e100 hiN)
          · intro a1 w1 hG hF
            obtain ⟨_, e101, rfl⟩ := hF.dp 12 101 (by kernel_rfl)
            exact s_is rfl (wantsG hF 9 98 false rfl (by kernel_rfl) rfl) _ rfl (run_idx43 e101 rfl)
          · intro a1 w1 hG hF
            obtain ⟨_, e102, rfl⟩ := hF.dp 13 102 (by kernel_rfl)
            exact s_is rfl (wantsG hF 9 98 false rfl (by kernel_rfl) rfl) _ rfl (run_load1 Tryd.underlying3 e102 (Gr.cell ((Gr.drew wr).trans hG) hl0))
          · intro a1 w1 hG hF
            obtain ⟨_, e103, rfl⟩ := hF.dp 14 103 (by kernel_rfl)
            exact s_is rfl (wantsG hF 9 98 false rfl (by kernel_rfl) rfl) _ rfl (run_lssF e103 rfl (by omega))
          · intro a1 w1 hG hF
            obtain ⟨_, e98, rfl⟩ := hF.dp 9 98 (by kernel_rfl)
            obtain ⟨_, e104, rfl⟩ := hF.dp 15 104 (by kernel_rfl)
            exact s_pickF rfl (wants0 rfl) (.tmp 98) _ (.tmp 104) rfl e98 _ e104 rfl
          · intro a1 w1 hG hF
            exact s_same rfl (wants0 rfl) (.tmp 105) (.inr rfl) (hF.dp 16 105 (by kernel_rfl))
          · intro a1 w1 hG hF
            exact s_old rfl (wantsG hF 17 106 false rfl (by kernel_rfl) rfl) (.tmp 11) (.inr rfl) (.slice (some ⟨gl, 0, none⟩) N cl) (hF.ol 11 (by kernel_rfl)) rfl
          · intro a1 w1 hG hF
            exact s_old rfl (wantsG hF 17 106 false rfl (by kernel_rfl) rfl) (.tmp 15) (.inr rfl) (.int .i64 ((i : Nat) : Int)) (hF.ol 15 (by kernel_rfl)) rfl
          · intro a1 w1 hG hF
            obtain ⟨_, e107, rfl⟩ := hF.dp 18 107 (by kernel_rfl)
            obtain ⟨_, e108, rfl⟩ := hF.dp 19 108 (by kernel_rfl)
            exact s_is rfl (wantsG hF 17 106 false rfl (by kernel_rfl) rfl) _ rfl (run_idx2S (c := cl) Tryd.underlying38 (by kernel_rfl) e107 e108 hiN)
          · intro a1 w1 hG hF
            obtain ⟨_, e109, rfl⟩ := hF.dp 20 109 (by kernel_rfl)
            exact s_is rfl (wantsG hF 17 106 false rfl (by kernel_rfl) rfl) _ rfl (run_idx43 e109 rfl)
          · intro a1 w1 hG hF
            obtain ⟨_, e110, rfl⟩ := hF.dp 21 110 (by kernel_rfl)
            exact s_is rfl (wantsG hF 17 106 false rfl (by kernel_rfl) rfl) _ rfl (run_load1 Tryd.underlying3 e110 (Gr.cell ((Gr.drew wr).trans hG) hl0))
          · intro a1 w1 hG hF
            obtain ⟨_, e111, rfl⟩ := hF.dp 22 111 (by kernel_rfl)
            exact s_is rfl (wantsG hF 17 106 false rfl (by kernel_rfl) rfl) _ rfl (run_gtrF e111 rfl (by omega))
          · intro a1 w1 hG hF
            obtain ⟨_, e106, rfl⟩ := hF.dp 17 106 (by kernel_rfl)
            obtain ⟨_, e112, rfl⟩ := hF.dp 23 112 (by kernel_rfl)
            exact s_pickF rfl (wants0 rfl) (.tmp 106) _ (.tmp 112) rfl e106 _ e112 rfl
          · intro a1 w1 hG hF
            exact s_same rfl (wants0 rfl) (.tmp 113) (.inr rfl) (hF.dp 24 113 (by kernel_rfl))
          · intro a1 w1 hG hF
            exact s_old rfl (wantsG hF 25 114 false rfl (by kernel_rfl) rfl) (.tmp 11) (.inr rfl) (.slice (some ⟨gl, 0, none⟩) N cl) (hF.ol 11 (by kernel_rfl)) rfl
          · intro a1 w1 hG hF
            exact s_old rfl (wantsG hF 25 114 false rfl (by kernel_rfl) rfl) (.tmp 15) (.inr rfl) (.int .i64 ((i : Nat) : Int)) (hF.ol 15 (by kernel_rfl)) rfl
          · intro a1 w1 hG hF
            obtain ⟨_, e115, rfl⟩ := hF.dp 26 115 (by kernel_rfl)
            obtain ⟨_, e116, rfl⟩ := hF.dp 27 116 (by kernel_rfl)
            exact s_is rfl (wantsG hF 25 114 false rfl (by kernel_rfl) rfl) _ rfl (run_idx2S (c := cl) Tryd.underlying38 (by kernel_rfl) e115 e116 hiN)
          · intro a1 w1 hG hF
            obtain ⟨_, e117, rfl⟩ := hF.dp 28 117 (by kernel_rfl)
            exact s_is rfl (wantsG hF 25 114 false rfl (by kernel_rfl) rfl) _ rfl (run_idx43 e117 rfl)
          · intro a1 w1 hG hF
            obtain ⟨_, e118, rfl⟩ := hF.dp 29 118 (by kernel_rfl)
            exact s_is rfl (wantsG hF 25 114 false rfl (by kernel_rfl) rfl) _ rfl (run_load1 Tryd.underlying3 e118 (Gr.cell ((Gr.drew wr).trans hG) hl0))
          · intro a1 w1 hG hF
            have e14 : a1.eval (.tmp 14) = .pointer (some ⟨g14, 0, none⟩) := hF.ol 14 (by kernel_rfl)
            obtain ⟨_, e119, rfl⟩ := hF.dp 30 119 (by kernel_rfl)
            exact s_is rfl (wantsG hF 25 114 false rfl (by kernel_rfl) rfl) _ rfl (run_idx (i := x) Tryd.underlying34 (by kernel_rfl) e14 e119 (by omega))
          · intro a1 w1 hG hF
            obtain ⟨_, e120, rfl⟩ := hF.dp 31 120 (by kernel_rfl)
            exact s_is rfl (wantsG hF 25 114 false rfl (by kernel_rfl) rfl) _ rfl (run_load1B (.inl Tryd.underlying4) e120 (Gr.cell ((Gr.drew wr).trans hG) hcs))
          · intro a1 w1 hG hF
            obtain ⟨_, e114, rfl⟩ := hF.dp 25 114 (by kernel_rfl)
            obtain ⟨_, e121, rfl⟩ := hF.dp 32 121 (by kernel_rfl)
            exact s_pickF rfl (wants0 rfl) (.tmp 114) _ (.tmp 121) rfl e114 _ e121 rfl
          · intro a1 w1 hG hF
            exact s_same rfl (wants0 rfl) (.tmp 122) (.inr rfl) (hF.dp 33 122 (by kernel_rfl))
          · intro a1 w1 hG hF
            exact s_old rfl (wantsG hF 34 123 false rfl (by kernel_rfl) rfl) (.tmp 2) (.inr rfl) (.slice (some ⟨gu, 0, none⟩) k cu) (hF.ol 2 (by kernel_rfl)) rfl
          · intro a1 w1 hG hF
            exact s_old rfl (wantsG hF 34 123 false rfl (by kernel_rfl) rfl) (.tmp 11) (.inr rfl) (.slice (some ⟨gl, 0, none⟩) N cl) (hF.ol 11 (by kernel_rfl)) rfl
          · intro a1 w1 hG hF
            exact s_old rfl (wantsG hF 34 123 false rfl (by kernel_rfl) rfl) (.tmp 15) (.inr rfl) (.int .i64 ((i : Nat) : Int)) (hF.ol 15 (by kernel_rfl)) rfl
          · intro a1 w1 hG hF
            obtain ⟨_, e125, rfl⟩ := hF.dp 36 125 (by kernel_rfl)
            obtain ⟨_, e126, rfl⟩ := hF.dp 37 126 (by kernel_rfl)
            exact s_is rfl (wantsG hF 34 123 false rfl (by kernel_rfl) rfl) _ rfl (run_idx2S (c := cl) Tryd.underlying38 (by kernel_rfl) e125 e126 hiN)
          · intro a1 w1 hG hF
            obtain ⟨_, e127, rfl⟩ := hF.dp 38 127 (by kernel_rfl)
            exact s_is rfl (wantsG hF 34 123 false rfl (by kernel_rfl) rfl) _ rfl (run_idx43 e127 rfl)
          · intro a1 w1 hG hF
            obtain ⟨_, e128, rfl⟩ := hF.dp 39 128 (by kernel_rfl)
            exact s_is rfl (wantsG hF 34 123 false rfl (by kernel_rfl) rfl) _ rfl (run_load1 Tryd.underlying3 e128 (Gr.cell ((Gr.drew wr).trans hG) hl0))
          · intro a1 w1 hG hF
            obtain ⟨_, e124, rfl⟩ := hF.dp 35 124 (by kernel_rfl)
            obtain ⟨_, e129, rfl⟩ := hF.dp 40 129 (by kernel_rfl)
            exact s_is rfl (wantsG hF 34 123 false rfl (by kernel_rfl) rfl) _ rfl (run_idxG (c := cu) Tryd.underlying44 (by kernel_rfl) e124 e129 hxn)
          · intro a1 w1 hG hF
            obtain ⟨_, e130, rfl⟩ := hF.dp 41 130 (by kernel_rfl)
            exact s_is rfl (wantsG hF 34 123 false rfl (by kernel_rfl) rfl) _ rfl (run_load1B (.inl Tryd.underlying4) e130 (Gr.cell ((Gr.drew wr).trans hG) hcu))
          · intro a1 w1 hG hF
            obtain ⟨_, e131, rfl⟩ := hF.dp 42 131 (by kernel_rfl)
            exact s_is rfl (wantsG hF 34 123 false rfl (by kernel_rfl) rfl) _ rfl (by simp only [execOp, e131]; go_simp)
          · intro a1 w1 hG hF
            obtain ⟨_, e123, rfl⟩ := hF.dp 34 123 (by kernel_rfl)
            obtain ⟨_, e132, rfl⟩ := hF.dp 43 132 (by kernel_rfl)
            exact s_pickF rfl (wants0 rfl) (.tmp 123) _ (.tmp 132) rfl e123 _ e132 rfl
        · intro vs wz hG hf
          have z133 : vs 44 = .bool false := hf.2.2.2.2.2.2.2.2.2.2.2.2.2.2.2.2.2.2.2.2.2.2.2.2.2.2.2.2.2.2.2.2.2.2.2.2.2.2.2.2.2.2.2.2.1
          clear hf
          simp only [putAll, Nat.zero_add, Nat.reduceAdd, z133]
          have hGd := (Gr.drew wr).trans hG
          have hArz := hAr.gr hGd
          have kcs := Gr.cell hGd hcs
          have kl0 := Gr.cell hGd hl0
          have kfb := hArz.frozen x
          have hA2 := hArz.set x (.bool true)
          rw [HM2.out] at hA2
          have hGz := Gr.trans hG0 hGd
          have hG2 : Gr w8 (wz.setCell ⟨g14, x, none⟩ (.bool true)) := Below.trans hGz (below_setCell (w := wz) (a := ⟨g14, x, none⟩) (v := .bool true) Hg14.out)
          clear hG hGd hArz hAr hcs hcu hl0 hl1 hx0 hx1 hfb hGz hG0 z133
          go_simp
          go_upto_region 19 with fail
          go_wp2_with fail
          exact ⟨⟨i + 1, bs.set x true, hlt, by go_num, hb2l, hb2.out, hA2, hG2⟩, by simp [intOf]; omega⟩
      · have hii : ¬ (i : Int) < (N : Int) := by omega
        go_wp2_with fail
        go_ret
        exact ⟨rfl, Gr.trans G8 hG⟩
  · have hne : ¬ (k : Int) = (n : Int) := by omega
    have HSt := Lib.hid (stand_len hR4 K s hs1 hsn Au k cu hkn)
    have hdn : decide (k = n) = false := by simpa using hkn
    clear hAu hR4
    go_wp2_with first
      | (refine wpList_load_mid rfl 23 (.tmp 4) rfl g4 0 rfl (u8s K) _ h44.range Tryd.underlying23 rfl (infoK K hK) ?_)
    refine HSt.out.mono ?_
    rintro e w5 ⟨rfl, hG5⟩
    have gw5 := gw4.gr hG5
    have G5 := Gr.trans G4 hG5
    clear HSt h44 gw4 hr4 G4 hG5
    go_wp2_with fail
    refine (HRs.out w5 gw5).mono ?_
    rintro e w6 ⟨rfl, hG6⟩
    have G6 := Gr.trans G5 hG6
    clear G5 hG6 HRs gw5
    go_wp2_with fail
    go_ret
    exact ⟨rfl, G6⟩
end Go.Proofs.YtmcnnjcbgbdeeaaDoor