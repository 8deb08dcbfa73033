/- The walk of sha2.schedule. No condition. -/
import Derived.Test.YtmcnnjcbgbdeeaaDoorShaG
import Derived.Test.YtmcnnjcbgbdeeaaDoorSl
import Derived.Test.YtmcnnjcbgbdeeaaDoorKitA
namespace Go.Proofs.YtmcnnjcbgbdeeaaDoor
open Go.RowKit
theorem info64 (l : List UInt32) (h : l.length = 64) : (Tryd.prog.info? 86).map (·.size) = some (u32s l).length := by simp only [u32s_length, h]; kernel_rfl
theorem wordB_toNat {b : List UInt8} {k : Nat} : ((wordB b k).toNat : Int) = (beNat ((b.drop (4 * k)).take 4) : Nat) := by
  have h := beNat_lt ((b.drop (4 * k)).take 4)
  have h2 : 256 ^ ((b.drop (4 * k)).take 4).length ≤ 256 ^ 4 := Nat.pow_le_pow_right (by omega) (by rw [List.length_take]; omega)
  rw [wordB, UInt32.toNat_ofNat']
  omega
set_option maxRecDepth 100000 in
set_option maxHeartbeats 4000000 in
theorem schedule_any (A : Option Addr) (c : Nat) (b : List UInt8) (hc : 64 ≤ c) (w : World) (hr : Rd w A 64 (u8s b)) :
    Calls Tryd.prog 45 #[.slice A 64 c] w fun e w' => e = .returned (.agg (u32s (schedU b)).toArray) ∧ Below w.heap.size w w' := by
  go_enter Tryd.func45, Tryd.ntmps45
  go_wp2_with fail
  generalize hW : (w.alloc _).alloc _ = W
  obtain ⟨g2, hg2⟩ : ∃ g, g = w.heap.size := ⟨_, rfl⟩
  obtain ⟨g3, hg3⟩ : ∃ g, g = w.heap.size + 1 := ⟨_, rfl⟩
  have hM : Mem g2 w W [(g3, 86, u32s (wA b 0)), (g2, 86, u32s (List.replicate 64 0))] := by
    have h := ((Mem.nil w).new (t := 86) (C := (u32s (List.replicate 64 0)).toArray) (cs := u32s (List.replicate 64 0)) (Nat.le_refl _) (by simp)).new (t := 86) (C := (u32s (wA b 0)).toArray) (cs := u32s (wA b 0)) (Nat.le_refl _) (by simp)
    rw [asz] at h
    rw [← hW, hg2, hg3]
    exact h
  have hB0 : g2 ≤ w.heap.size := by omega
  simp only [← hg3]
  simp only [← hg2]
  have HG := Lib.hid hg2
  clear hW hg2 hg3
  obtain ⟨F, hF⟩ : ∃ F : Nat → List UInt32, F = wA b := ⟨_, rfl⟩
  have HFL : Hid (∀ r, (F r).length = 64) := by intro r; rw [hF]; simp
  have HFS : Hid (∀ r, (F r).set r (wordB b r) = F (r + 1)) := by intro r; rw [hF]; rfl
  have HFE : Hid (∀ r, F r = wA b r) := by intro r; rw [hF]
  rw [← hF] at hM
  clear hF
  go_loopw [6] (fun i wr => ∃ r : Nat, r ≤ 16 ∧ i = .int .i64 r ∧ Mem g2 w wr [(g3, 86, u32s (F r)), (g2, 86, u32s (List.replicate 64 0))]) (fun i _ => 16 - (intOf i).toNat)
  case atStart => exact ⟨0, by omega, rfl, hM⟩
  case round =>
    clear hM
    obtain ⟨r, hr16, rfl, hM⟩ := hrel
    by_cases hlt : r < 16
    · have hcut := fun w1 => run_cut_lh (P := Tryd.prog) Tryd.underlying42 (by kernel_rfl) (A := A) (n := 64) (c := c) (lo := 4 * r) (hi := 4 * r + 4) (l := 4 * (r : Int)) (h := 4 * (r : Int) + 4) (by omega) (by omega) (by omega) (by omega) w1
      rw [show 4 * r + 4 - 4 * r = 4 by omega] at hcut
      have hrd := (hr.below (HG.out ▸ hM.below)).cutLH (lo := 4 * r) (hi := 4 * r + 4) (by omega) (by omega) hc
      rw [show 4 * r + 4 - 4 * r = 4 by omega, u8s_drop, u8s_take] at hrd
      have h32 := fun w c h => high32_any (cutA A c (4 * r)) (c - 4 * r) ((b.drop (4 * r)).take 4) w h
      simp only [← wordB_toNat (b := b) (k := r)] at h32
      obtain ⟨x, hx⟩ : ∃ x, x = wordB b r := ⟨_, rfl⟩
      rw [← hx] at h32
      have c3 := (hM.at_ 0 rfl).u32 (a := r) (by rw [HFL.out]; omega)
      have f3 := (hM.at_ 0 rfl).frozen r
      have hM' := hM.set 0 rfl r (.int .u32 (x.toNat : Int))
      rw [u32s_set, hx, HFS.out r, ← hx] at hM'
      simp only [List.set] at hM'
      have H32 := Lib.hid h32
      clear hx h32
      go_wp2_with (go_at_call 60; refine (H32.out _ _ hrd).mono ?_; rintro e w1 ⟨rfl, rfl⟩)
      exact ⟨⟨r + 1, by omega, by go_num, hM'⟩, by simp [intOf]; omega⟩
    · obtain rfl : r = 16 := by omega
      obtain ⟨G, hG⟩ : ∃ G : Nat → List UInt32, G = wB (F 16) := ⟨_, rfl⟩
      have HGL : Hid (∀ r, (G r).length = 64) := by intro r; rw [hG, wB_length, HFL.out]
      have HGS : Hid (∀ r, (G r).set (16 + r) (wS (G r) r) = G (r + 1)) := by intro r; rw [hG]; rfl
      have HGE : Hid (∀ r, r = 48 → schedU b = G r) := by intro r hr; rw [hr, hG, HFE.out]; rfl
      have hG0 : F 16 = G 0 := by rw [hG]; rfl
      rw [hG0] at hM
      clear hG hG0 hlt hr
      simp only [show ((16 : Nat) : Int) = 16 from rfl]
      go_wp2_with fail
      go_loopw [5] (fun i wr => ∃ r : Nat, r ≤ 48 ∧ i = .int .i64 ((16 + r : Nat) : Int) ∧ Mem g2 w wr [(g3, 86, u32s (G r)), (g2, 86, u32s (List.replicate 64 0))]) (fun i _ => 64 - (intOf i).toNat)
      case atStart => exact ⟨0, by omega, rfl, hM⟩
      case round =>
        clear hM
        obtain ⟨r, hr, rfl, hM⟩ := hrel
        obtain ⟨t, ht⟩ : ∃ t, t = 16 + r := ⟨_, rfl⟩
        rw [← ht]
        by_cases hlt : t < 64
        · have ht16 : 16 ≤ t := by omega
          obtain ⟨x2, hx2⟩ : ∃ x, x = (G r).getD (t - 2) 0 := ⟨_, rfl⟩
          obtain ⟨x7, hx7⟩ : ∃ x, x = (G r).getD (t - 7) 0 := ⟨_, rfl⟩
          obtain ⟨x15, hx15⟩ : ∃ x, x = (G r).getD (t - 15) 0 := ⟨_, rfl⟩
          obtain ⟨x16, hx16⟩ : ∃ x, x = (G r).getD (t - 16) 0 := ⟨_, rfl⟩
          have c2 := (hM.at_ 0 rfl).u32 (a := t - 2) (by rw [HGL.out]; omega)
          have c7 := (hM.at_ 0 rfl).u32 (a := t - 7) (by rw [HGL.out]; omega)
          have c15 := (hM.at_ 0 rfl).u32 (a := t - 15) (by rw [HGL.out]; omega)
          have c16 := (hM.at_ 0 rfl).u32 (a := t - 16) (by rw [HGL.out]; omega)
          rw [← hx2] at c2
          rw [← hx7] at c7
          rw [← hx15] at c15
          rw [← hx16] at c16
          obtain ⟨x, hx⟩ : ∃ x, x = mvd x2 17 19 10 + x7 + mvd x15 7 18 3 + x16 := ⟨_, rfl⟩
          have hxs : (G r).set t x = G (r + 1) := by
            rw [← HGS.out r, ht, hx, wS, hx2, hx7, hx15, hx16, ht, show 16 + r - 2 = 14 + r by omega, show 16 + r - 7 = 9 + r by omega, show 16 + r - 15 = 1 + r by omega, show 16 + r - 16 = r by omega]
          have HXS := Lib.hid hxs
          have HX := Lib.hid hx
          have HT := Lib.hid ht
          have hlr : r < 48 := by omega
          clear hx2 hx7 hx15 hx16 hx hxs ht
          go_wp2_with fail
          refine wp_region_cut (by kernel_rfl) [IsV (.int .i64 ((t : Nat) : Int)), IsV (.int .i64 ((t : Nat) : Int)), IsV (.int .i64 ((t - 2 : Nat) : Int)), IsV (.pointer (some ⟨g3, t - 2, none⟩)), IsV (.int .u32 ((x2).toNat : Int)), IsV (.int .u32 ((mvd x2 17 19 10).toNat : Int)), IsV (.int .i64 ((t : Nat) : Int)), IsV (.int .i64 ((t - 7 : Nat) : Int)), IsV (.pointer (some ⟨g3, t - 7, none⟩)), IsV (.int .u32 ((x7).toNat : Int)), IsV (.int .u32 (((mvd x2 17 19 10) + x7).toNat : Int)), IsV (.int .i64 ((t : Nat) : Int)), IsV (.int .i64 ((t - 15 : Nat) : Int)), IsV (.pointer (some ⟨g3, t - 15, none⟩)), IsV (.int .u32 ((x15).toNat : Int)), IsV (.int .u32 ((mvd x15 7 18 3).toNat : Int)), IsV (.int .u32 ((((mvd x2 17 19 10) + x7) + (mvd x15 7 18 3)).toNat : Int)), IsV (.int .i64 ((t : Nat) : Int)), IsV (.int .i64 ((t - 16 : Nat) : Int)), IsV (.pointer (some ⟨g3, t - 16, none⟩)), IsV (.int .u32 ((x16).toNat : Int)), IsV (.int .u32 (((((mvd x2 17 19 10) + x7) + (mvd x15 7 18 3)) + x16).toNat : Int)), IsV (.pointer (some ⟨g3, t, none⟩))] 23 (by decide) (by kernel_rfl) (by kernel_rfl) (by kernel_rfl) ?_ ?_ ?_
          · intro φ hφ v w1 w2 h hg
            simp only [List.mem_cons, List.not_mem_nil, or_false] at hφ
            rcases hφ with rfl | rfl | rfl | rfl | rfl | rfl | rfl | rfl | rfl | rfl | rfl | rfl | rfl | rfl | rfl | rfl | rfl | rfl | rfl | rfl | rfl | rfl | rfl
            all_goals first | exact h | exact RdV.gr h hg
          · refine ⟨?_, ?_, ?_, ?_, ?_, ?_, ?_, ?_, ?_, ?_, ?_, ?_, ?_, ?_, ?_, ?_, ?_, ?_, ?_, ?_, ?_, ?_, ?_, trivial⟩
            · intro a1 w1 hG hF
              exact s_old rfl (wants0 rfl) (.tmp 5) (.inr rfl) (.int .i64 ((t : Nat) : Int)) (hF.ol 5 (by kernel_rfl)) rfl
            · intro a1 w1 hG hF
              exact s_old rfl (wants0 rfl) (.tmp 5) (.inr rfl) (.int .i64 ((t : Nat) : Int)) (hF.ol 5 (by kernel_rfl)) rfl
            · intro a1 w1 hG hF
              obtain ⟨_, e28, rfl⟩ := hF.dp 1 28 (by kernel_rfl)
              exact s_is rfl (wants0 rfl) _ rfl (run_subN (a := t) (b := 2) e28 rfl (by omega) (by omega))
            · intro a1 w1 hG hF
              have e3 : a1.eval (.tmp 3) = .pointer (some ⟨g3, 0, none⟩) := hF.ol 3 (by kernel_rfl)
              obtain ⟨_, e29, rfl⟩ := hF.dp 2 29 (by kernel_rfl)
              exact s_is rfl (wants0 rfl) _ rfl (run_idx (i := t - 2) Tryd.underlying86 (by kernel_rfl) e3 e29 (by omega))
            · intro a1 w1 hG hF
              obtain ⟨_, e30, rfl⟩ := hF.dp 3 30 (by kernel_rfl)
              exact s_is rfl (wants0 rfl) _ rfl (run_load1 Tryd.underlying72 e30 (Gr.cell ((Gr.drew wr).trans hG) c2))
            · intro a1 w1 hG hF
              obtain ⟨_, e31, rfl⟩ := hF.dp 4 31 (by kernel_rfl)
              exact s_call rfl (wants0 rfl) _ rfl _ _ (by simp only [execOp, resolve, invoke, List.map_toArray, List.map_cons, List.map_nil, e31]; go_simp) ((moved_any x2 17 19 10 (by omega) (by omega) (by omega) w1).mono fun e w2 ⟨he, hb⟩ => ⟨_, he, rfl, hb⟩)
            · intro a1 w1 hG hF
              exact s_old rfl (wants0 rfl) (.tmp 5) (.inr rfl) (.int .i64 ((t : Nat) : Int)) (hF.ol 5 (by kernel_rfl)) rfl
            · intro a1 w1 hG hF
              obtain ⟨_, e33, rfl⟩ := hF.dp 6 33 (by kernel_rfl)
              exact s_is rfl (wants0 rfl) _ rfl (run_subN (a := t) (b := 7) e33 rfl (by omega) (by omega))
            · intro a1 w1 hG hF
              have e3 : a1.eval (.tmp 3) = .pointer (some ⟨g3, 0, none⟩) := hF.ol 3 (by kernel_rfl)
              obtain ⟨_, e34, rfl⟩ := hF.dp 7 34 (by kernel_rfl)
              exact s_is rfl (wants0 rfl) _ rfl (run_idx (i := t - 7) Tryd.underlying86 (by kernel_rfl) e3 e34 (by omega))
            · intro a1 w1 hG hF
              obtain ⟨_, e35, rfl⟩ := hF.dp 8 35 (by kernel_rfl)
              exact s_is rfl (wants0 rfl) _ rfl (run_load1 Tryd.underlying72 e35 (Gr.cell ((Gr.drew wr).trans hG) c7))
            · intro a1 w1 hG hF
              obtain ⟨_, e32, rfl⟩ := hF.dp 5 32 (by kernel_rfl)
              obtain ⟨_, e36, rfl⟩ := hF.dp 9 36 (by kernel_rfl)
              exact s_is rfl (wants0 rfl) _ rfl (run_add32 (a := mvd x2 17 19 10) (b := x7) e32 e36)
            · intro a1 w1 hG hF
              exact s_old rfl (wants0 rfl) (.tmp 5) (.inr rfl) (.int .i64 ((t : Nat) : Int)) (hF.ol 5 (by kernel_rfl)) rfl
            · intro a1 w1 hG hF
              obtain ⟨_, e38, rfl⟩ := hF.dp 11 38 (by kernel_rfl)
              exact s_is rfl (wants0 rfl) _ rfl (run_subN (a := t) (b := 15) e38 rfl (by omega) (by omega))
            · intro a1 w1 hG hF
              have e3 : a1.eval (.tmp 3) = .pointer (some ⟨g3, 0, none⟩) := hF.ol 3 (by kernel_rfl)
              obtain ⟨_, e39, rfl⟩ := hF.dp 12 39 (by kernel_rfl)
              exact s_is rfl (wants0 rfl) _ rfl (run_idx (i := t - 15) Tryd.underlying86 (by kernel_rfl) e3 e39 (by omega))
            · intro a1 w1 hG hF
              obtain ⟨_, e40, rfl⟩ := hF.dp 13 40 (by kernel_rfl)
              exact s_is rfl (wants0 rfl) _ rfl (run_load1 Tryd.underlying72 e40 (Gr.cell ((Gr.drew wr).trans hG) c15))
            · intro a1 w1 hG hF
              obtain ⟨_, e41, rfl⟩ := hF.dp 14 41 (by kernel_rfl)
              exact s_call rfl (wants0 rfl) _ rfl _ _ (by simp only [execOp, resolve, invoke, List.map_toArray, List.map_cons, List.map_nil, e41]; go_simp) ((moved_any x15 7 18 3 (by omega) (by omega) (by omega) w1).mono fun e w2 ⟨he, hb⟩ => ⟨_, he, rfl, hb⟩)
            · intro a1 w1 hG hF
              obtain ⟨_, e37, rfl⟩ := hF.dp 10 37 (by kernel_rfl)
              obtain ⟨_, e42, rfl⟩ := hF.dp 15 42 (by kernel_rfl)
              exact s_is rfl (wants0 rfl) _ rfl (run_add32 (a := (mvd x2 17 19 10) + x7) (b := mvd x15 7 18 3) e37 e42)
            · intro a1 w1 hG hF
              exact s_old rfl (wants0 rfl) (.tmp 5) (.inr rfl) (.int .i64 ((t : Nat) : Int)) (hF.ol 5 (by kernel_rfl)) rfl
            · intro a1 w1 hG hF
              obtain ⟨_, e44, rfl⟩ := hF.dp 17 44 (by kernel_rfl)
              exact s_is rfl (wants0 rfl) _ rfl (run_subN (a := t) (b := 16) e44 rfl (by omega) (by omega))
            · intro a1 w1 hG hF
              have e3 : a1.eval (.tmp 3) = .pointer (some ⟨g3, 0, none⟩) := hF.ol 3 (by kernel_rfl)
              obtain ⟨_, e45, rfl⟩ := hF.dp 18 45 (by kernel_rfl)
              exact s_is rfl (wants0 rfl) _ rfl (run_idx (i := t - 16) Tryd.underlying86 (by kernel_rfl) e3 e45 (by omega))
            · intro a1 w1 hG hF
              obtain ⟨_, e46, rfl⟩ := hF.dp 19 46 (by kernel_rfl)
              exact s_is rfl (wants0 rfl) _ rfl (run_load1 Tryd.underlying72 e46 (Gr.cell ((Gr.drew wr).trans hG) c16))
            · intro a1 w1 hG hF
              obtain ⟨_, e43, rfl⟩ := hF.dp 16 43 (by kernel_rfl)
              obtain ⟨_, e47, rfl⟩ := hF.dp 20 47 (by kernel_rfl)
              exact s_is rfl (wants0 rfl) _ rfl (run_add32 (a := ((mvd x2 17 19 10) + x7) + (mvd x15 7 18 3)) (b := x16) e43 e47)
            · intro a1 w1 hG hF
              have e3 : a1.eval (.tmp 3) = .pointer (some ⟨g3, 0, none⟩) := hF.ol 3 (by kernel_rfl)
              obtain ⟨_, e27, rfl⟩ := hF.dp 0 27 (by kernel_rfl)
              exact s_is rfl (wants0 rfl) _ rfl (run_idx (i := t) Tryd.underlying86 (by kernel_rfl) e3 e27 (by omega))
          · intro vs w1 hG hf
            have z48 : vs 21 = .int .u32 (((((mvd x2 17 19 10) + x7) + (mvd x15 7 18 3)) + x16).toNat : Int) := hf.2.2.2.2.2.2.2.2.2.2.2.2.2.2.2.2.2.2.2.2.2.1
            have z49 : vs 22 = .pointer (some ⟨g3, t, none⟩) := hf.2.2.2.2.2.2.2.2.2.2.2.2.2.2.2.2.2.2.2.2.2.2.1
            clear hf
            rw [← HX.out] at z48
            simp only [List.take_succ_cons, List.take_zero, List.drop_succ_cons, List.drop_zero, putAll, Nat.zero_add, Nat.reduceAdd, z48, z49]
            have hM1 := hM.gr hB0 ((Gr.drew wr).trans hG)
            refine wpList_setM hM1 0 rfl rfl 72 (.tmp 49) (.tmp 48) rfl (by kernel_rfl) t .u32 (x.toNat : Int) (by kernel_rfl) (by kernel_rfl) (by rw [u32s_length, HGL.out]; omega) ?_
            intro w2 hM2 _
            rw [u32s_set, HXS.out] at hM2
            simp only [List.set] at hM2
            clear hM hM1 hG c2 c7 c15 c16
            unfold wpList
            go_simp
            go_wp2_with fail
            have HT2 := HT.out
            exact ⟨⟨r + 1, by omega, by congr 1; omega, hM2⟩, by simp [intOf]; omega⟩
        · obtain rfl : r = 48 := by omega
          obtain rfl : t = 64 := by omega
          have hGe := HGE.out 48 rfl
          obtain ⟨q, hq⟩ : ∃ q, q = G 48 := ⟨_, rfl⟩
          have hql : q.length = 64 := by rw [hq]; exact HGL.out 48
          rw [← hq] at hM hGe
          have HGE2 := Lib.hid hGe
          clear hq hGe HGE HGS HGL ht hlt hr
          simp only [show ((64 : Nat) : Int) = 64 from rfl]
          go_wp2_with first
            | (refine wpList_load_mid rfl 86 (.tmp 3) rfl g3 0 rfl (u32s q) _ (hM.at_ 0 rfl).range Tryd.underlying86 rfl (info64 _ hql) ?_)
            | (refine wpList_putM hM 1 rfl rfl 86 (.tmp 2) (.tmp 50) rfl (u32s q) rfl rfl (by simp [hql]) (info64 _ hql) (u32s_oneCell _) ?_; intro w7 hM7 _)
          simp only [List.set] at hM7
          refine bodyPost_ret (results_cell_row rfl _ _ g2 _ _ _ _ rfl (hM7.at_ 1 rfl) Tryd.underlying86 rfl (by have := info64 _ hql; simpa using this)) rfl ?_
          rw [HGE2.out]
          exact ⟨rfl, by have := hM7.below; rw [HG.out] at this; exact this⟩
end Go.Proofs.YtmcnnjcbgbdeeaaDoor

