/- The walk of the law RingAll. No condition. -/
import Derived.Test.YtmcnnjcbgbdeeaaDoorRLaw0
namespace Go.Proofs.YtmcnnjcbgbdeeaaDoor
open Go.RowKit
/-- Where the law stands: who was seen. -/
def AllR (W : List Nat) (n g11 : Nat) (w : World) (i : Value) (wr : World) : Prop := ∃ (k : Nat) (bs : List Bool), k ≤ n ∧ i = .int .i64 (k : Int) ∧ bs.length = 8 ∧ (∀ x, x < 8 → bs[x]? = some (decide (x ∈ W.take k))) ∧ Arr wr g11 34 (bs.map Value.bool) ∧ Gr w wr
set_option maxRecDepth 100000 in
set_option maxHeartbeats 16000000 in
theorem law_all (z1 z2 : Int) (K : List UInt8) (hK : K.length = 32) (w : World) (gw : Glob w) :
    Calls Tryd.prog 4 #[.int .i64 z1, .int .i64 z2, .agg (u8s K).toArray] w fun e w' => e = .returned (.bool true) ∧ Gr w w' := by
  obtain ⟨a, ha, hae⟩ := wrap_remN z1 8 (by omega) (by omega)
  obtain ⟨b, hb, hbe⟩ := wrap_remN z2 64 (by omega) (by omega)
  have HAE : Hid (wrap64 ((IntKind.u64.wrap z1).tmod 8) = (a : Int)) := hae
  have HBE : Hid (wrap64 ((IntKind.u64.wrap z2).tmod 64) = (b : Int)) := hbe
  obtain ⟨n, hn⟩ : ∃ n : Nat, n = 1 + a := ⟨_, rfl⟩
  obtain ⟨q, hq⟩ : ∃ q : Nat, q = 1 + b := ⟨_, rfl⟩
  have HN1 : Hid ((1 : Int) + (a : Int) = (n : Int)) := by show _ = _; omega
  have HN2 : Hid ((1 : Int) + (b : Int) = (q : Int)) := by show _ = _; omega
  have HW1 : Hid (wrap64 (n : Int) = (n : Int)) := IntWalk.wrap64_in _ (by omega)
  have HW2 : Hid (wrap64 (q : Int) = (q : Int)) := IntWalk.wrap64_in _ (by omega)
  have hn1 : 1 ≤ n := by omega
  have hn8 : n ≤ 8 := by omega
  have hq1 : 1 ≤ q := by omega
  have hq2 : q ≤ 64 := by omega
  have h5 : Arr (w.alloc (.cells (u8s K).toArray 23)) w.heap.size 23 (u8s K) := Arr.newAt rfl rfl
  have G0 : Gr w (w.alloc (.cells (u8s K).toArray 23)) := Gr.alloc _ _
  clear hae hbe hn hq
  go_enter Tryd.func4, Tryd.ntmps4
  go_upto_region 1 with fail
  change Code.wp _ _ _ _ (w.alloc (.cells (u8s K).toArray 23))
  generalize w.alloc (.cells (u8s K).toArray 23) = w0 at h5 G0 ⊢
  obtain ⟨g5, hg⟩ : ∃ g, g = w.heap.size := ⟨_, rfl⟩
  rw [← hg] at h5
  simp only [← hg]
  clear hg
  go_upto_region 2 with fail
  simp only [HAE.out, HN1.out, HW1.out]
  have HNew : Hid (∀ w, Glob w → Calls Tryd.prog 7 #[.int .i64 (n : Int), .int .i64 (q : Int)] w fun e w' => ∃ gR, e = .returned (.tuple #[.pointer (some ⟨gR, 0, none⟩), .int .i64 0]) ∧ RingAt w' gR n q ∧ Gr w w') := fun w gw => new_any n q hn1 hn8 hq1 hq2 w gw
  have gw0 := gw.gr G0
  have HRs := Lib.hid rings_any
  clear gw
  go_wp2_with fail
  simp only [HBE.out, HN2.out, HW2.out]
  refine (HNew.out w0 gw0).mono ?_
  rintro e w1 ⟨gR, rfl, hR, hG1⟩
  have gw1 := gw0.gr hG1
  have h51 := h5.gr hG1
  have G1 := Gr.trans G0 hG1
  clear HNew gw0 h5 G0 hG1 HAE HBE HN1 HN2 HW1 HW2
  go_wp2_with fail
  refine (HRs.out w1 gw1).mono ?_
  rintro e w2 ⟨rfl, hG2⟩
  have h52 := h51.gr hG2
  have G2 := Gr.trans G1 hG2
  have hR2 := hR.gr hG2
  obtain ⟨W, hW⟩ : ∃ W, W = nearL (nearOf atP (beNat (K.take 8)) q) n := ⟨_, rfl⟩
  have hWm : ∀ x ∈ W, x < n := fun x hx => by rw [hW] at hx; exact (mem_nearL _ _ _).1 hx
  have hWl : W.length = n := by rw [hW, nearL_length]
  have hWn : W.Nodup := by rw [hW]; exact nearL_nodup _ _
  have HWk : Hid (∀ w, RingAt w gR n q → Calls Tryd.prog 9 #[.pointer (some ⟨gR, 0, none⟩), .agg (u8s K).toArray] w fun e w' => ∃ u, e = .returned u ∧ w'.ownsRow w.heap.size 3 1 u n (numV W) ∧ Gr w w') := fun w h => by
    rw [hW]
    exact walkAt_any h hn1 hn8 hq1 hq2 K hK
  have HPf : Hid (∀ w, RingAt w gR n q → ∀ k : Nat, 1 ≤ k → k ≤ n → Calls Tryd.prog 11 #[.pointer (some ⟨gR, 0, none⟩), .agg (u8s K).toArray, .int .i64 (k : Int)] w fun e w' => PrefAt W k w e w') := fun w h k hk1 hk2 => by
    rw [hW]
    exact prefer_any h hn1 hn8 hq1 hq2 K hK k hk1 hk2
  clear hW h51 G1 hR hG2 gw1 HRs
  go_wp2_with first
    | (refine wpList_load_mid rfl 23 (.tmp 5) rfl g5 0 rfl (u8s K) _ h52.range Tryd.underlying23 rfl (infoK K hK) ?_)
  refine (HWk.out w2 hR2).mono ?_
  rintro e w3 ⟨u, rfl, ho, hG3⟩
  obtain ⟨A, c, rfl, hnc, hAn, hr3⟩ := own_form3 ho
  have h53 := h52.gr hG3
  have hR3 := hR2.gr hG3
  have G3 := Gr.trans G2 hG3
  clear ho h52 hR2 G2 hG3 HWk hAn
  have h11 : Arr (w3.alloc (.cells #[.bool false, .bool false, .bool false, .bool false, .bool false, .bool false, .bool false, .bool false] 34)) w3.heap.size 34 ((List.replicate 8 false).map Value.bool) := Arr.newAt rfl rfl
  have G34 : Gr w3 (w3.alloc (.cells #[.bool false, .bool false, .bool false, .bool false, .bool false, .bool false, .bool false, .bool false] 34)) := Gr.alloc _ _
  go_upto_region 7 with fail
  change Code.wp _ _ _ _ (w3.alloc (.cells #[.bool false, .bool false, .bool false, .bool false, .bool false, .bool false, .bool false, .bool false] 34))
  generalize w3.alloc (.cells #[.bool false, .bool false, .bool false, .bool false, .bool false, .bool false, .bool false, .bool false] 34) = w4 at h11 G34 ⊢
  have hg11 : w3.heap.size ≤ w3.heap.size := Nat.le_refl _
  obtain ⟨g11, hg⟩ : ∃ g, g = w3.heap.size := ⟨_, rfl⟩
  have Hg11 : Hid (w3.heap.size ≤ g11) := by show _ ≤ _; omega
  rw [← hg] at h11
  simp only [← hg]
  clear hg hg11
  go_upto_region 8 with fail
  go_simp
  go_loopw [12] (fun i wr => AllR W n g11 w3 i wr) (fun i _ => n - (intOf i).toNat)
  case atStart => exact ⟨0, List.replicate 8 false, Nat.zero_le _, rfl, rfl, fun x hx => by rw [List.getElem?_replicate, if_pos hx]; simp, h11, G34⟩
  case round =>
    obtain ⟨k, bs, hk, rfl, hbl, hbs, hAr, hG⟩ := hrel
    by_cases hlt : k < n
    · have hki : (k : Int) < (n : Int) := by omega
      obtain ⟨ad, x, rfl, hxk, hcx⟩ := (hG.rd hr3).num hlt
      have hxn : x < n := hWm x (List.mem_of_getElem? hxk)
      have hx0 : ¬ (x : Int) < 0 := by omega
      have hxi : ¬ (n : Int) ≤ (x : Int) := by omega
      have hx8 : (x : Int) < 8 := by omega
      have hnot : x ∉ W.take k := fun h => by
        obtain ⟨j, hj, he⟩ := List.getElem_of_mem h
        rw [List.length_take] at hj
        rw [List.getElem_take] at he
        obtain ⟨hl, hxe⟩ := List.getElem?_eq_some_iff.1 hxk
        have := (List.nodup_iff_pairwise_ne.1 hWn |> List.pairwise_iff_getElem.1) j k (by omega) hl (by omega)
        exact this (he.trans hxe.symm)
      have hcb : wr.cell? ⟨g11, x, none⟩ = some (.bool false) := hAr.cell (by rw [List.getElem?_map, hbs x (by omega), decide_eq_false hnot]; rfl)
      have hfb : wr.frozen? ⟨g11, x, none⟩ = false := hAr.frozen x
      have hA2 := hAr.set x (.bool true)
      have hG2 : Gr w3 (wr.setCell ⟨g11, x, none⟩ (.bool true)) := Below.trans hG (below_setCell (w := wr) (a := ⟨g11, x, none⟩) (v := .bool true) Hg11.out)
      have hb2 : Hid (∀ y, y < 8 → (bs.set x true)[y]? = some (decide (y ∈ W.take (k + 1)))) := fun y hy => by
        rw [List.take_add_one, hxk]
        by_cases e : y = x
        · subst e
          rw [List.getElem?_set_self (by omega)]
          simp
        · rw [List.getElem?_set_ne (fun h => e h.symm), hbs y hy]
          simp [e]
      have hm2 : (bs.map Value.bool).set x (.bool true) = (bs.set x true).map Value.bool := by rw [List.map_set]
      rw [hm2] at hA2
      have hb2l : (bs.set x true).length = 8 := by rw [List.length_set]; exact hbl
      have HX := Lib.hid hxk
      have hk1i : Hid ((k : Int) + 1 = ((k + 1 : Nat) : Int)) := by show _ = _; omega
      clear hbs hnot hm2 hxk hAr
      go_upto_region 13 with fail
      change Code.wp _ _ _ _ (wr.setCell ⟨g11, x, none⟩ (.bool true))
      generalize wr.setCell ⟨g11, x, none⟩ (.bool true) = w5 at hA2 hG2 ⊢
      have h55 := h53.gr hG2
      have hR5 := hR3.gr hG2
      have hr5 := hG2.rd hr3
      clear hcb hfb hG hcx
      go_wp2_with first
        | (refine wpList_load_mid rfl 23 (.tmp 5) rfl g5 0 rfl (u8s K) _ h55.range Tryd.underlying23 rfl (infoK K hK) ?_)
      simp only [hk1i.out]
      refine (HPf.out w5 hR5 (k + 1) (by omega) (by omega)).mono ?_
      rintro e w6 ⟨Al, rfl, hl, hG6⟩
      have hr6 := (hG6.rd hr5).take (show k + 1 ≤ n by omega)
      rw [numV_take] at hr6
      have HS := Lib.hid (same_any Al (some ad) (k + 1) (k + 1) (k + 1) c (W.take (k + 1)) (W.take (k + 1)) w6 hl hr6 (by omega))
      rw [decide_eq_true rfl] at HS
      have hcut := fun w => run_cut_h (P := Tryd.prog) (A := some ad) (n := n) (c := c) (hi := k + 1) (h := ((k + 1 : Nat) : Int)) Tryd.underlying30 (by kernel_rfl) rfl (by omega) w
      have hA6 := hA2.gr hG6
      have hG36 := Gr.trans hG2 hG6
      clear hl hr5 hR5 h55 hA2 hG2 hG6
      simp only [← hk1i.out] at hcut
      go_wp2_with fail
      refine HS.out.mono ?_
      rintro e w7 ⟨rfl, hG7⟩
      have hA7 := hA6.gr hG7
      have hG37 := Gr.trans hG36 hG7
      clear HS hA6 hG36 hG7 hcut hr6
      go_wp2_with fail
      exact ⟨⟨k + 1, bs.set x true, hlt, by go_num, hb2l, hb2.out, hA7, hG37⟩, by simp [intOf]; omega⟩
    · have hki : ¬ (k : Int) < (n : Int) := by omega
      go_wp2_with fail
      go_ret
      exact ⟨rfl, Gr.trans G3 hG⟩
end Go.Proofs.YtmcnnjcbgbdeeaaDoor
