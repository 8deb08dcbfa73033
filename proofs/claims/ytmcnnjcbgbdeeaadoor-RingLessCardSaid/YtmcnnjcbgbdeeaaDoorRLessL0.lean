/- The walk of the law RingLess. No condition. -/
import Derived.Test.YtmcnnjcbgbdeeaaDoorRLaw0
namespace Go.Proofs.YtmcnnjcbgbdeeaaDoor
open Go.RowKit
/-- Where the law stands: the order without the last one. -/
def LessR (W : List Nat) (n m : Nat) (w : World) (ov i : Value) (wr : World) : Prop := ∃ (k N : Nat) (A : Option Addr) (c : Nat) (L : List Nat), k ≤ n ∧ N ≤ k ∧ i = .int .i64 (k : Int) ∧ L = (W.take k).filter (fun x => decide (x ≠ m)) ∧ L.length = N ∧ ov = .slice A N c ∧ wr.ownsRow w.heap.size 3 1 (.slice A N c) N (numV L) ∧ Gr w wr
set_option maxRecDepth 100000 in
set_option maxHeartbeats 16000000 in
theorem law_less (z1 z2 : Int) (K : List UInt8) (hK : K.length = 32) (w : World) (gw : Glob w) :
    Calls Tryd.prog 3 #[.int .i64 z1, .int .i64 z2, .agg (u8s K).toArray] w fun e w' => e = .returned (.bool true) ∧ Gr w w' := by
  obtain ⟨i0, hi0, hz0, hz1, hz2⟩ := info_parts (P := Tryd.prog) (e := 3) (z := .int .i64 0) (size := 1) (bytes := 8) (by kernel_rfl)
  obtain ⟨a, ha, hae⟩ := wrap_remN z1 7 (by omega) (by omega)
  obtain ⟨b, hb, hbe⟩ := wrap_remN z2 64 (by omega) (by omega)
  have HAE : Hid (wrap64 ((IntKind.u64.wrap z1).tmod 7) = (a : Int)) := hae
  have HBE : Hid (wrap64 ((IntKind.u64.wrap z2).tmod 64) = (b : Int)) := hbe
  obtain ⟨m, hm⟩ : ∃ m : Nat, m = 1 + a := ⟨_, rfl⟩
  obtain ⟨n, hn⟩ : ∃ n : Nat, n = m + 1 := ⟨_, rfl⟩
  obtain ⟨q, hq⟩ : ∃ q : Nat, q = 1 + b := ⟨_, rfl⟩
  have HN1 : Hid ((2 : Int) + (a : Int) = (n : Int)) := by show _ = _; omega
  have HN2 : Hid ((1 : Int) + (b : Int) = (q : Int)) := by show _ = _; omega
  have HN3 : Hid ((n : Int) - 1 = (m : Int)) := by show _ = _; omega
  have HW1 : Hid (wrap64 (n : Int) = (n : Int)) := IntWalk.wrap64_in _ (by omega)
  have HW2 : Hid (wrap64 (q : Int) = (q : Int)) := IntWalk.wrap64_in _ (by omega)
  have hn1 : 1 ≤ n := by omega
  have hn8 : n ≤ 8 := by omega
  have hm1 : 1 ≤ m := by omega
  have hm8 : m ≤ 8 := by omega
  have hq1 : 1 ≤ q := by omega
  have hq2 : q ≤ 64 := by omega
  have h5 : Arr (w.alloc (.cells (u8s K).toArray 23)) w.heap.size 23 (u8s K) := Arr.newAt rfl rfl
  have G0 : Gr w (w.alloc (.cells (u8s K).toArray 23)) := Gr.alloc _ _
  have HNM := Lib.hid hn
  clear hae hbe hn hq hm
  go_enter Tryd.func3, Tryd.ntmps3
  go_upto_region 1 with fail
  change Code.wp _ _ _ _ (w.alloc (.cells (u8s K).toArray 23))
  generalize w.alloc (.cells (u8s K).toArray 23) = w0 at h5 G0 ⊢
  obtain ⟨g5, hg⟩ : ∃ g, g = w.heap.size := ⟨_, rfl⟩
  rw [← hg] at h5
  simp only [← hg]
  clear hg
  have HNew : Hid (∀ (w : World) (n : Nat), 1 ≤ n → n ≤ 8 → Glob w → Calls Tryd.prog 7 #[.int .i64 (n : Int), .int .i64 (q : Int)] w fun e w' => ∃ gR, e = .returned (.tuple #[.pointer (some ⟨gR, 0, none⟩), .int .i64 0]) ∧ RingAt w' gR n q ∧ Gr w w') := fun w n h1 h2 gw => new_any n q h1 h2 hq1 hq2 w gw
  have gw0 := gw.gr G0
  have HRs := Lib.hid rings_any
  clear gw
  go_upto_region 2 with fail
  simp only [HAE.out, HN1.out, HW1.out]
  go_upto_region 3 with fail
  simp only [HBE.out, HN2.out, HW2.out]
  go_wp2_with fail
  refine (HNew.out w0 n hn1 hn8 gw0).mono ?_
  rintro e w1 ⟨gA, rfl, hA, hG1⟩
  have gw1 := gw0.gr hG1
  have h51 := h5.gr hG1
  have G1 := Gr.trans G0 hG1
  clear gw0 h5 G0 hG1 HAE HBE HN1 HN2 HW1 HW2
  go_wp2_with fail
  simp only [HN3.out]
  refine (HNew.out w1 m hm1 hm8 gw1).mono ?_
  rintro e w2 ⟨gB, rfl, hB, hG2⟩
  have gw2 := gw1.gr hG2
  have h52 := h51.gr hG2
  have hA2 := hA.gr hG2
  have G2 := Gr.trans G1 hG2
  clear HNew gw1 h51 G1 hG2 hA
  go_wp2_with fail
  refine (HRs.out w2 gw2).mono ?_
  rintro e w3 ⟨rfl, hG3⟩
  have h53 := h52.gr hG3
  have hA3 := hA2.gr hG3
  have hB3 := hB.gr hG3
  have G3 := Gr.trans G2 hG3
  obtain ⟨near, hnear⟩ : ∃ near, near = nearOf atP (beNat (K.take 8)) q := ⟨_, rfl⟩
  obtain ⟨W, hW⟩ : ∃ W, W = nearL near n := ⟨_, rfl⟩
  obtain ⟨V, hV⟩ : ∃ V, V = nearL near m := ⟨_, rfl⟩
  have hWm : ∀ x ∈ W, x < n := fun x hx => by rw [hW] at hx; exact (mem_nearL _ _ _).1 hx
  have hWl : W.length = n := by rw [hW, nearL_length]
  have hVW : W.filter (fun x => decide (x ≠ m)) = V := by rw [hW, hV, HNM.out]; exact nearL_less near m
  have HWA : Hid (∀ w, RingAt w gA n q → Calls Tryd.prog 9 #[.pointer (some ⟨gA, 0, none⟩), .agg (u8s K).toArray] w fun e w' => ∃ u, e = .returned u ∧ w'.ownsRow w.heap.size 3 1 u n (numV W) ∧ Gr w w') := fun w h => by
    rw [hW, hnear]
    exact walkAt_any h hn1 hn8 hq1 hq2 K hK
  have HWB : Hid (∀ w, RingAt w gB m q → Calls Tryd.prog 9 #[.pointer (some ⟨gB, 0, none⟩), .agg (u8s K).toArray] w fun e w' => ∃ u, e = .returned u ∧ w'.ownsRow w.heap.size 3 1 u m (numV V) ∧ Gr w w') := fun w h => by
    rw [hV, hnear]
    exact walkAt_any h hm1 hm8 hq1 hq2 K hK
  have HVW := Lib.hid hVW
  clear hW hV hnear hVW h52 hA2 hB G2 hG3 gw2 HRs
  go_wp2_with first
    | (refine wpList_load_mid rfl 23 (.tmp 5) rfl g5 0 rfl (u8s K) _ h53.range Tryd.underlying23 rfl (infoK K hK) ?_)
  refine (HWA.out w3 hA3).mono ?_
  rintro e w4 ⟨u, rfl, ho, hG4⟩
  obtain ⟨A, c, rfl, hnc, hAn, hr4⟩ := own_form3 ho
  have h54 := h53.gr hG4
  have hB4 := hB3.gr hG4
  have G4 := Gr.trans G3 hG4
  clear ho h53 hA3 hB3 G3 hG4 HWA hAn
  go_upto_region 10 with fail
  go_simp
  go_loopw [13, 14] (fun ov i wr => LessR W n m w4 ov i wr) (fun _ i _ => n - (intOf i).toNat)
  case atStart => exact ⟨0, 0, none, 0, [], Nat.zero_le _, Nat.le_refl _, rfl, by simp, rfl, rfl, ⟨rfl, .inl ⟨rfl, rfl⟩⟩, Gr.refl _⟩
  case round =>
    obtain ⟨k, N, A2, c2, L, hk, hNk, rfl, hL, hN, rfl, ho2, hG⟩ := hrel
    have HL := Lib.hid hL
    have HN := Lib.hid hN
    clear hL hN
    by_cases hlt : k < n
    · have hki : (k : Int) < (n : Int) := by omega
      obtain ⟨ad, x, rfl, hxk, hcx⟩ := (hG.rd hr4).num hlt
      have hxn : x < n := hWm x (List.mem_of_getElem? hxk)
      have hs4 : w4.heap.size ≤ wr.heap.size := hG.size
      have hnm1 : ((n : Int) - 1) = (m : Int) := HN3.out
      have hLs : (W.take (k + 1)).filter (fun y => decide (y ≠ m)) = L ++ if x = m then [] else [x] := by
        rw [List.take_add_one, hxk, List.filter_append, ← HL.out]
        by_cases e : x = m <;> simp [e]
      have HLS := Lib.hid hLs
      clear hLs hxk
      by_cases hxm : x = m
      · have hxe : (x : Int) = (n : Int) - 1 := by omega
        clear hnm1
        go_wp2_with fail
        --@1
        exact ⟨⟨k + 1, N, A2, c2, L, hlt, by omega, by go_num, by rw [HLS.out, if_pos hxm, List.append_nil], HN.out, rfl, ho2, hG⟩, by simp [intOf]; omega⟩
      · have hxe : ¬ (x : Int) = (n : Int) - 1 := by omega
        clear hnm1
        go_upto_region 13 with fail
        go_wp2_with (at_builtin; go_must (refine wpList_appT rfl (.tmp 64) (.tmp 69) 30 rfl w4.heap.size 3 i0 (.int .i64 0) 1 8 Tryd.underlying30 hi0 hz0 hz1 hz2 rfl (by omega) rfl (Gr.own (Gr.alloc _ _) ho2) ⟨wr.heap.size, 0, none⟩ 1 1 [.int .i64 (x : Int)] rfl rfl (fun j u h => by rw [add_row, Nat.zero_add]; exact (Arr.newAt rfl rfl).cell h) (by simp [Value.oneCell']) (by unfold maxLen; omega) (by omega) (by simp only [asz]; omega) ?_))
        intro A9 c9 w9 ho9 _ hT9
        have hTB := hT9 intT (fun _ _ _ => by simp [intT])
        have hG9 : Gr w4 w9 := Below.trans hG (Below.trans ((Gr.alloc wr _).mono hs4) (hTB.below (by simp only [asz]; omega)))
        have hfl : numV L ++ [.int .i64 (x : Int)] = numV (L ++ [x]) := by simp [numV]
        rw [hfl] at ho9
        have hl9 : Hid ((L ++ [x]).length = N + 1) := by show _ = _; rw [List.length_append, HN.out]; rfl
        clear hT9 hTB hfl ho2 hcx
        go_simp
        go_wp2_with fail
        --@2
        exact ⟨⟨k + 1, N + 1, A9, c9, L ++ [x], hlt, by omega, by go_num, by rw [HLS.out, if_neg hxm], hl9.out, rfl, ho9, hG9⟩, by simp [intOf]; omega⟩
    · have hki : ¬ (k : Int) < (n : Int) := by omega
      have hLV : L = V := by rw [HL.out, List.take_of_length_le (by omega), HVW.out]
      have hr2 := Rd.of_own ho2
      rw [hLV] at hr2
      have h5r := h54.gr hG
      have hBr := hB4.gr hG
      have G5 := Gr.trans G4 hG
      clear HL hLV ho2 hG hB4 h54 G4
      have hNb : N ≤ 8 := by omega
      go_wp2_with first
        | (refine wpList_loadW rfl 23 (.tmp 5) rfl rfl h5r ⟨_, _, Tryd.underlying23⟩ (infoK K hK) ?_)
      --@3
      refine (HWB.out wr hBr).mono ?_
      rintro e w6 ⟨u6, rfl, ho6, hG6⟩
      obtain ⟨A6, c6, rfl, _, _, hr6⟩ := own_form3 ho6
      have HS := Lib.hid (same_any A2 A6 N c2 m c6 V V w6 (hG6.rd hr2) hr6 (by omega))
      rw [decide_eq_true rfl] at HS
      have G6 := Gr.trans G5 hG6
      clear hr2 ho6 hr6 G5 hG6 HWB hBr h5r
      go_wp2_with fail
      refine HS.out.mono ?_
      rintro e w7 ⟨rfl, hG7⟩
      have G7 := Gr.trans G6 hG7
      clear HS G6 hG7
      go_wp2_with fail
      go_ret
      exact ⟨rfl, G7⟩
end Go.Proofs.YtmcnnjcbgbdeeaaDoor
