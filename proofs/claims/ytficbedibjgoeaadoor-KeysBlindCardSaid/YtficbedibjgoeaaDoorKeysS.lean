/- The walk of keys.Seal. No condition. -/
import Derived.Test.YtficbedibjgoeaaDoorKeysN
import Derived.Test.YtficbedibjgoeaaDoorKeysRef
import Derived.Test.YtficbedibjgoeaaDoorOwnG
import Derived.Lib.SlBytesConst
namespace Go.Proofs.YtficbedibjgoeaaDoor
open Go.RowKit
set_option maxRecDepth 100000 in
set_option maxHeartbeats 4000000 in
theorem sealK_no (M : List UInt8) (e : Int) (h : e < 1 ∨ 1048576 < e) (w : World) :
    Calls Tryd.prog 15 #[.agg (u8s M).toArray, .int .i64 e] w fun r w' => r = .returned (.tuple #[.agg (u8s (List.replicate 32 0)).toArray, .int .i64 1]) ∧ Below w.heap.size w w' := by
  have h4 : Arr ((w.alloc (.cells (u8s M).toArray 22)).alloc (.cells (u8s (List.replicate 32 0)).toArray 22)) (w.heap.size + 1) 22 (u8s (List.replicate 32 0)) := Arr.newAt (asz _ _) rfl
  have G0 : Gr w ((w.alloc (.cells (u8s M).toArray 22)).alloc (.cells (u8s (List.replicate 32 0)).toArray 22)) := (Gr.alloc _ _).trans (Gr.alloc _ _)
  by_cases h1 : e < 1
  · go_enter Tryd.func15, Tryd.ntmps15
    go_wp2_with (refine wpList_put h4 rfl 22 (.tmp 4) (.tmp 15) rfl (u8s (List.replicate 32 0)) rfl rfl rfl (infoU8_32 _ rfl) (u8s_oneCell _) ?_; intro w4 h44 hB4 _)
    refine bodyPost_ret (results_cell_tmp rfl _ _ (w.heap.size + 1) _ _ _ _ rfl h44 Tryd.underlying22 rfl (by kernel_rfl)) rfl ?_
    exact ⟨rfl, Below.trans G0 (hB4.mono (by omega))⟩
  · have g2 : 1048576 < e := by omega
    go_enter Tryd.func15, Tryd.ntmps15
    go_wp2_with (refine wpList_put h4 rfl 22 (.tmp 4) (.tmp 15) rfl (u8s (List.replicate 32 0)) rfl rfl rfl (infoU8_32 _ rfl) (u8s_oneCell _) ?_; intro w4 h44 hB4 _)
    refine bodyPost_ret (results_cell_tmp rfl _ _ (w.heap.size + 1) _ _ _ _ rfl h44 Tryd.underlying22 rfl (by kernel_rfl)) rfl ?_
    exact ⟨rfl, Below.trans G0 (hB4.mono (by omega))⟩
set_option maxRecDepth 100000 in
set_option maxHeartbeats 8000000 in
theorem sealK_any (M : List UInt8) (hM : M.length = 32) (e : Nat) (he1 : 1 ≤ e) (he2 : e ≤ 1048576) (w : World) (gw : Glob w) :
    Calls Tryd.prog 15 #[.agg (u8s M).toArray, .int .i64 (e : Int)] w fun r w' => r = .returned (.tuple #[.agg (u8s (sealKL M e)).toArray, .int .i64 0]) ∧ Below w.heap.size w w' := by
  obtain ⟨i0, hi0, hz0, hz1, hz2⟩ := info_parts Tryd.info5
  obtain ⟨X, hX⟩ : ∃ X, X = sealKL M e := ⟨_, rfl⟩
  have hXl : X.length = 32 := by rw [hX]; simp
  obtain ⟨us, hus⟩ : ∃ X, X = useSeal ++ beL 8 e := ⟨_, rfl⟩
  have husl : us.length = 12 := by rw [hus]; simp [useSeal]
  have HU : Hid (u8s useSeal ++ u8s (beL 8 e) = u8s us) := by
    show _ = _
    rw [hus, u8s_append]
  have HP8 : Hid (∀ w, Calls Tryd.prog 22 #[.int .u64 (e : Int), .int .i64 8] w fun r w' => ∃ v, r = .returned v ∧ w'.ownsRow w.heap.size 5 1 v 8 (u8s (beL 8 e)) ∧ Below w.heap.size w w') := fun w => putHigh_any e (by omega) 8 w
  have HE : Hid (∀ w g B d, 12 ≤ d → Rd w (some ⟨g, 0, none⟩) 32 (u8s M) → Rd w B 12 (u8s us) → Glob w → Calls Tryd.prog 18 #[.slice (some ⟨g, 0, none⟩) 32 32, .slice B 12 d, .int .i64 32] w fun r w' => ∃ g', r = .returned (.tuple #[.slice (some ⟨g', 0, none⟩) 32 32, .int .i64 0]) ∧ Rd w' (some ⟨g', 0, none⟩) 32 (u8s X) ∧ Below w.heap.size w w') := by
    intro w g B d hd h1 h2 h3
    rw [hX, sealKL, ← hus]
    refine (expand_row (some ⟨g, 0, none⟩) 32 32 M B 12 d us 32 (by omega) (by omega) (by omega) hd (by omega) w h1 (by simp) h2 h3).mono ?_
    rintro r w' ⟨A', he, hr, hb, hg⟩
    obtain ⟨g', rfl⟩ := hg (by omega)
    exact ⟨g', he, hr, hb⟩
  rw [← hX]
  clear hX hus
  have g1 : ¬ (e : Int) < 1 := by omega
  have g2' : ¬ (1048576 : Int) < (e : Int) := by omega
  have e20 : (e : Int) ≤ 1048576 := by omega
  have h2 : Arr ((w.alloc (.cells (u8s M).toArray 22)).alloc (.cells (u8s (List.replicate 32 0)).toArray 22)) w.heap.size 22 (u8s M) := Arr.alloc (Arr.newAt rfl rfl) _
  have h4 : Arr ((w.alloc (.cells (u8s M).toArray 22)).alloc (.cells (u8s (List.replicate 32 0)).toArray 22)) (w.heap.size + 1) 22 (u8s (List.replicate 32 0)) := Arr.newAt (asz _ _) rfl
  have G0 : Gr w ((w.alloc (.cells (u8s M).toArray 22)).alloc (.cells (u8s (List.replicate 32 0)).toArray 22)) := (Gr.alloc _ _).trans (Gr.alloc _ _)
  go_enter Tryd.func15, Tryd.ntmps15
  go_upto_region 1 with fail
  change Code.wp _ _ _ _ ((w.alloc (.cells (u8s M).toArray 22)).alloc (.cells (u8s (List.replicate 32 0)).toArray 22))
  generalize (w.alloc (.cells (u8s M).toArray 22)).alloc (.cells (u8s (List.replicate 32 0)).toArray 22) = w0 at h2 h4 G0 ⊢
  obtain ⟨g4, hg4⟩ : ∃ g, g = w.heap.size + 1 := ⟨_, rfl⟩
  rw [← hg4] at h4
  simp only [← hg4]
  have HG4 := Lib.hid hg4
  obtain ⟨g2, hg2⟩ : ∃ g, g = w.heap.size := ⟨_, rfl⟩
  rw [← hg2] at h2
  simp only [← hg2]
  have HG2 := Lib.hid hg2
  clear hg4 hg2
  have hcv := Lib.run_convert_bytes_const (P := Tryd.prog) w0 23 5 #[.int .u8 115, .int .u8 101, .int .u8 97, .int .u8 108] 4 4 Tryd.underlying23 Tryd.underlying5
  go_wp2_with fail
  refine (HP8.out _).mono ?_
  rintro r w1 ⟨v1, rfl, ho1, hB1⟩
  obtain ⟨A1, c1, rfl, _, _⟩ := own_form ho1
  have hr1 := Rd.of_own ho1
  have G1 : Gr w0 w1 := (Gr.alloc _ _).trans hB1
  have hu1 : Rd w1 (some ⟨w0.heap.size, 0, none⟩) 4 (u8s useSeal) := Rd.below (rd_made rfl _ _ _ 4 _ rfl rfl) hB1
  have hO : OwnG w1 w0.heap.size (some ⟨w0.heap.size, 0, none⟩) 4 4 (u8s useSeal) :=
    ⟨Nat.le_refl _, (by unfold maxLen; omega), (fun h => by (cases h)), hu1, (fun ad h => by injection h with h; subst h; exact ⟨rfl, Nat.le_refl _⟩), (fun ad _ j h1 h2 => by omega)⟩
  clear hcv ho1 hB1
  go_wp2_with (at_builtin; go_must (refine wpList_appG rfl (.tmp 17) (.tmp 20) 23 23 5 rfl i0 (.int .u8 0) Tryd.underlying23 hi0 hz0 hz1 (by omega) rfl rfl hO _ rfl (Src.ofRd Tryd.underlying23 hr1 (u8s_oneCell _)) (by omega) G1.size ?_))
  intro A3 c3 w3 hA3
  have hr3 : Rd w3 A3 12 (u8s us) := by
    have := hA3.own.rd
    rwa [HU.out] at this
  have hc3 := hA3.own.le
  have G3 : Gr w0 w3 := Below.trans G1 hA3.below
  have hr2 := (h2.gr G3).rdAll hM
  have h43 := h4.gr G3
  have gw3 := (gw.gr G0).gr G3
  have hB3 := Below.trans G0 (Below.mono G3 G0.size)
  have hcut := fun w => run_cutAll (P := Tryd.prog) Tryd.underlying22 (by kernel_rfl) g2 w
  clear hA3 hO hu1 G1 G3 G0 h2 h4 hr1
  go_simp
  go_wp2_with fail
  refine (HE.out w3 g2 A3 c3 hc3 hr2 hr3 gw3).mono ?_
  rintro r w5 ⟨g7, rfl, hr7, hB5⟩
  have h45 := h43.gr hB5
  have hB6 := hB3.trans (hB5.mono hB3.size)
  have hrg : w5.rangeAt g7 0 (u8s X) := fun j v hj => by
    obtain ⟨ad, e1, hc⟩ := hr7.2 j v hj
    injection e1 with e1
    subst e1
    rw [add_row] at hc
    exact hc
  have ha := fun w => run_arrAt (P := Tryd.prog) Tryd.underlying22 (A := some ⟨g7, 0, none⟩) (c := 32) (Nat.le_refl 32) w
  clear h43 hB3 hB5 hcut hr2 hr3 gw3
  go_wp2_with first
    | (refine wpList_load_mid rfl 22 (.tmp 33) rfl g7 0 rfl (u8s X) _ hrg Tryd.underlying22 rfl (infoU8_32 X hXl) ?_)
    | (refine wpList_put h45 rfl 22 (.tmp 4) (.tmp 34) rfl (u8s X) rfl rfl (by simp [hXl]) (infoU8_32 X hXl) (u8s_oneCell _) ?_; intro w6 h46 hB7 _)
  refine bodyPost_ret (results_cell_tmp rfl _ _ g4 _ _ _ _ rfl h46 Tryd.underlying22 rfl (by have := infoU8_32 X hXl; simpa using this)) rfl ?_
  have h9 : w.heap.size ≤ g4 := by have := HG4.out; omega
  exact ⟨rfl, hB6.trans (hB7.mono h9)⟩
set_option maxRecDepth 100000 in
set_option maxHeartbeats 8000000 in
theorem blind_any (M nm : List UInt8) (hM : M.length = 32) (A : Option Addr) (n c : Nat) (hn1 : 1 ≤ n) (hn2 : n ≤ 64) (hnc : n ≤ c) (w : World) (hr : Rd w A n (u8s nm)) (gw : Glob w) :
    Calls Tryd.prog 7 #[.agg (u8s M).toArray, .slice A n c] w fun r w' => r = .returned (.tuple #[.agg (u8s (blindL M nm)).toArray, .int .i64 0]) ∧ Below w.heap.size w w' := by
  have hnl : nm.length = n := by simpa using hr.1
  obtain ⟨X, hX⟩ : ∃ X, X = blindL M nm := ⟨_, rfl⟩
  have hXl : X.length = 32 := by rw [hX]; simp
  obtain ⟨D, hD⟩ : ∃ X, X = expandL M useBlind 32 := ⟨_, rfl⟩
  have HE : Hid (∀ w g B d, 5 ≤ d → Rd w (some ⟨g, 0, none⟩) 32 (u8s M) → Rd w B 5 (u8s useBlind) → Glob w → Calls Tryd.prog 18 #[.slice (some ⟨g, 0, none⟩) 32 32, .slice B 5 d, .int .i64 32] w fun r w' => ∃ g', r = .returned (.tuple #[.slice (some ⟨g', 0, none⟩) 32 32, .int .i64 0]) ∧ Rd w' (some ⟨g', 0, none⟩) 32 (u8s D) ∧ Below w.heap.size w w') := by
    intro w g B d hd h1 h2 h3
    rw [hD]
    refine (expand_row (some ⟨g, 0, none⟩) 32 32 M B 5 d useBlind 32 (by omega) (by omega) (by omega) hd (by omega) w h1 (by simp) h2 h3).mono ?_
    rintro r w' ⟨A', he, hr, hb, hg⟩
    obtain ⟨g', rfl⟩ := hg (by omega)
    exact ⟨g', he, hr, hb⟩
  have HS : Hid (∀ w g B ps, Rd w (some ⟨g, 0, none⟩) 32 (u8s D) → Parts w B 1 ps → allP ps = nm → Glob w → Calls Tryd.prog 19 #[.slice (some ⟨g, 0, none⟩) 32 32, .slice B 1 1] w fun e w' => e = .returned (.agg (u8s X).toArray) ∧ Below w.heap.size w w') := by
    intro w g B ps h1 h2 h3 h4
    rw [hX, blindL, ← hD]
    exact hmacSum_any (some ⟨g, 0, none⟩) 32 32 D B 1 1 ps nm (by omega) (by omega) (by omega) h3 (by omega) w h1 (by simp) h2 h4
  rw [← hX]
  clear hX hD
  have g1 : ¬ (n : Int) < 1 := by omega
  have g2' : ¬ (64 : Int) < (n : Int) := by omega
  have h2 : Arr ((w.alloc (.cells (u8s M).toArray 22)).alloc (.cells (u8s (List.replicate 32 0)).toArray 24)) w.heap.size 22 (u8s M) := Arr.alloc (Arr.newAt rfl rfl) _
  have h4 : Arr ((w.alloc (.cells (u8s M).toArray 22)).alloc (.cells (u8s (List.replicate 32 0)).toArray 24)) (w.heap.size + 1) 24 (u8s (List.replicate 32 0)) := Arr.newAt (asz _ _) rfl
  have G0 : Gr w ((w.alloc (.cells (u8s M).toArray 22)).alloc (.cells (u8s (List.replicate 32 0)).toArray 24)) := (Gr.alloc _ _).trans (Gr.alloc _ _)
  go_enter Tryd.func7, Tryd.ntmps7
  go_upto_region 1 with fail
  change Code.wp _ _ _ _ ((w.alloc (.cells (u8s M).toArray 22)).alloc (.cells (u8s (List.replicate 32 0)).toArray 24))
  generalize (w.alloc (.cells (u8s M).toArray 22)).alloc (.cells (u8s (List.replicate 32 0)).toArray 24) = w0 at h2 h4 G0 ⊢
  obtain ⟨g4, hg4⟩ : ∃ g, g = w.heap.size + 1 := ⟨_, rfl⟩
  rw [← hg4] at h4
  simp only [← hg4]
  have HG4 := Lib.hid hg4
  obtain ⟨g2, hg2⟩ : ∃ g, g = w.heap.size := ⟨_, rfl⟩
  rw [← hg2] at h2
  simp only [← hg2]
  have HG2 := Lib.hid hg2
  clear hg4 hg2
  have hr0 := G0.rd hr
  have gw0 := gw.gr G0
  have hcv := Lib.run_convert_bytes_const (P := Tryd.prog) w0 23 5 #[.int .u8 98, .int .u8 108, .int .u8 105, .int .u8 110, .int .u8 100] 5 5 Tryd.underlying23 Tryd.underlying5
  have hcut := fun w => run_cutAll (P := Tryd.prog) Tryd.underlying22 (by kernel_rfl) g2 w
  go_wp2_with fail
  refine (HE.out _ g2 (some ⟨w0.heap.size, 0, none⟩) 5 (by omega) ((h2.gr (Gr.alloc _ _)).rdAll hM) (rd_made rfl _ _ _ 5 _ rfl rfl) (gw0.gr (Gr.alloc _ _))).mono ?_
  rintro r w1 ⟨g7, rfl, hr7, hB1⟩
  have G1 : Gr w0 w1 := Gr.trans (Gr.alloc _ _) hB1
  have hr1 := G1.rd hr0
  have gw1 := gw0.gr G1
  have h41 := h4.gr G1
  have hB3 := Below.trans G0 (Below.mono G1 G0.size)
  clear hcv hcut hB1 h2 h4 hr hr0 gw0 gw G1
  go_wp2_with fail
  refine (HS.out _ g7 _ [⟨A, n, c, nm⟩] ((Gr.alloc w1 _).rd hr7) (parts1 rfl 23 ⟨A, n, c, nm⟩ hr1 hnc) (by simp [allP]) (gw1.gr (Gr.alloc _ _))).mono ?_
  rintro r w2 ⟨rfl, hB2⟩
  have G2 : Gr w1 w2 := Gr.trans (Gr.alloc _ _) hB2
  have h42 := h41.gr G2
  have hB4 := hB3.trans (Below.mono G2 hB3.size)
  clear hB2 hr1 gw1 h41 hr7 hB3 G2
  go_wp2_with (refine wpList_put h42 rfl 24 (.tmp 4) (.tmp 31) rfl (u8s X) rfl rfl (by simp [hXl]) (infoBl X hXl) (u8s_oneCell _) ?_; intro w6 h46 hB7 _)
  refine bodyPost_ret (results_cell_tmp rfl _ _ g4 _ _ _ _ rfl h46 Tryd.underlying24 rfl (by have := infoBl X hXl; simpa using this)) rfl ?_
  have h9 : w.heap.size ≤ g4 := by have := HG4.out; omega
  exact ⟨rfl, hB4.trans (hB7.mono h9)⟩
end Go.Proofs.YtficbedibjgoeaaDoor
