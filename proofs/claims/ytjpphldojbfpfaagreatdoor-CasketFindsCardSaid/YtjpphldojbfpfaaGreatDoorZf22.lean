/- Texts of one proof, laid as one: part 22. No condition. -/
import Derived.Test.YtjpphldojbfpfaaGreatDoorZf21
namespace Go.Proofs.YtjpphldojbfpfaaGreatDoor
open Go.RowKit
abbrev PlaceN := Nat × Nat × Nat
def plC (p : PlaceN) : List Value := placeC p.1 p.2.1 p.2.2
def bestN (p : Nat → PlaceN) : Nat → PlaceN
  | 0 => (0, 0, 0)
  | k + 1 => if (bestN p k).1 < (p k).1 then p k else bestN p k
section
variable {w : World} {D : Dk} {B : Nat} {L F : List Sec} {A : Option Addr} {k c : Nat}
theorem run_allocPl {ev : Operand → Value} {d : Option Tmp} {t : TypeId} {p : String} {af : Array Edge} {gd : Option (Nat × Bool)} {w : World} :
    (execOp ev ⟨d, .alloc 97, t, p, af, gd⟩).run Tryz.prog w = .ok (.value (.pointer (some ⟨w.heap.size, 0, none⟩))) (w.alloc (.cells (placeC 0 0 0).toArray 97)) := by
  simp only [execOp]; go_simp; rfl
set_option maxRecDepth 100000 in
set_option maxHeartbeats 8000000 in
theorem latest_any (h : DiskIs w D B L F A k c) (hN : 4 ≤ D.N) (p : Nat → PlaceN) (x : Nat → Sec) (hx : ∀ i, i < 2 → L[i]? = some (x i)) (hp : ∀ i, i < 2 → (p i).1 < 4611686018427387904)
    (hr : ∀ i, i < 2 → ∀ w1, Calls Tryz.prog 54 #[.agg (encS (x i)).toArray, .int .i64 (i : Int), .int .i64 ((areaN D.N * 64 : Nat) : Int)] w1 fun e w' => e = .returned (.agg (plC (p i)).toArray) ∧ Gr w1 w') :
    Calls Tryz.prog 29 #[.pointer (some ⟨D.d, 0, none⟩)] w fun e w' => e = .returned (.tuple #[.agg (plC (bestN p 2)).toArray, .int .i64 0]) ∧ Gr w w' := by
  have H := Lib.hid h; have HX := Lib.hid hx; have HR := Lib.hid hr; have HPl := Lib.hid hp; have hN2 := h.few.2; clear h hx hr hp; have hA2 : Arr (w.alloc (.cells (placeC 0 0 0).toArray 97)) w.heap.size 97 (placeC 0 0 0) := Arr.newAt rfl rfl; have hA24 := hA2.gr (Gr.alloc _ (.cells (placeC 0 0 0).toArray 97)); have hA4 : Arr ((w.alloc (.cells (placeC 0 0 0).toArray 97)).alloc (.cells (placeC 0 0 0).toArray 97)) (w.heap.size + 1) 97 (placeC 0 0 0) := Arr.newAt (asz _ _) rfl; have hG4 : Gr w ((w.alloc (.cells (placeC 0 0 0).toArray 97)).alloc (.cells (placeC 0 0 0).toArray 97)) := (Gr.alloc _ _).trans (Gr.alloc _ _)
  go_enter Tryz.func29, Tryz.ntmps29
  go_upto_region 2 with fail
  change Code.wp _ _ _ _ ((w.alloc (.cells (placeC 0 0 0).toArray 97)).alloc (.cells (placeC 0 0 0).toArray 97)); generalize (w.alloc (.cells (placeC 0 0 0).toArray 97)).alloc (.cells (placeC 0 0 0).toArray 97) = w0 at hA24 hA4 hG4 ⊢; obtain ⟨g2, hg2⟩ : ∃ g, g = w.heap.size := ⟨_, rfl⟩; obtain ⟨g4, hg4⟩ : ∃ g, g = w.heap.size + 1 := ⟨_, rfl⟩; rw [← hg4] at hA4; rw [← hg2] at hA24; simp only [← hg4]; simp only [← hg2]; have h24 : g2 ≠ g4 := by omega
  have hg2w : w.heap.size ≤ g2 := by omega
  have hg4w : w.heap.size ≤ g4 := by omega
  clear hA2 hg2 hg4; go_wp2_with fail
  go_simp
  go_loopw [9] (fun i wr => ∃ k : Nat, k ≤ 2 ∧ i = .int .i64 (k : Int) ∧ Arr wr g4 97 (plC (bestN p k)) ∧ Arr wr g2 97 (placeC 0 0 0) ∧ Gr w wr) (fun i _ => 2 - (intOf i).toNat)
  case atStart => exact ⟨0, by omega, rfl, hA4, hA24, hG4⟩
  case round =>
    clear hA4 hA24 hG4; obtain ⟨q, hq2, rfl, hA4, hA2, hG⟩ := hrel
    by_cases hlt : q < 2
    · have hqi : (q : Int) < 2 := by omega
      have HRd := Lib.hid (kread_any (H.out.gr hG) (HX.out q hlt)); have HS := Lib.hid (fun w1 (h : Gr w w1) => dsize_any (H.out.gr h)); have HRo := Lib.hid (fun w1 => room_any D.N ⟨hN, hN2⟩ w1); have HRr := Lib.hid (HR.out q hlt); have HB : Hid (bestN p (q + 1) = if (bestN p q).1 < (p q).1 then p q else bestN p q) := Lib.hid rfl; have hpq := HPl.out q hlt; generalize p q = pq at HRr HB hpq; generalize bestN p q = bq at hA4 HB; obtain ⟨X, hX⟩ : ∃ X, X = x q := ⟨_, rfl⟩; rw [← hX] at HRd HRr; clear hX
      go_upto_region 6 with first
        | (go_at_call 53; refine HRd.out.mono ?_; rintro e w1 ⟨rfl, hG1⟩)
        | (refine wpList_new (w := w1) (t := 71) rfl _ _ _ rfl w1.heap.size (encS X) rfl rfl rfl (by rw [encS_len]; rfl) (infoSec X) (encS_one X) ?_; intro w2 hA6 hG2)
      obtain ⟨g6, hg6⟩ : ∃ g, g = w1.heap.size := ⟨_, rfl⟩; rw [← hg6] at hA6; simp only [← hg6]; clear hg6; have hG12 := hG1.trans hG2; have hA42 := hA4.gr hG12; have hA22 := hA2.gr hG12; have hGw2 := hG.trans hG12; clear HRd hG1 hG2 hA4 hA2 hG12
      go_upto_region 8 with fail
      refine wp_region_cut (by kernel_rfl) [IsV (.agg (encS X).toArray), IsV (.int .i64 ((q : Nat) : Int)), IsV (.pointer (some ⟨D.d, 0, none⟩)), IsV (.int .i64 ((D.N : Nat) : Int)), IsV (.int .i64 ((areaN D.N * 64 : Nat) : Int)), IsV (.agg (plC pq).toArray), NewA w2.heap.size 97 (placeC 0 0 0)] 7 (by decide) (by kernel_rfl) (by kernel_rfl) (by kernel_rfl) ?_ ?_ ?_
      · intro φ hφ v w1 w2 h hg; simp only [List.mem_cons, List.not_mem_nil, or_false] at hφ; rcases hφ with rfl | rfl | rfl | rfl | rfl | rfl | rfl
        all_goals first | exact h | exact RdV.gr h hg | exact NewA.gr h hg
      · refine ⟨?_, ?_, ?_, ?_, ?_, ?_, ?_, trivial⟩
        · intro a1 w1 hG hF; have e6 : a1.eval (.tmp 6) = .pointer (some ⟨g6, 0, none⟩) := hF.ol 6 (by kernel_rfl); exact s_wp rfl (wants0 rfl) (wp_load_mid _ _ rfl g6 0 e6 (encS X) _ (((Gr.drew w2).trans hG).range (Arr.range hA6)) Tryz.underlying71 rfl (infoSec X) ⟨_, rfl, rfl, Gr.refl _⟩)
        · intro a1 w1 hG hF; exact s_old rfl (wants0 rfl) (.tmp 5) (.inr rfl) (.int .i64 ((q : Nat) : Int)) (hF.ol 5 (by kernel_rfl)) rfl
        · intro a1 w1 hG hF; exact s_old rfl (wants0 rfl) (.tmp 0) (.inr rfl) (.pointer (some ⟨D.d, 0, none⟩)) (hF.ol 0 (by kernel_rfl)) rfl
        · intro a1 w1 hG hF; obtain ⟨_, e24, rfl⟩ := hF.dp 2 24 (by kernel_rfl); exact s_call rfl (wants0 rfl) _ rfl _ _ (by simp only [execOp, resolve, invoke, List.map_toArray, List.map_cons, List.map_nil, e24]; go_simp) (((HS.out w1 (hGw2.trans ((Gr.drew w2).trans hG)))).mono fun e w2 ⟨he, hw⟩ => ⟨_, he, rfl, hw ▸ Gr.refl _⟩)
        · intro a1 w1 hG hF; obtain ⟨_, e25, rfl⟩ := hF.dp 3 25 (by kernel_rfl); exact s_call rfl (wants0 rfl) _ rfl _ _ (by simp only [execOp, resolve, invoke, List.map_toArray, List.map_cons, List.map_nil, e25]; go_simp) (((HRo.out w1)).mono fun e w2 ⟨he, hw⟩ => ⟨_, he, rfl, hw ▸ Gr.refl _⟩)
        · intro a1 w1 hG hF; obtain ⟨_, e22, rfl⟩ := hF.dp 0 22 (by kernel_rfl); obtain ⟨_, e23, rfl⟩ := hF.dp 1 23 (by kernel_rfl); obtain ⟨_, e26, rfl⟩ := hF.dp 4 26 (by kernel_rfl); exact s_call rfl (wants0 rfl) _ rfl _ _ (by simp only [execOp, resolve, invoke, List.map_toArray, List.map_cons, List.map_nil, e22, e23, e26]; go_simp) (((HRr.out w1)).mono fun e w2 ⟨he, hb⟩ => ⟨_, he, rfl, hb⟩)
        · intro a1 w1 hG hF; exact s_val rfl (wants0 rfl) _ rfl _ _ run_allocPl ⟨_, rfl, ((Gr.drew w2).trans hG).size, Arr.newAt rfl rfl⟩ (Gr.alloc _ _)
      · intro vs w9 hG hf; have z27 : vs 5 = .agg (plC pq).toArray := hf.2.2.2.2.2.1; have y8 : (NewA w2.heap.size 97 (placeC 0 0 0)) (vs 6) w9 := hf.2.2.2.2.2.2.1; clear hf; simp only [List.take_succ_cons, List.take_zero, List.drop_succ_cons, List.drop_zero, putAll, Nat.zero_add, Nat.reduceAdd, z27]; have hGw9 : Gr w2 w9 := (Gr.drew w2).trans hG; obtain ⟨g8, hy8, hg8, hA8⟩ := y8; simp only [hy8]; clear hG hy8; refine wpList_put hA8 rfl 97 (.tmp 8) (.tmp 27) rfl (plC pq) (by kernel_rfl) (by kernel_rfl) rfl (infoPlace _ _ _) (placeC_one _ _ _) ?_; intro w10 hA10 hB10 hoth; have hg48 : g4 ≠ g8 := by have := hA42.lt; omega
        have hg28 : g2 ≠ g8 := by have := hA22.lt; omega
        have hA410 := hoth g4 _ _ hg48 (hA42.gr hGw9); have hA210 := hoth g2 _ _ hg28 (hA22.gr hGw9); have hGw10 : Gr w w10 := Below.trans (hGw2.trans hGw9) (hB10.mono (by have := hGw2.size; omega)); have c80 := hA10.cell (i := 0) (v := .int .i64 (pq.1 : Int)) rfl; have c40 := hA410.cell (i := 0) (v := .int .i64 (bq.1 : Int)) rfl; have hr8 : w10.rangeAt g8 0 (plC pq) := Arr.range hA10; clear hB10 hoth hA8 hGw9 hA10 hA42 hA22; unfold wpList; go_simp
        by_cases hgt : bq.1 < pq.1
        · have hgi : (bq.1 : Int) < (pq.1 : Int) := by omega
          have HB2 : Hid (bestN p (q + 1) = pq) := Lib.hid (by rw [HB.out, if_pos hgt]); clear hgt
          go_upto_region 11 with first
            | (refine wpList_load_mid rfl _ _ rfl g8 0 rfl (plC pq) _ hr8 Tryz.underlying97 rfl (infoPlace _ _ _) ?_)
            | (refine wpList_put hA410 rfl 97 (.tmp 4) (.tmp 33) rfl (plC pq) (by kernel_rfl) (by kernel_rfl) rfl (infoPlace _ _ _) (placeC_one _ _ _) ?_; intro w11 hA11 hB11 hoth; have hA211 := hoth g2 _ _ h24 hA210; have hGw11 := Below.trans hGw10 (hB11.mono hg4w))
          clear hA410 hA210 c40 c80 hr8 hB11 hoth hgi; go_wp2_with fail
          exact ⟨⟨q + 1, by omega, by go_num, by rw [HB2.out]; exact hA11, hA211, hGw11⟩, by simp [intOf]; omega⟩
        · have hgi : ¬ (bq.1 : Int) < (pq.1 : Int) := by omega
          have HB2 : Hid (bestN p (q + 1) = bq) := Lib.hid (by rw [HB.out, if_neg hgt]); clear hgt; go_wp2_with fail
          exact ⟨⟨q + 1, by omega, by go_num, by rw [HB2.out]; exact hA410, hA210, hGw10⟩, by simp [intOf]; omega⟩
    · have hqi : ¬ (q : Int) < 2 := by omega
      obtain rfl : q = 2 := by omega
      obtain ⟨bq, hbq⟩ : ∃ b, b = bestN p 2 := ⟨_, rfl⟩; rw [← hbq] at hA4; have HBQ := Lib.hid hbq; clear hbq; have hr4 : wr.rangeAt g4 0 (plC bq) := Arr.range hA4; go_simp
      go_wp2_with first
        | (refine wpList_load_mid rfl _ _ rfl g4 0 rfl (plC bq) _ hr4 Tryz.underlying97 rfl (infoPlace _ _ _) ?_)
        | (refine wpList_put hA2 rfl 97 (.tmp 2) (.tmp 35) rfl (plC bq) (by kernel_rfl) (by kernel_rfl) rfl (infoPlace _ _ _) (placeC_one _ _ _) ?_; intro w11 hA11 hB11 _)
      refine bodyPost_ret (results_cell_tmp rfl _ _ g2 _ _ _ _ rfl hA11 Tryz.underlying97 rfl (infoPlace _ _ _)) rfl ?_; exact ⟨by rw [← HBQ.out]; rfl, Below.trans hG (hB11.mono hg2w)⟩
def logC (d turn area : Nat) (A : Option Addr) (n c : Nat) : List Value := [.pointer (some ⟨d, 0, none⟩), .int .i64 (turn : Int), .int .i64 (area : Int), .slice A n c]
set_option maxRecDepth 100000 in
theorem lmay_any (h : DiskIs w D B L F A k c) (hN : 4 ≤ D.N) : Calls Tryz.prog 28 #[.pointer (some ⟨D.d, 0, none⟩)] w fun e w' => e = .returned (.int .i64 0) ∧ w = w' := by
  have HS := Lib.hid (dsize_any h); have h1 : ¬ (D.N : Int) < 4 := by omega
  clear h
  go_enter Tryz.func28, Tryz.ntmps28
  go_wp2_with fail
  refine HS.out.mono ?_; rintro e w1 ⟨rfl, rfl⟩; go_wp2_with fail
  go_ret
  exact ⟨rfl, rfl⟩
theorem DiskIs.rebase (h : DiskIs w D B L F none 0 0) (B' : Nat) : DiskIs w D B' L F none 0 0 := ⟨h.arr, h.now, h.fast, ⟨[], rfl, .inl ⟨rfl, rfl⟩⟩, h.ne, h.lenL, h.lenF, h.few⟩
def CloseQ (D : Dk) (lg : Nat) (L : List Sec) (t a : Nat) (A2 : Option Addr) (n2 c2 : Nat) (w : World) (e : Ending) (w' : World) : Prop :=
  e = .returned (.int .i64 0) ∧ DiskIs w' D 0 (L.set ((t + 1) % 2) (headS (t + 1) a n2)) (L.set ((t + 1) % 2) (headS (t + 1) a n2)) none 0 0 ∧ Arr w' lg 101 (logC D.d (t + 1) a A2 n2 c2) ∧ InS (fun i => i = D.d ∨ i = D.gn ∨ i = D.gf ∨ i = lg) w w'
set_option maxRecDepth 100000 in
set_option maxHeartbeats 8000000 in
theorem lclose_any {lg t a a0 n1 c1 n2 c2 : Nat} {A1 A2 : Option Addr} (h : DiskIs w D B L F none 0 0) (hN : 4 ≤ D.N) (hl : Arr w lg 101 (logC D.d t a0 A1 n1 c1)) (ht : t < 4611686018427387900) (ha : a ≤ 1) (hn : n2 ≤ 4611686018427387900) :
    Calls Tryz.prog 30 #[.pointer (some ⟨lg, 0, none⟩), .int .i64 (a : Int), .slice A2 n2 c2] w fun e w' => CloseQ D lg L t a A2 n2 c2 w e w' := by
  have H := Lib.hid h; have hN2 := h.few.2; have cd := hl.cell (i := 0) (v := .pointer (some ⟨D.d, 0, none⟩)) rfl; have ct := hl.cell (i := 1) (v := .int .i64 (t : Int)) rfl; have hld : lg ≠ D.d := arr_ne hl h.arr (by decide)
  have hln : lg ≠ D.gn := by
    obtain ⟨R, q⟩ := h.now; exact arr_ne hl q (by decide)
  have hlf : lg ≠ D.gf := by
    obtain ⟨R, q⟩ := h.fast; exact arr_ne hl q (by decide)
  obtain ⟨m, hm⟩ : ∃ m, m = (t + 1) % 2 := ⟨_, rfl⟩; have hm2 : m < 2 := by omega
  obtain ⟨s, hs⟩ : ∃ s, s = t + 1 := ⟨_, rfl⟩; have hst : (t : Int) + 1 = (s : Int) := by omega
  have hsl : s < 4611686018427387901 := by omega
  have hsm : s % 2 = m := by rw [hs, hm]
  have HE : Hid (s = t + 1 ∧ m = (t + 1) % 2) := Lib.hid ⟨hs, hm⟩; have HH := Lib.hid (fun w1 => head_any s a n2 (by omega) (by omega) (by omega) w1); clear h hs hm
  go_enter Tryz.func30, Tryz.ntmps30
  go_upto_region 2 with fail
  refine wp_region_cut (by kernel_rfl) [IsV (.pointer (some ⟨lg, 0, none⟩)), IsV (.pointer (some ⟨lg, 0, none⟩)), IsV (.pointer (some ⟨lg, 0, none⟩)), IsV (.pointer (some ⟨D.d, 0, none⟩)), IsV (.int .i64 ((s : Nat) : Int)), IsV (.int .i64 ((m : Nat) : Int)), IsV (.int .i64 ((s : Nat) : Int)), IsV (.int .i64 ((a : Nat) : Int)), IsV (.slice A2 n2 c2), IsV (.int .i64 ((n2 : Nat) : Int)), IsV (.agg (encS (headS s a n2)).toArray)] 11 (by decide) (by kernel_rfl) (by kernel_rfl) (by kernel_rfl) ?_ ?_ ?_
  · intro φ hφ v w1 w2 h hg; simp only [List.mem_cons, List.not_mem_nil, or_false] at hφ; rcases hφ with rfl | rfl | rfl | rfl | rfl | rfl | rfl | rfl | rfl | rfl | rfl
    all_goals first | exact h | exact RdV.gr h hg
  · refine ⟨?_, ?_, ?_, ?_, ?_, ?_, ?_, ?_, ?_, ?_, ?_, trivial⟩
    · intro a1 w1 hG hF; exact s_old rfl (wants0 rfl) (.tmp 0) (.inr rfl) (.pointer (some ⟨lg, 0, none⟩)) (hF.ol 0 (by kernel_rfl)) rfl
    · intro a1 w1 hG hF; obtain ⟨_, e15, rfl⟩ := hF.dp 0 15 (by kernel_rfl); exact s_is rfl (wants0 rfl) _ rfl (run_nil e15)
    · intro a1 w1 hG hF; obtain ⟨_, e16, rfl⟩ := hF.dp 1 16 (by kernel_rfl); exact s_is rfl (wants0 rfl) _ rfl (run_fieldR (o := 0) (k := 0) Tryz.underlying101 rfl rfl (by kernel_rfl) e16)
    · intro a1 w1 hG hF; obtain ⟨_, e17, rfl⟩ := hF.dp 2 17 (by kernel_rfl); exact s_is rfl (wants0 rfl) _ rfl (run_load1B (.inr (.inr (.inr (.inr ⟨_, Tryz.underlying26⟩)))) e17 (Gr.cell ((Gr.drew w).trans hG) cd))
    · intro a1 w1 hG hF; exact s_old rfl (wants0 rfl) (.tmp 7) (.inr rfl) (.int .i64 ((s : Nat) : Int)) (hF.ol 7 (by kernel_rfl)) rfl
    · intro a1 w1 hG hF; obtain ⟨_, e19, rfl⟩ := hF.dp 4 19 (by kernel_rfl); exact s_is rfl (wants0 rfl) _ rfl (run_remK (b := 2) hsm (by omega) (by omega) e19 rfl)
    · intro a1 w1 hG hF; exact s_old rfl (wants0 rfl) (.tmp 7) (.inr rfl) (.int .i64 ((s : Nat) : Int)) (hF.ol 7 (by kernel_rfl)) rfl
    · intro a1 w1 hG hF; exact s_old rfl (wants0 rfl) (.tmp 1) (.inr rfl) (.int .i64 ((a : Nat) : Int)) (hF.ol 1 (by kernel_rfl)) rfl
    · intro a1 w1 hG hF; exact s_old rfl (wants0 rfl) (.tmp 2) (.inr rfl) (.slice A2 n2 c2) (hF.ol 2 (by kernel_rfl)) rfl
    · intro a1 w1 hG hF; obtain ⟨_, e23, rfl⟩ := hF.dp 8 23 (by kernel_rfl); exact s_is rfl (wants0 rfl) _ rfl (run_len_slice Tryz.underlying43 e23)
    · intro a1 w1 hG hF; obtain ⟨_, e21, rfl⟩ := hF.dp 6 21 (by kernel_rfl); obtain ⟨_, e22, rfl⟩ := hF.dp 7 22 (by kernel_rfl); obtain ⟨_, e24, rfl⟩ := hF.dp 9 24 (by kernel_rfl); exact s_call rfl (wants0 rfl) _ rfl _ _ (by simp only [execOp, resolve, invoke, List.map_toArray, List.map_cons, List.map_nil, e21, e22, e24]; go_simp) (((HH.out w1)).mono fun e w2 ⟨he, hb⟩ => ⟨_, he, rfl, hb⟩)
  · intro vs w9 hG hf; have z18 : vs 3 = .pointer (some ⟨D.d, 0, none⟩) := hf.2.2.2.1; have z20 : vs 5 = .int .i64 ((m : Nat) : Int) := hf.2.2.2.2.2.1; have z25 : vs 10 = .agg (encS (headS s a n2)).toArray := hf.2.2.2.2.2.2.2.2.2.2.1; clear hf; simp only [List.take_succ_cons, List.take_zero, List.drop_succ_cons, List.drop_zero, putAll, Nat.zero_add, Nat.reduceAdd, z18, z20, z25]; have hG9 : Gr w w9 := (Gr.drew w).trans hG; have HW := Lib.hid (kwrite_any (w := w9) ((H.out.gr hG9).rebase w9.heap.size) (at_ := m) (by omega) (headS s a n2) (Nat.le_refl _) (by omega)); have hl9 := hl.gr hG9; clear hG z18 z20 z25 hl cd ct; unfold wpList; go_simp; refine .inl (HW.out.mono ?_); rintro e w1 ⟨A3, c3, rfl, hD1, hI1, _⟩; refine wpList_valW rfl (.int .i64 0) w1 (by simp only [execOp]; go_simp) ?_; unfold wpList; go_simp
    go_upto_region 5 with fail
    have hI1' : InS (fun i => i = D.d ∨ i = D.gn ∨ i = D.gf ∨ i = lg) w w1 := (InS.of_gr hG9).trans (hI1.wide fun i h => by
      rcases h with h | h | ⟨ad, h, _⟩
      · exact .inl h
      · exact .inr (.inl h)
      · cases h)
    have hl1 := hI1.arr hl9 (by
      rintro (h | h | ⟨ad, h, _⟩)
      · exact hld h
      · exact hln h
      · cases h)
    have HSy := Lib.hid (dsync_any hD1); have cd1 := hl1.cell (i := 0) (v := .pointer (some ⟨D.d, 0, none⟩)) rfl; clear HW hl9 hI1 hD1 hG9
    go_upto_region 8 with (go_at_call 58; refine HSy.out.mono ?_; rintro e w2 ⟨rfl, hD2, hI2⟩)
    have hl2 := hI2.arr hl1 (by
      rintro (h | h)
      · exact hld h
      · exact hlf h)
    have hI2' : InS (fun i => i = D.d ∨ i = D.gn ∨ i = D.gf ∨ i = lg) w w2 := hI1'.trans (hI2.wide fun i h => by
      rcases h with h | h
      · exact .inl h
      · exact .inr (.inr (.inl h)))
    clear HSy hl1 cd1 hI1' hI2
    go_wp2_with first
      | (refine wpList_setV hl2 rfl 3 (.tmp 45) (.tmp 41) rfl (by kernel_rfl) 1 (.int .i64 (s : Int)) rfl rfl (by simp [logC]) (.inr (.inl ⟨_, _, rfl⟩)) ?_; intro w3 hA3 hK3)
      | (refine wpList_setV hA3 rfl 3 (.tmp 47) (.tmp 42) rfl (by kernel_rfl) 2 (.int .i64 (a : Int)) rfl rfl (by simp [logC]) (.inr (.inl ⟨_, _, rfl⟩)) ?_; intro w4 hA4 hK4)
      | (refine wpList_setV hA4 rfl 43 (.tmp 49) (.tmp 43) rfl (by kernel_rfl) 3 (.slice A2 n2 c2) rfl rfl (by simp [logC]) (.inl ⟨_, _, _, rfl⟩) ?_; intro w5 hA5 hK5)
    go_ret
    have hK := (hK3.trans hK4).trans hK5; refine ⟨rfl, ?_, ?_, hI2'.trans (InS.of_ink hK (.inr (.inr (.inr rfl))))⟩
    · rw [← HE.out.1, hsm]; exact hD2.ins (InS.of_ink (S := fun i => i = lg) hK rfl) (fun e => hld e.symm) (fun e => hln e.symm) (fun e => hlf e.symm) (fun ad h => by cases h)
    · rw [← HE.out.1]; exact hA5
end
end Go.Proofs.YtjpphldojbfpfaaGreatDoor
namespace Go.Proofs.YtjpphldojbfpfaaGreatDoor
open Go.RowKit
def LayA (L : List Sec) (s0 lo k : Nat) (b : List UInt8) (L' : List Sec) : Prop := L'.length = L.length ∧ ∀ i, L'[i]? = if s0 + lo ≤ i ∧ i < s0 + k then some (padSec (b.drop ((i - s0) * 64))) else L[i]?
theorem LayA.start (L : List Sec) (s0 lo : Nat) (b : List UInt8) : LayA L s0 lo lo b L := ⟨rfl, fun i => by rw [if_neg (by omega)]⟩
theorem LayA.step {L L' : List Sec} {s0 lo k : Nat} {b : List UInt8} (h : LayA L s0 lo k b L') (hlo : lo ≤ k) (hk : s0 + k < L.length) : LayA L s0 lo (k + 1) b (L'.set (s0 + k) (padSec (b.drop (k * 64)))) := by
  refine ⟨by rw [List.length_set, h.1], fun i => ?_⟩; rw [List.getElem?_set]
  by_cases e : s0 + k = i
  · subst e; rw [if_pos rfl, if_pos (by rw [h.1]; exact hk), if_pos (by omega), Nat.add_sub_cancel_left]
  · rw [if_neg e, h.2 i]
    by_cases h1 : s0 + lo ≤ i ∧ i < s0 + k
    · rw [if_pos h1, if_pos (by omega)]
    · rw [if_neg h1, if_neg (by omega)]
theorem pad_cells2 {l : List UInt8} : u8s (l.take 64) ++ (encS zeroSec).drop (l.take 64).length = encS (padSec l) := by
  have h := pad_cells (l := l.take 64) (by rw [List.length_take]; omega); rw [List.take_zero, List.nil_append, Nat.zero_add] at h; rw [h]; unfold encS padSec; simp only; congr 1
  rw [List.take_append, List.take_append]; simp only [List.take_take, Nat.min_self, List.length_take]; congr 1
  rw [List.take_replicate, List.take_replicate]; congr 1
  omega
section
variable {P : Program}
theorem wpList_copyM {ops : Array Oper} {rest : List Oper} {o : Oper} {a : Act} {Q : Exit → Act → World → Prop} {w : World} {t : TypeId} {g : Nat} {cs : List Value} (hA : Arr w g t cs) (hgd : o.guard = none) (d s : Operand) (dT sT : TypeId)
    (ho : o.op = .call { callee := .builtin .copy, args := #[d, s], argTypes := #[dT, sT] }) (elem : TypeId) (hu : P.underlying dT = some (.slice elem)) (hsz : (P.info? elem).map (·.size) = some 1)
    (dLen dCap : Nat) (hd : a.eval d = .slice (some ⟨g, 0, none⟩) dLen dCap) (A : Option Addr) (m c : Nat) (hs : a.eval s = .slice A m c) (src : List Value) (hr : Rd w A m src) (h1 : ∀ v ∈ src, v.oneCell' = true) (hm : 0 < m) (hfit : cs.length = dLen)
    (h : ∀ w2, Arr w2 g t (src.take dLen ++ cs.drop (src.take dLen).length) → InK g w w2 → wpList P ops Q rest (a.put o.dst (goInt (Nat.min m dLen))) w2) : wpList P ops Q (o :: rest) a w := by
  have hl : src.length = m := hr.1; refine wpList_plain hgd fun K hK => ?_; unfold Oper.wp; obtain ⟨ad, _, rfl, _, _⟩ := hr.at_ hm; have hlt : (src.take dLen).length = Nat.min m dLen := by rw [List.length_take, hl]; exact Nat.min_comm _ _
  have hle : (src.take dLen).length ≤ cs.length := by rw [List.length_take]; omega
  have hrun := run_copy_cells (P := P) w dT sT o.type elem g 0 dLen dCap ad m c (src.take dLen) hu hsz hlt
    (fun j v hv => by
      have hj : src[j]? = some v := by
        rw [List.getElem?_take] at hv; split at hv
        · exact hv
        · cases hv
      obtain ⟨ad', e, hc⟩ := hr.2 j v hj; injection e with e
      subst e; exact hc)
    (fun j hj => by rw [Nat.zero_add, hA.cell (List.getElem?_eq_getElem (by omega : j < cs.length))]; rfl) (fun j _ => hA.frozen _) (fun v hv => h1 v (List.mem_of_mem_take hv))
  simp only [execOp, ho, resolve, invoke, builtin, Sem.run_bind, Sem.run_pure, Result.andThen_ok, List.map_toArray, List.map_cons, List.map_nil, hd, hs, hrun]; rw [hlt]; refine hK _ _ (h _ ?_ (ink_cells _ _ _ _)); have := Arr.setCells_from (src.take dLen) 0 w cs hA (by omega)
  rwa [List.take_zero, List.nil_append, Nat.zero_add] at this
end
def WrQ (D : Dk) (L : List Sec) (s0 lo hi : Nat) (b : List UInt8) (w : World) (e : Ending) (w' : World) : Prop := ∃ L', e = .returned (.int .i64 0) ∧ LayA L s0 lo hi b L' ∧ DiskIs w' D 0 L' L' none 0 0 ∧ InS (fun i => i = D.d ∨ i = D.gn ∨ i = D.gf) w w'
def WrR (D : Dk) (L : List Sec) (s0 lo n : Nat) (b : List UInt8) (B : Nat) (w : World) (i : Value) (wr : World) : Prop := ∃ (k : Nat) (L' : List Sec) (A : Option Addr) (c : Nat), lo ≤ k ∧ (k = lo ∨ (k - 1) * 64 < n) ∧ i = .int .i64 (k : Int) ∧ LayA L s0 lo k b L' ∧ DiskIs wr D B L' L A (k - lo) c ∧ InS (fun i => i = D.d ∨ i = D.gn) w wr ∧ ∀ ad, A = some ad → B ≤ ad.block
section
variable {w : World} {D : Dk} {B : Nat} {L F : List Sec}
set_option maxRecDepth 100000 in
set_option maxHeartbeats 16000000 in
theorem lwrite_any {lg t a0 a n1 c1 n cb fr : Nat} {A1 Ab : Option Addr} {b : List UInt8} (h : DiskIs w D B L L none 0 0) (hN : 4 ≤ D.N) (hl : Arr w lg 101 (logC D.d t a0 A1 n1 c1)) (ha : a ≤ 1)
    (hb : Rd w Ab n (u8s b)) (hbl : b.length = n) (hbc : n ≤ cb) (hbf : ∀ ad, Ab = some ad → ad.block ≠ D.d ∧ ad.block ≠ D.gn ∧ ad.block ≠ D.gf) (hn : n ≤ areaN D.N * 64) (hfr : fr ≤ n) :
    Calls Tryz.prog 120 #[.pointer (some ⟨lg, 0, none⟩), .int .i64 (a : Int), .slice Ab n cb, .int .i64 (fr : Int)] w fun e w' => ∃ hi, fr / 64 ≤ hi ∧ n ≤ hi * 64 ∧ (hi = fr / 64 ∨ (hi - 1) * 64 < n) ∧ WrQ D L (2 + a * areaN D.N) (fr / 64) hi b w e w' := by
  have H := Lib.hid h; have hN2 := h.few.2; have hAN : areaN D.N * 2 + 2 ≤ D.N := by unfold areaN; omega
  obtain ⟨m, hm⟩ : ∃ m, m = areaN D.N := ⟨_, rfl⟩; rw [← hm] at hn hAN; have HS := Lib.hid (fun w1 (h' : Gr w w1) => dsize_any (h.gr h')); have HAr := Lib.hid (fun w1 => area_any D.N ⟨hN, hN2⟩ w1); rw [← hm] at HAr; have cd := hl.cell (i := 0) (v := .pointer (some ⟨D.d, 0, none⟩)) rfl; have hld : lg ≠ D.d := arr_ne hl h.arr (by decide)
  have hln : lg ≠ D.gn := by
    obtain ⟨R, q⟩ := h.now; exact arr_ne hl q (by decide)
  obtain ⟨s0, hs0⟩ : ∃ s, s = 2 + a * m := ⟨_, rfl⟩
  have ham : a * m ≤ m := by
    have : a = 0 ∨ a = 1 := by omega
    rcases this with rfl | rfl <;> omega
  have hs0i : (2 : Int) + (a : Int) * (m : Int) = (s0 : Int) := by rw [hs0]; simp
  have hm8 : m ≤ 8192 := by omega
  have ham8 : a * m ≤ 8192 := by omega
  have hs0l : s0 + m ≤ D.N := by omega
  have hs08 : s0 ≤ 8192 := by omega
  have hn8 : n ≤ 524288 := by omega
  obtain ⟨lo, hlo⟩ : ∃ k, k = fr / 64 := ⟨_, rfl⟩; have hloi : (fr : Int).tdiv 64 = (lo : Int) := by rw [Int.tdiv_eq_ediv_of_nonneg (by omega)]; omega
  have hlo8 : lo * 64 ≤ n := by omega
  have HE : Hid (m = areaN D.N ∧ s0 = 2 + a * m ∧ lo = fr / 64) := Lib.hid ⟨hm, hs0, hlo⟩; have HBr := Lib.hid hb; have HBl := Lib.hid hbl; have HBf := Lib.hid hbf; have hBs : w.heap.size ≤ w.heap.size := Nat.le_refl _; have HR0 : Hid (WrR D L s0 lo n b w.heap.size w (.int .i64 (lo : Int)) w) := Lib.hid ⟨lo, L, none, 0, Nat.le_refl _, .inl rfl, rfl, LayA.start _ _ _ _, by rw [Nat.sub_self]; exact h.rebase _, InS.refl _ _, fun ad e => by cases e⟩; have hlL : L.length = D.N := h.lenL; have HlL := Lib.hid hlL; clear h hm hs0 hlo hb hbl hbf hlL
  go_enter Tryz.func120, Tryz.ntmps120
  go_wp2_with fail
  refine (HS.out w (Gr.refl _)).mono ?_; rintro e w1 ⟨rfl, rfl⟩; go_wp2_with fail
  refine (HAr.out w).mono ?_; rintro e w1 ⟨rfl, rfl⟩; go_wp2_with fail
  go_simp
  go_loopw [10] (fun i wr => WrR D L s0 lo n b w.heap.size w i wr) (fun i _ => n - (intOf i).toNat * 64)
  case atStart => exact HR0.out
  case round =>
    obtain ⟨k, L', A, c, hlk, hk2, rfl, hLay, hD, hI, hA⟩ := hrel; have HLay := Lib.hid hLay; have HD := Lib.hid hD; have hl1 := hI.arr hl (fun e => e.elim hld hln); have cd1 := hl1.cell (i := 0) (v := .pointer (some ⟨D.d, 0, none⟩)) rfl
    have hb1 : Rd wr Ab n (u8s b) := hI.rd HBr.out (fun ad e q => by
      obtain ⟨q1, q2, _⟩ := HBf.out ad e; exact q.elim q1 q2)
    clear hLay hD
    by_cases hlt : k * 64 < n
    · have hki : (k : Int) * 64 < (n : Int) := by omega
      have hk8 : k ≤ 8192 := by omega
      go_upto_region 6 with fail
      have hA11 : Arr (wr.alloc (.cells (encS zeroSec).toArray 71)) wr.heap.size 71 (encS zeroSec) := Arr.newAt rfl rfl; have hG11 : Gr wr (wr.alloc (.cells (encS zeroSec).toArray 71)) := Gr.alloc _ _; change Code.wp _ _ _ _ (wr.alloc (.cells (encS zeroSec).toArray 71)); generalize wr.alloc (.cells (encS zeroSec).toArray 71) = w1 at hA11 hG11 ⊢; obtain ⟨g11, hg11⟩ : ∃ g, g = wr.heap.size := ⟨_, rfl⟩; rw [← hg11] at hA11; simp only [← hg11]; have hg11w : wr.heap.size ≤ g11 := Nat.le_of_eq hg11.symm; clear hg11; have hc64 : ∀ w1, (Instr.sliceAt 43 (.slice Ab n cb) (some (.int .i64 ((k * 64 : Nat) : Int))) none none).run Tryz.prog w1 = .ok (.slice (cutA Ab cb (k * 64)) (n - k * 64) (cb - k * 64)) w1 := fun w1 => run_cut_l (P := Tryz.prog) Tryz.underlying43 (by kernel_rfl) rfl (by omega) w1; refine wp_region_cut (by kernel_rfl) [IsV (.slice (some ⟨g11, 0, none⟩) 64 64), IsV (.slice Ab n cb), IsV (.int .i64 ((k : Nat) : Int)), IsV (.int .i64 ((k * 64 : Nat) : Int)), IsV (.slice (cutA Ab cb (k * 64)) (n - k * 64) (cb - k * 64))] 5 (by decide) (by kernel_rfl) (by kernel_rfl) (by kernel_rfl) ?_ ?_ ?_
      · intro φ hφ v w1 w2 h hg; simp only [List.mem_cons, List.not_mem_nil, or_false] at hφ; rcases hφ with rfl | rfl | rfl | rfl | rfl
        all_goals first | exact h | exact RdV.gr h hg
      · refine ⟨?_, ?_, ?_, ?_, ?_, trivial⟩
        · intro a1 w1 hG hF; have e11 : a1.eval (.tmp 11) = .pointer (some ⟨g11, 0, none⟩) := hF.ol 11 (by kernel_rfl); exact s_is rfl (wants0 rfl) _ rfl (by simp only [execOp, e11, Option.map, Sem.run_bind, run_cutAll (P := Tryz.prog) Tryz.underlying71 (by kernel_rfl), Result.andThen_ok, Sem.run_pure])
        · intro a1 w1 hG hF; exact s_old rfl (wants0 rfl) (.tmp 2) (.inr rfl) (.slice Ab n cb) (hF.ol 2 (by kernel_rfl)) rfl
        · intro a1 w1 hG hF; exact s_old rfl (wants0 rfl) (.tmp 10) (.inr rfl) (.int .i64 ((k : Nat) : Int)) (hF.ol 10 (by kernel_rfl)) rfl
        · intro a1 w1 hG hF; obtain ⟨_, e33, rfl⟩ := hF.dp 2 33 (by kernel_rfl); exact s_is rfl (wants0 rfl) _ rfl (run_mulN (a := k) (b := 64) e33 rfl (by omega))
        · intro a1 w1 hG hF; obtain ⟨_, e32, rfl⟩ := hF.dp 1 32 (by kernel_rfl); obtain ⟨_, e34, rfl⟩ := hF.dp 3 34 (by kernel_rfl); exact s_is rfl (wants0 rfl) _ rfl (by simp only [execOp, e32, e34, Option.map, Sem.run_bind, hc64, Result.andThen_ok, Sem.run_pure])
      · intro vs w9 hG hf; have z31 : vs 0 = .slice (some ⟨g11, 0, none⟩) 64 64 := hf.1; have z35 : vs 4 = .slice (cutA Ab cb (k * 64)) (n - k * 64) (cb - k * 64) := hf.2.2.2.2.1; clear hf; simp only [List.take_succ_cons, List.take_zero, List.drop_succ_cons, List.drop_zero, putAll, Nat.zero_add, Nat.reduceAdd, z31, z35]; have hGw9 : Gr w1 w9 := (Gr.drew w1).trans hG; have hrs := Rd.cutL (hGw9.rd (hG11.rd hb1)) (lo := k * 64) (by omega) hbc; rw [u8s_drop] at hrs; refine wpList_copyM (hA11.gr hGw9) rfl (.tmp 31) (.tmp 35) 43 43 rfl 5 Tryz.underlying43 (by kernel_rfl) 64 64 (by kernel_rfl) (cutA Ab cb (k * 64)) (n - k * 64) (cb - k * 64) (by kernel_rfl) (u8s (b.drop (k * 64))) hrs (u8s_oneCell _) (by omega) (encS_len _) ?_; intro w2 hA2 hK2; rw [u8s_take, u8s_length, pad_cells2] at hA2; obtain ⟨X, hX⟩ : ∃ X, X = padSec (b.drop (k * 64)) := ⟨_, rfl⟩; rw [← hX] at hA2; have HX := Lib.hid hX; have hGr2 : Gr wr w2 := hK2.gr_after (hG11.trans hGw9) hg11w; have HD2 := Lib.hid (HD.out.gr hGr2); have cd2 := Gr.cell hGr2 cd1; have hr11 : w2.rangeAt g11 0 (encS X) := Arr.range hA2; have HGr2 := Lib.hid hGr2; have hkm : k < m := by omega
        have hsk : s0 + k < D.N := by omega
        clear hX hK2 hrs hGw9 hG hA11 hG11 hc64 hA2; unfold wpList; go_simp
        go_upto_region 7 with fail
        refine wp_region_cut (by kernel_rfl) [IsV (.pointer (some ⟨lg, 0, none⟩)), IsV (.pointer (some ⟨lg, 0, none⟩)), IsV (.pointer (some ⟨lg, 0, none⟩)), IsV (.pointer (some ⟨D.d, 0, none⟩)), IsV (.int .i64 ((s0 : Nat) : Int)), IsV (.int .i64 ((k : Nat) : Int)), IsV (.int .i64 ((s0 + k : Nat) : Int)), IsV (.agg (encS X).toArray)] 8 (by decide) (by kernel_rfl) (by kernel_rfl) (by kernel_rfl) ?_ ?_ ?_
        · intro φ hφ v w1 w2 h hg; simp only [List.mem_cons, List.not_mem_nil, or_false] at hφ; rcases hφ with rfl | rfl | rfl | rfl | rfl | rfl | rfl | rfl
          all_goals first | exact h | exact RdV.gr h hg
        · refine ⟨?_, ?_, ?_, ?_, ?_, ?_, ?_, ?_, trivial⟩
          · intro a1 w1 hG hF; exact s_old rfl (wants0 rfl) (.tmp 0) (.inr rfl) (.pointer (some ⟨lg, 0, none⟩)) (hF.ol 0 (by kernel_rfl)) rfl
          · intro a1 w1 hG hF; obtain ⟨_, e37, rfl⟩ := hF.dp 0 37 (by kernel_rfl); exact s_is rfl (wants0 rfl) _ rfl (run_nil e37)
          · intro a1 w1 hG hF; obtain ⟨_, e38, rfl⟩ := hF.dp 1 38 (by kernel_rfl); exact s_is rfl (wants0 rfl) _ rfl (run_fieldR (o := 0) (k := 0) Tryz.underlying101 rfl rfl (by kernel_rfl) e38)
          · intro a1 w1 hG hF; obtain ⟨_, e39, rfl⟩ := hF.dp 2 39 (by kernel_rfl); exact s_is rfl (wants0 rfl) _ rfl (run_load1B (.inr (.inr (.inr (.inr ⟨_, Tryz.underlying26⟩)))) e39 (Gr.cell ((Gr.drew w2).trans hG) cd2))
          · intro a1 w1 hG hF; exact s_old rfl (wants0 rfl) (.tmp 9) (.inr rfl) (.int .i64 ((s0 : Nat) : Int)) (hF.ol 9 (by kernel_rfl)) rfl
          · intro a1 w1 hG hF; exact s_old rfl (wants0 rfl) (.tmp 10) (.inr rfl) (.int .i64 ((k : Nat) : Int)) (hF.ol 10 (by kernel_rfl)) rfl
          · intro a1 w1 hG hF; obtain ⟨_, e41, rfl⟩ := hF.dp 4 41 (by kernel_rfl); obtain ⟨_, e42, rfl⟩ := hF.dp 5 42 (by kernel_rfl); exact s_is rfl (wants0 rfl) _ rfl (run_addN (a := s0) (b := k) e41 e42 (by omega))
          · intro a1 w1 hG hF; have e11 : a1.eval (.tmp 11) = .pointer (some ⟨g11, 0, none⟩) := hF.ol 11 (by kernel_rfl); exact s_wp rfl (wants0 rfl) (wp_load_mid _ _ rfl g11 0 e11 (encS X) _ (((Gr.drew w2).trans hG).range hr11) Tryz.underlying71 rfl (infoSec X) ⟨_, rfl, rfl, Gr.refl _⟩)
        · intro vs w8 hG hf; have z40 : vs 3 = .pointer (some ⟨D.d, 0, none⟩) := hf.2.2.2.1; have z43 : vs 6 = .int .i64 ((s0 + k : Nat) : Int) := hf.2.2.2.2.2.2.1; have z44 : vs 7 = .agg (encS X).toArray := hf.2.2.2.2.2.2.2.1; clear hf; simp only [List.take_succ_cons, List.take_zero, List.drop_succ_cons, List.drop_zero, putAll, Nat.zero_add, Nat.reduceAdd, z40, z43, z44]; have hG28 : Gr w2 w8 := (Gr.drew w2).trans hG; have hBs8 : w.heap.size ≤ w8.heap.size := Nat.le_trans hI.size (Nat.le_trans HGr2.out.size hG28.size); have HW := Lib.hid (kwrite_any (w := w8) (HD2.out.gr hG28) (at_ := s0 + k) hsk X hBs8 (by omega)); clear hG z40 z43 z44; unfold wpList; go_simp; refine .inl (HW.out.mono ?_); rintro e w3 ⟨A3, c3, rfl, hD3, hI3, hA3⟩
          have HREL : Hid (WrR D L s0 lo n b w.heap.size w (.int .i64 ((k + 1 : Nat) : Int)) w3) := Lib.hid (by
            refine ⟨k + 1, _, A3, c3, by omega, .inr (by rw [Nat.add_sub_cancel]; exact hlt), rfl, HLay.out.step hlk (by rw [HlL.out]; exact hsk), ?_, ?_, ?_⟩
            · rw [← HX.out, show k + 1 - lo = k - lo + 1 by omega]; exact hD3
            · refine (hI.gr (HGr2.out.trans hG28)).after hI3 fun i hi h => ?_; rcases h with h | h | ⟨ad, h1, h2⟩
              · exact .inl h
              · exact .inr h
              · have := hA ad h1; omega
            · intro ad e; rcases hA3 with h | h
              · exact hA ad (by rw [← h]; exact e)
              · exact Nat.le_trans hBs8 (h ad e))
          clear HW hD3 hI3 hA3 hI hA hG28 hl1 cd1 hb1 cd2 hr11; refine wpList_valW rfl (.int .i64 0) w3 (by simp only [execOp]; go_simp) ?_; unfold wpList; go_simp; go_wp2_with fail
          exact ⟨by rw [show (k : Int) + 1 = ((k + 1 : Nat) : Int) by omega]; exact HREL.out, by simp [intOf]; omega⟩
    · have hki : ¬ (k : Int) * 64 < (n : Int) := by omega
      have hk8 : k ≤ 8193 := by omega
      have HSy := Lib.hid (dsync_any HD.out); clear hb1
      go_wp2_with (go_at_call 58; refine HSy.out.mono ?_; rintro e w2 ⟨rfl, hD2, hI2⟩)
      go_ret
      obtain ⟨e1, e2, e3⟩ := HE.out; refine ⟨k, by omega, by omega, ?_, L', rfl, ?_, hD2, (hI.wide fun i h => h.elim .inl fun q => .inr (.inl q)).trans (hI2.wide fun i h => h.elim .inl fun q => .inr (.inr q))⟩
      · rw [← e3]; exact hk2
      · rw [← e1, ← e2, ← e3]; exact HLay.out
end
end Go.Proofs.YtjpphldojbfpfaaGreatDoor
