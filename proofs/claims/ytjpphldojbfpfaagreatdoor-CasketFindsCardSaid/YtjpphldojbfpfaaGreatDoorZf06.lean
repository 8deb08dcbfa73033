/- Texts of one proof, laid as one: part 6. No condition. -/
import Derived.Deep.Cut
import Derived.Shelf.SlSortCmp.WholeK
import Derived.BigQuiet
import Derived.Deep.CutBlock
import Derived.Test.YtjpphldojbfpfaaGreatDoorProg
import Derived.Test.YtjpphldojbfpfaaGreatDoorZf01
import Derived.Test.YtjpphldojbfpfaaGreatDoorZf02
import Derived.Test.YtjpphldojbfpfaaGreatDoorZf03
import Derived.Test.YtjpphldojbfpfaaGreatDoorZf05
namespace Go.Proofs.YtjpphldojbfpfaaGreatDoor
open Go.RowKit
theorem run_fieldR {P : Program} {ev : Operand → Value} {d : Option Tmp} {t T : TypeId} {s : String} {af : Array Edge} {gd : Option (Nat × Bool)} {w : World} {x : Operand} {g q i o k : Nat} {fs : Array Field} {f : Field} (hT : P.underlying T = some (.struct fs)) (hf : fs[i]? = some f) (ho : f.offset = o)
    (hsz : (P.info? f.type).map (·.size) = some (k + 1)) (h1 : ev x = .pointer (some ⟨g, q, none⟩)) :
    (execOp ev ⟨d, .fieldAddr T x i, t, s, af, gd⟩).run P w = .ok (.value (.pointer (some ⟨g, q + o, none⟩))) w := by
  subst ho
  have hs : (sizeOf f.type).run P w = .ok (k + 1) w := by
    cases hq : P.info? f.type with
    | none => simp [hq] at hsz
    | some ti =>
      have h2 : ti.size = k + 1 := by simpa [hq] using hsz
      simp [sizeOf, typeInfo, hq, h2]
  simp [execOp, h1, Instr.fieldAt, Instr.sureAddr, run_underlying hT, hf, fieldPlace, hs, add_row]
def cmpZ (a b : Int) : Int := if a < b then -1 else if b < a then 1 else 0
set_option maxHeartbeats 1000000 in
theorem nanI (a : Int) (w : World) : Calls Tryz.prog 142 #[.int .i64 a] w fun e w' => e = .returned (.bool false) ∧ w = w' := by
  go_enter Tryz.func142, Tryz.ntmps142
  go_wp2_with fail
  go_ret
  exact ⟨rfl, rfl⟩
set_option maxHeartbeats 2000000 in
theorem cmpI_any (a b : Int) (w : World) : Calls Tryz.prog 112 #[.int .i64 a, .int .i64 b] w fun e w' => e = .returned (.int .i64 (cmpZ a b)) ∧ w = w' := by
  have HN := Lib.hid nanI; unfold cmpZ
  by_cases h1 : a < b
  · rw [if_pos h1]
    go_enter Tryz.func112, Tryz.ntmps112
    go_wp2_with fail
    refine (HN.out a w).mono ?_; rintro e _ ⟨rfl, rfl⟩; go_wp2_with fail
    refine (HN.out b w).mono ?_; rintro e _ ⟨rfl, rfl⟩; go_wp2_with fail
    go_ret
    exact ⟨rfl, rfl⟩
  · rw [if_neg h1]
    by_cases h2 : b < a
    · rw [if_pos h2]
      go_enter Tryz.func112, Tryz.ntmps112
      go_wp2_with fail
      refine (HN.out a w).mono ?_; rintro e _ ⟨rfl, rfl⟩; go_wp2_with fail
      refine (HN.out b w).mono ?_; rintro e _ ⟨rfl, rfl⟩; go_wp2_with fail
      go_ret
      exact ⟨rfl, rfl⟩
    · rw [if_neg h2]
      go_enter Tryz.func112, Tryz.ntmps112
      go_wp2_with fail
      refine (HN.out a w).mono ?_; rintro e _ ⟨rfl, rfl⟩; go_wp2_with fail
      refine (HN.out b w).mono ?_; rintro e _ ⟨rfl, rfl⟩; go_wp2_with fail
      go_ret
      exact ⟨rfl, rfl⟩
def or2 (a b : Int) : Int := if a ≠ 0 then a else b
def Row2 (a b : Int) : Value → World → Prop := fun v w => ∃ g, v = .slice (some ⟨g, 0, none⟩) 2 2 ∧ Arr w g 3 [.int .i64 a, .int .i64 b]
theorem Row2.gr {a b : Int} {v : Value} {w w' : World} (h : Row2 a b v w) (hG : Gr w w') : Row2 a b v w' := by
  obtain ⟨g, e, h⟩ := h; exact ⟨g, e, h.gr hG⟩
def Or2R (a b : Int) (w : World) (i : Value) (wr : World) : Prop := ∃ k : Nat, k ≤ 2 ∧ i = .int .i64 (k : Int) ∧ (0 < k → a = 0) ∧ (1 < k → b = 0) ∧ w = wr
set_option maxHeartbeats 4000000 in
theorem or2_any {g : Nat} {a b : Int} {w : World} (h : Arr w g 3 [.int .i64 a, .int .i64 b]) : Calls Tryz.prog 111 #[.slice (some ⟨g, 0, none⟩) 2 2] w fun e w' => e = .returned (.int .i64 (or2 a b)) ∧ w = w' := by
  have c0 := h.cell (i := 0) (v := .int .i64 a) rfl; have c1 := h.cell (i := 1) (v := .int .i64 b) rfl; obtain ⟨r, hr⟩ : ∃ r, r = or2 a b := ⟨_, rfl⟩; rw [← hr]; have HR := Lib.hid hr; clear hr
  go_enter Tryz.func111, Tryz.ntmps111
  go_wp2_with fail
  go_simp
  go_loopw [8] (fun i wr => Or2R a b w i wr) (fun i _ => 2 - (intOf i).toNat)
  case atStart => exact ⟨0, by omega, rfl, fun h => by omega, fun h => by omega, rfl⟩
  case round =>
    obtain ⟨k, hk, rfl, ha, hb, rfl⟩ := hrel; have h4 : k = 0 ∨ k = 1 ∨ k = 2 := by omega
    rcases h4 with rfl | rfl | rfl
    · by_cases hz : a = 0
      · have hzb : (a == 0) = true := by rw [hz]; rfl
        go_wp2_with fail
        exact ⟨⟨1, by omega, by go_num, fun _ => hz, fun h => by omega, rfl⟩, by simp [intOf]⟩
      · have hzb : (a == 0) = false := beq_false_of_ne hz; have hre : r = a := by rw [HR.out, or2, if_pos hz]
        subst hre; go_wp2_with fail
        go_ret
        exact ⟨rfl, rfl⟩
    · have ha0 := ha (by omega)
      by_cases hz : b = 0
      · have hzb : (b == 0) = true := by rw [hz]; rfl
        go_wp2_with fail
        exact ⟨⟨2, by omega, by go_num, fun _ => ha0, fun _ => hz, rfl⟩, by simp [intOf]⟩
      · have hzb : (b == 0) = false := beq_false_of_ne hz; have hre : r = b := by rw [HR.out, or2, if_neg (by simpa using ha0)]
        subst hre; go_wp2_with fail
        go_ret
        exact ⟨rfl, rfl⟩
    · have hre : r = 0 := by rw [HR.out, or2, if_neg (by simpa using ha (by omega)), hb (by omega)]
      subst hre; go_wp2_with fail
      go_ret
      exact ⟨rfl, rfl⟩
theorem run_build2I {ev : Operand → Value} {d : Option Tmp} {t : TypeId} {p : String} {af : Array Edge} {gd : Option (Nat × Bool)} {w : World} {x y : Operand} {a b : Int} (h1 : ev x = .int .i64 a) (h2 : ev y = .int .i64 b) :
    (execOp ev ⟨d, .buildSlice 22 2 #[(0, x), (1, y)], t, p, af, gd⟩).run Tryz.prog w = .ok (.value (.slice (some ⟨w.heap.size, 0, none⟩) 2 2)) (w.alloc (.cells #[.int .i64 a, .int .i64 b] 3)) := by
  simp only [execOp, List.map_toArray, List.map_cons, List.map_nil, h1, h2]; go_simp
set_option maxRecDepth 100000 in
set_option maxHeartbeats 8000000 in
theorem ordD_any (a b x y : Int)  (w : World) : Calls Tryz.prog 156 #[.agg ([.int .i64 a, .int .i64 b] : List Value).toArray, .agg ([.int .i64 x, .int .i64 y] : List Value).toArray] w fun e w' => e = .returned (.int .i64 (or2 (cmpZ a x) (cmpZ b y))) ∧ GG w w' := by
  have h2 : Arr (w.alloc (.cells ([.int .i64 a, .int .i64 b] : List Value).toArray 38)) w.heap.size 38 [.int .i64 a, .int .i64 b] := Arr.newAt rfl rfl; obtain ⟨wa, hwa⟩ : ∃ wa, wa = w.alloc (.cells ([.int .i64 a, .int .i64 b] : List Value).toArray 38) := ⟨_, rfl⟩; have ga : GG w wa := by rw [hwa]; exact GG.alloc _ _
  rw [← hwa] at h2; have h3 : Arr (wa.alloc (.cells ([.int .i64 x, .int .i64 y] : List Value).toArray 38)) wa.heap.size 38 [.int .i64 x, .int .i64 y] := Arr.newAt rfl rfl; have h23 := h2.gr (Gr.alloc wa (.cells ([.int .i64 x, .int .i64 y] : List Value).toArray 38)); have gb : GG w (wa.alloc (.cells ([.int .i64 x, .int .i64 y] : List Value).toArray 38)) := ga.trans (GG.alloc _ _); have HI := Lib.hid cmpI_any; have hsz : wa.heap.size = w.heap.size + 1 := by rw [hwa]; exact Array.size_push _
  rw [hsz] at h3; clear hsz; subst hwa; have a0 := h23.cell (i := 0) (v := .int .i64 a) rfl; have a1c := h23.cell (i := 1) (v := .int .i64 b) rfl; have b0 := h3.cell (i := 0) (v := .int .i64 x) rfl; have b1 := h3.cell (i := 1) (v := .int .i64 y) rfl; clear h2 ga
  go_enter Tryz.func156, Tryz.ntmps156
  go_upto_region 1 with fail
  change Code.wp _ _ _ _ ((w.alloc (.cells ([.int .i64 a, .int .i64 b] : List Value).toArray 38)).alloc (.cells ([.int .i64 x, .int .i64 y] : List Value).toArray 38)); generalize (w.alloc (.cells ([.int .i64 a, .int .i64 b] : List Value).toArray 38)).alloc (.cells ([.int .i64 x, .int .i64 y] : List Value).toArray 38) = w0 at h3 h23 gb a0 a1c b0 b1 ⊢; generalize w.heap.size + 1 = g3 at h3 b0 b1 ⊢; generalize w.heap.size = g2 at h23 a0 a1c ⊢; refine wp_region_cutG GG GG.refl (fun _ _ _ => GG.trans) (by kernel_rfl) [IsV (.pointer (some ⟨g2, 0, none⟩)), IsV (.int .i64 a), IsV (.pointer (some ⟨g3, 0, none⟩)), IsV (.int .i64 x), IsV (.int .i64 (cmpZ a x)), IsV (.pointer (some ⟨g2, 1, none⟩)), IsV (.int .i64 b), IsV (.pointer (some ⟨g3, 1, none⟩)), IsV (.int .i64 y), IsV (.int .i64 (cmpZ b y)), Row2 (cmpZ a x) (cmpZ b y)] 11 (by decide) (by kernel_rfl) (by kernel_rfl) (by kernel_rfl) ?_ ?_ ?_
  · intro φ hφ v w1 w2 h hg; simp only [List.mem_cons, List.not_mem_nil, or_false] at hφ; rcases hφ with rfl | rfl | rfl | rfl | rfl | rfl | rfl | rfl | rfl | rfl | rfl
    all_goals first | exact h | exact Row2.gr h (GG.gr hg)
  · refine ⟨?_, ?_, ?_, ?_, ?_, ?_, ?_, ?_, ?_, ?_, ?_, trivial⟩
    · intro a1 w1 hG hF; have hG := GG.gr hG; have e2 : a1.eval (.tmp 2) = .pointer (some ⟨g2, 0, none⟩) := hF.ol 2 (by kernel_rfl); exact gg_val rfl rfl _ _ (run_fieldR (o := 0) (k := 0) Tryz.underlying38 rfl rfl (by kernel_rfl) e2) rfl (GG.refl _)
    · intro a1 w1 hG hF; have hG := GG.gr hG; obtain ⟨_, e5, rfl⟩ := hF.dp 0 5 (by kernel_rfl); exact gg_val rfl rfl _ _ (run_load1 Tryz.underlying3 e5 (Gr.cell ((Gr.drew w0).trans hG) a0)) rfl (GG.refl _)
    · intro a1 w1 hG hF; have hG := GG.gr hG; have e3 : a1.eval (.tmp 3) = .pointer (some ⟨g3, 0, none⟩) := hF.ol 3 (by kernel_rfl); exact gg_val rfl rfl _ _ (run_fieldR (o := 0) (k := 0) Tryz.underlying38 rfl rfl (by kernel_rfl) e3) rfl (GG.refl _)
    · intro a1 w1 hG hF; have hG := GG.gr hG; obtain ⟨_, e7, rfl⟩ := hF.dp 2 7 (by kernel_rfl); exact gg_val rfl rfl _ _ (run_load1 Tryz.underlying3 e7 (Gr.cell ((Gr.drew w0).trans hG) b0)) rfl (GG.refl _)
    · intro a1 w1 hG hF; have hG := GG.gr hG; obtain ⟨_, e6, rfl⟩ := hF.dp 1 6 (by kernel_rfl); obtain ⟨_, e8, rfl⟩ := hF.dp 3 8 (by kernel_rfl); exact gg_call rfl rfl _ _ (by simp only [execOp, resolve, invoke, List.map_toArray, List.map_cons, List.map_nil, e6, e8]; go_simp) _ (HI.out a x w1) rfl (GG.refl _)
    · intro a1 w1 hG hF; have hG := GG.gr hG; have e2 : a1.eval (.tmp 2) = .pointer (some ⟨g2, 0, none⟩) := hF.ol 2 (by kernel_rfl); exact gg_val rfl rfl _ _ (run_fieldR (o := 1) (k := 0) Tryz.underlying38 rfl rfl (by kernel_rfl) e2) rfl (GG.refl _)
    · intro a1 w1 hG hF; have hG := GG.gr hG; obtain ⟨_, e10, rfl⟩ := hF.dp 5 10 (by kernel_rfl); exact gg_val rfl rfl _ _ (run_load1 Tryz.underlying3 e10 (Gr.cell ((Gr.drew w0).trans hG) a1c)) rfl (GG.refl _)
    · intro a1 w1 hG hF; have hG := GG.gr hG; have e3 : a1.eval (.tmp 3) = .pointer (some ⟨g3, 0, none⟩) := hF.ol 3 (by kernel_rfl); exact gg_val rfl rfl _ _ (run_fieldR (o := 1) (k := 0) Tryz.underlying38 rfl rfl (by kernel_rfl) e3) rfl (GG.refl _)
    · intro a1 w1 hG hF; have hG := GG.gr hG; obtain ⟨_, e12, rfl⟩ := hF.dp 7 12 (by kernel_rfl); exact gg_val rfl rfl _ _ (run_load1 Tryz.underlying3 e12 (Gr.cell ((Gr.drew w0).trans hG) b1)) rfl (GG.refl _)
    · intro a1 w1 hG hF; have hG := GG.gr hG; obtain ⟨_, e11, rfl⟩ := hF.dp 6 11 (by kernel_rfl); obtain ⟨_, e13, rfl⟩ := hF.dp 8 13 (by kernel_rfl); exact gg_call rfl rfl _ _ (by simp only [execOp, resolve, invoke, List.map_toArray, List.map_cons, List.map_nil, e11, e13]; go_simp) _ (HI.out b y w1) rfl (GG.refl _)
    · intro a1 w1 hG hF; have hG := GG.gr hG; obtain ⟨_, e9, rfl⟩ := hF.dp 4 9 (by kernel_rfl); obtain ⟨_, e14, rfl⟩ := hF.dp 9 14 (by kernel_rfl); exact gg_val rfl rfl (.slice (some ⟨w1.heap.size, 0, none⟩) 2 2) (w1.alloc (.cells #[.int .i64 (cmpZ a x), .int .i64 (cmpZ b y)] 3)) (run_build2I e9 e14) ⟨_, rfl, Arr.newAt rfl rfl⟩ (GG.alloc _ _)
  · intro vs w1 hG hf; have yB : (Row2 (cmpZ a x) (cmpZ b y)) (vs 10) w1 := hf.2.2.2.2.2.2.2.2.2.2.1; clear hf; simp only [List.take_succ_cons, List.take_zero, List.drop_succ_cons, List.drop_zero, putAll, Nat.zero_add, Nat.reduceAdd]; have gF := (gb.trans (GG.drew _)).trans hG; obtain ⟨gr, hy, hA⟩ := yB; rw [hy]; unfold wpList; go_simp; refine .inl ?_; refine (or2_any hA).mono ?_; rintro e _ ⟨rfl, rfl⟩; go_simp; go_wp2_with fail
    go_ret
    exact ⟨rfl, gF⟩
set_option maxRecDepth 100000 in
set_option maxHeartbeats 8000000 in
theorem ordB_any (a b x y : Int) (xs ys : List Value) (hx0 : xs[0]? = some (.int .i64 a)) (hx1 : xs[1]? = some (.int .i64 b)) (hy0 : ys[0]? = some (.int .i64 x)) (hy1 : ys[1]? = some (.int .i64 y)) (w : World) : Calls Tryz.prog 62 #[.agg (xs : List Value).toArray, .agg (ys : List Value).toArray] w fun e w' => e = .returned (.int .i64 (or2 (cmpZ a x) (cmpZ b y))) ∧ GG w w' := by
  have h2 : Arr (w.alloc (.cells (xs : List Value).toArray 45)) w.heap.size 45 xs := Arr.newAt rfl rfl; obtain ⟨wa, hwa⟩ : ∃ wa, wa = w.alloc (.cells (xs : List Value).toArray 45) := ⟨_, rfl⟩; have ga : GG w wa := by rw [hwa]; exact GG.alloc _ _
  rw [← hwa] at h2; have h3 : Arr (wa.alloc (.cells (ys : List Value).toArray 45)) wa.heap.size 45 ys := Arr.newAt rfl rfl; have h23 := h2.gr (Gr.alloc wa (.cells (ys : List Value).toArray 45)); have gb : GG w (wa.alloc (.cells (ys : List Value).toArray 45)) := ga.trans (GG.alloc _ _); have HI := Lib.hid cmpI_any; have hsz : wa.heap.size = w.heap.size + 1 := by rw [hwa]; exact Array.size_push _
  rw [hsz] at h3; clear hsz; subst hwa; have a0 := h23.cell (i := 0) (v := .int .i64 a) hx0; have a1c := h23.cell (i := 1) (v := .int .i64 b) hx1; have b0 := h3.cell (i := 0) (v := .int .i64 x) hy0; have b1 := h3.cell (i := 1) (v := .int .i64 y) hy1; clear h2 ga
  go_enter Tryz.func62, Tryz.ntmps62
  go_upto_region 1 with fail
  change Code.wp _ _ _ _ ((w.alloc (.cells (xs : List Value).toArray 45)).alloc (.cells (ys : List Value).toArray 45)); generalize (w.alloc (.cells (xs : List Value).toArray 45)).alloc (.cells (ys : List Value).toArray 45) = w0 at h3 h23 gb a0 a1c b0 b1 ⊢; generalize w.heap.size + 1 = g3 at h3 b0 b1 ⊢; generalize w.heap.size = g2 at h23 a0 a1c ⊢; refine wp_region_cutG GG GG.refl (fun _ _ _ => GG.trans) (by kernel_rfl) [IsV (.pointer (some ⟨g2, 0, none⟩)), IsV (.pointer (some ⟨g2, 0, none⟩)), IsV (.int .i64 a), IsV (.pointer (some ⟨g3, 0, none⟩)), IsV (.pointer (some ⟨g3, 0, none⟩)), IsV (.int .i64 x), IsV (.int .i64 (cmpZ a x)), IsV (.pointer (some ⟨g2, 0, none⟩)), IsV (.pointer (some ⟨g2, 1, none⟩)), IsV (.int .i64 b), IsV (.pointer (some ⟨g3, 0, none⟩)), IsV (.pointer (some ⟨g3, 1, none⟩)), IsV (.int .i64 y), IsV (.int .i64 (cmpZ b y)), Row2 (cmpZ a x) (cmpZ b y)] 15 (by decide) (by kernel_rfl) (by kernel_rfl) (by kernel_rfl) ?_ ?_ ?_
  · intro φ hφ v w1 w2 h hg; simp only [List.mem_cons, List.not_mem_nil, or_false] at hφ; rcases hφ with rfl | rfl | rfl | rfl | rfl | rfl | rfl | rfl | rfl | rfl | rfl | rfl | rfl | rfl | rfl
    all_goals first | exact h | exact Row2.gr h (GG.gr hg)
  · refine ⟨?_, ?_, ?_, ?_, ?_, ?_, ?_, ?_, ?_, ?_, ?_, ?_, ?_, ?_, ?_, trivial⟩
    · intro a1 w1 hG hF; have hG := GG.gr hG; have e2 : a1.eval (.tmp 2) = .pointer (some ⟨g2, 0, none⟩) := hF.ol 2 (by kernel_rfl); exact gg_val rfl rfl _ _ (run_fieldR (o := 0) (k := 1) Tryz.underlying45 rfl rfl (by kernel_rfl) e2) rfl (GG.refl _)
    · intro a1 w1 hG hF; have hG := GG.gr hG; obtain ⟨_, e5, rfl⟩ := hF.dp 0 5 (by kernel_rfl); exact gg_val rfl rfl _ _ (run_fieldR (o := 0) (k := 0) Tryz.underlying38 rfl rfl (by kernel_rfl) e5) rfl (GG.refl _)
    · intro a1 w1 hG hF; have hG := GG.gr hG; obtain ⟨_, e6, rfl⟩ := hF.dp 1 6 (by kernel_rfl); exact gg_val rfl rfl _ _ (run_load1 Tryz.underlying3 e6 (Gr.cell ((Gr.drew w0).trans hG) a0)) rfl (GG.refl _)
    · intro a1 w1 hG hF; have hG := GG.gr hG; have e3 : a1.eval (.tmp 3) = .pointer (some ⟨g3, 0, none⟩) := hF.ol 3 (by kernel_rfl); exact gg_val rfl rfl _ _ (run_fieldR (o := 0) (k := 1) Tryz.underlying45 rfl rfl (by kernel_rfl) e3) rfl (GG.refl _)
    · intro a1 w1 hG hF; have hG := GG.gr hG; obtain ⟨_, e8, rfl⟩ := hF.dp 3 8 (by kernel_rfl); exact gg_val rfl rfl _ _ (run_fieldR (o := 0) (k := 0) Tryz.underlying38 rfl rfl (by kernel_rfl) e8) rfl (GG.refl _)
    · intro a1 w1 hG hF; have hG := GG.gr hG; obtain ⟨_, e9, rfl⟩ := hF.dp 4 9 (by kernel_rfl); exact gg_val rfl rfl _ _ (run_load1 Tryz.underlying3 e9 (Gr.cell ((Gr.drew w0).trans hG) b0)) rfl (GG.refl _)
    · intro a1 w1 hG hF; have hG := GG.gr hG; obtain ⟨_, e7, rfl⟩ := hF.dp 2 7 (by kernel_rfl); obtain ⟨_, e10, rfl⟩ := hF.dp 5 10 (by kernel_rfl); exact gg_call rfl rfl _ _ (by simp only [execOp, resolve, invoke, List.map_toArray, List.map_cons, List.map_nil, e7, e10]; go_simp) _ (HI.out a x w1) rfl (GG.refl _)
    · intro a1 w1 hG hF; have hG := GG.gr hG; have e2 : a1.eval (.tmp 2) = .pointer (some ⟨g2, 0, none⟩) := hF.ol 2 (by kernel_rfl); exact gg_val rfl rfl _ _ (run_fieldR (o := 0) (k := 1) Tryz.underlying45 rfl rfl (by kernel_rfl) e2) rfl (GG.refl _)
    · intro a1 w1 hG hF; have hG := GG.gr hG; obtain ⟨_, e12, rfl⟩ := hF.dp 7 12 (by kernel_rfl); exact gg_val rfl rfl _ _ (run_fieldR (o := 1) (k := 0) Tryz.underlying38 rfl rfl (by kernel_rfl) e12) rfl (GG.refl _)
    · intro a1 w1 hG hF; have hG := GG.gr hG; obtain ⟨_, e13, rfl⟩ := hF.dp 8 13 (by kernel_rfl); exact gg_val rfl rfl _ _ (run_load1 Tryz.underlying3 e13 (Gr.cell ((Gr.drew w0).trans hG) a1c)) rfl (GG.refl _)
    · intro a1 w1 hG hF; have hG := GG.gr hG; have e3 : a1.eval (.tmp 3) = .pointer (some ⟨g3, 0, none⟩) := hF.ol 3 (by kernel_rfl); exact gg_val rfl rfl _ _ (run_fieldR (o := 0) (k := 1) Tryz.underlying45 rfl rfl (by kernel_rfl) e3) rfl (GG.refl _)
    · intro a1 w1 hG hF; have hG := GG.gr hG; obtain ⟨_, e15, rfl⟩ := hF.dp 10 15 (by kernel_rfl); exact gg_val rfl rfl _ _ (run_fieldR (o := 1) (k := 0) Tryz.underlying38 rfl rfl (by kernel_rfl) e15) rfl (GG.refl _)
    · intro a1 w1 hG hF; have hG := GG.gr hG; obtain ⟨_, e16, rfl⟩ := hF.dp 11 16 (by kernel_rfl); exact gg_val rfl rfl _ _ (run_load1 Tryz.underlying3 e16 (Gr.cell ((Gr.drew w0).trans hG) b1)) rfl (GG.refl _)
    · intro a1 w1 hG hF; have hG := GG.gr hG; obtain ⟨_, e14, rfl⟩ := hF.dp 9 14 (by kernel_rfl); obtain ⟨_, e17, rfl⟩ := hF.dp 12 17 (by kernel_rfl); exact gg_call rfl rfl _ _ (by simp only [execOp, resolve, invoke, List.map_toArray, List.map_cons, List.map_nil, e14, e17]; go_simp) _ (HI.out b y w1) rfl (GG.refl _)
    · intro a1 w1 hG hF; have hG := GG.gr hG; obtain ⟨_, e11, rfl⟩ := hF.dp 6 11 (by kernel_rfl); obtain ⟨_, e18, rfl⟩ := hF.dp 13 18 (by kernel_rfl); exact gg_val rfl rfl (.slice (some ⟨w1.heap.size, 0, none⟩) 2 2) (w1.alloc (.cells #[.int .i64 (cmpZ a x), .int .i64 (cmpZ b y)] 3)) (run_build2I e11 e18) ⟨_, rfl, Arr.newAt rfl rfl⟩ (GG.alloc _ _)
  · intro vs w1 hG hf; have yB : (Row2 (cmpZ a x) (cmpZ b y)) (vs 14) w1 := hf.2.2.2.2.2.2.2.2.2.2.2.2.2.2.1; clear hf; simp only [List.take_succ_cons, List.take_zero, List.drop_succ_cons, List.drop_zero, putAll, Nat.zero_add, Nat.reduceAdd]; have gF := (gb.trans (GG.drew _)).trans hG; obtain ⟨gr, hy, hA⟩ := yB; rw [hy]; unfold wpList; go_simp; refine .inl ?_; refine (or2_any hA).mono ?_; rintro e _ ⟨rfl, rfl⟩; go_simp; go_wp2_with fail
    go_ret
    exact ⟨rfl, gF⟩
end Go.Proofs.YtjpphldojbfpfaaGreatDoor
namespace Go.Proofs.YtjpphldojbfpfaaGreatDoor
open Go.Shelf
def DotSort_ren : Go.Shelf.Ren := ⟨fun | 6 => 188 | 15 => 149 | 14 => 193 | 28 => 165 | 29 => 166 | 20 => 194 | 21 => 195 | 22 => 196 | 23 => 197 | 24 => 198 | 25 => 199 | 26 => 200 | 27 => 201 | 46 => 202 | 47 => 180 | 48 => 181 | 49 => 203 | 50 => 204 | 57 => 205 | n => n, fun | 22 => 40 | 24 => 38 | 25 => 229 | 3 => 3 | 39 => 118 | 0 => 0 | 53 => 119 | 55 => 34 | 4 => 4 | 46 => 232 | 45 => 231 | 50 => 197 | 5 => 5 | 9 => 9 | 66 => 250 | 70 => 248 | 76 => 259 | 77 => 260 | n => n, fun | n => n⟩
theorem DotSort : Go.Proofs.SlLaysF0.n6 Tryz.prog DotSort_ren := {
  mixed := by kernel_rfl
  f6 := ⟨Tryz.f188.name, by decide, Tryz.func188.trans (congrArg some (by kernel_rfl))⟩
  f14 := ⟨Tryz.f193.name, by decide, Tryz.func193.trans (congrArg some (by kernel_rfl))⟩
  f15 := Tryz.func149.trans (congrArg some (by kernel_rfl))
  f20 := ⟨Tryz.f194.name, by decide, Tryz.func194.trans (congrArg some (by kernel_rfl))⟩
  f21 := ⟨Tryz.f195.name, by decide, Tryz.func195.trans (congrArg some (by kernel_rfl))⟩
  f22 := ⟨Tryz.f196.name, by decide, Tryz.func196.trans (congrArg some (by kernel_rfl))⟩
  f23 := ⟨Tryz.f197.name, by decide, Tryz.func197.trans (congrArg some (by kernel_rfl))⟩
  f24 := ⟨Tryz.f198.name, by decide, Tryz.func198.trans (congrArg some (by kernel_rfl))⟩
  f25 := ⟨Tryz.f199.name, by decide, Tryz.func199.trans (congrArg some (by kernel_rfl))⟩
  f26 := ⟨Tryz.f200.name, by decide, Tryz.func200.trans (congrArg some (by kernel_rfl))⟩
  f27 := ⟨Tryz.f201.name, by decide, Tryz.func201.trans (congrArg some (by kernel_rfl))⟩
  f28 := Tryz.func165.trans (congrArg some (by kernel_rfl))
  f29 := Tryz.func166.trans (congrArg some (by kernel_rfl))
  f46 := ⟨Tryz.f202.name, by decide, Tryz.func202.trans (congrArg some (by kernel_rfl))⟩
  f47 := Tryz.func180.trans (congrArg some (by kernel_rfl))
  f48 := Tryz.func181.trans (congrArg some (by kernel_rfl))
  f49 := ⟨Tryz.f203.name, by decide, Tryz.func203.trans (congrArg some (by kernel_rfl))⟩
  f50 := ⟨Tryz.f204.name, by decide, Tryz.func204.trans (congrArg some (by kernel_rfl))⟩
  f57 := ⟨Tryz.f205.name, by decide, Tryz.func205.trans (congrArg some (by kernel_rfl))⟩
  t0 := Tryz.underlying0
  a0 := Tryz.isAgg0
  z0 := Tryz.sizeOf0
  v0 := Tryz.zeroValue0
  t3 := Tryz.underlying3
  a3 := Tryz.isAgg3
  z3 := Tryz.sizeOf3
  v3 := Tryz.zeroValue3
  t4 := Tryz.underlying4
  a4 := Tryz.isAgg4
  z4 := Tryz.sizeOf4
  v4 := Tryz.zeroValue4
  t5 := Tryz.underlying5
  a5 := Tryz.isAgg5
  z5 := Tryz.sizeOf5
  v5 := Tryz.zeroValue5
  t9 := Tryz.underlying9
  a9 := Tryz.isAgg9
  z9 := Tryz.sizeOf9
  v9 := Tryz.zeroValue9
  t22 := Tryz.underlying40
  a22 := Tryz.isAgg40
  z22 := Tryz.sizeOf40
  v22 := Tryz.zeroValue40
  t25 := Tryz.underlying229
  a25 := Tryz.isAgg229
  z25 := Tryz.sizeOf229
  v25 := Tryz.zeroValue229
  t39 := Tryz.underlying118
  a39 := Tryz.isAgg118
  z39 := Tryz.sizeOf118
  v39 := Tryz.zeroValue118
  t45 := Tryz.underlying231
  a45 := Tryz.isAgg231
  z45 := Tryz.sizeOf231
  v45 := Tryz.zeroValue231
  t46 := Tryz.underlying232
  a46 := Tryz.isAgg232
  z46 := Tryz.sizeOf232
  v46 := Tryz.zeroValue232
  t50 := Tryz.underlying197
  a50 := Tryz.isAgg197
  z50 := Tryz.sizeOf197
  v50 := Tryz.zeroValue197
  t53 := Tryz.underlying119
  a53 := Tryz.isAgg119
  z53 := Tryz.sizeOf119
  v53 := Tryz.zeroValue119
  t55 := Tryz.underlying34
  a55 := Tryz.isAgg34
  z55 := Tryz.sizeOf34
  v55 := Tryz.zeroValue34
  t66 := Tryz.underlying250
  a66 := Tryz.isAgg250
  z66 := Tryz.sizeOf250
  v66 := Tryz.zeroValue250
  t70 := Tryz.underlying248
  a70 := Tryz.isAgg248
  z70 := Tryz.sizeOf248
  v70 := Tryz.zeroValue248
  t76 := Tryz.underlying259
  a76 := Tryz.isAgg259
  z76 := Tryz.sizeOf259
  v76 := Tryz.zeroValue259
  t77 := Tryz.underlying260
  a77 := Tryz.isAgg260
  z77 := Tryz.sizeOf260
  v77 := Tryz.zeroValue260 }
end Go.Proofs.YtjpphldojbfpfaaGreatDoor
namespace Go.Proofs.YtjpphldojbfpfaaGreatDoor
open Go.RowKit
def encD (d : DotM) : List Value := [.int .i64 (d.1 : Int), .int .i64 (d.2 : Int)]
theorem encD_length (d : DotM) : (encD d).length = 2 := rfl
theorem encD_one (d : DotM) : ∀ v ∈ encD d, v.oneCell' = true := by
  intro v hv; simp only [encD, List.mem_cons, List.not_mem_nil, or_false] at hv; rcases hv with rfl | rfl <;> rfl
def DotsR (w : World) (A : Option Addr) (n : Nat) (L : List DotM) : Prop := L.length = n ∧ ∀ i d, L[i]? = some d → ∃ b o, A = some ⟨b, o, none⟩ ∧ w.rangeAt b (o + i * 2) (encD d)
theorem DotsR.gr {w w' : World} {A : Option Addr} {n : Nat} {L : List DotM} (h : DotsR w A n L) (hG : Gr w w') : DotsR w' A n L :=
  ⟨h.1, fun i x hx => by
    obtain ⟨b, o, e, hr⟩ := h.2 i x hx; exact ⟨b, o, e, fun j u hu => (Below.cell hG (lt_of_cell (hr j u hu))).trans (hr j u hu)⟩⟩
theorem DotsR.nil (w : World) (A : Option Addr) : DotsR w A 0 [] := ⟨rfl, fun i d h => by simp at h⟩
theorem flat_at {α : Type} {enc : α → List Value} {k : Nat} (hk : ∀ x, (enc x).length = k) {L : List α} {i j : Nat} {x : α} {u : Value} (hx : L[i]? = some x) (hu : (enc x)[j]? = some u) : (L.flatMap enc)[i * k + j]? = some u := by
  have hj : j < k := by
    have := (List.getElem?_eq_some_iff.1 hu).1
    rwa [hk] at this
  rw [flat_get hk L i j hj, hx]; exact hu
theorem dots_own {w : World} {B : Nat} {e : TypeId} {A : Option Addr} {n c : Nat} {L : List DotM} (h : w.ownsRow B e 2 (.slice A n c) n (L.flatMap encD)) (hl : L.length = n) : DotsR w A n L := by
  refine ⟨hl, fun i x hx => ?_⟩; have hi := (List.getElem?_eq_some_iff.1 hx).1; rcases h.2 with ⟨_, e2⟩ | ⟨g, cap, cur, e1, _⟩
  · omega
  · injection e1 with e1
    subst e1; refine ⟨g, 0, rfl, fun j u hu => ?_⟩; have := h.cells (g := g) rfl (i * 2 + j) u (flat_at encD_length hx hu); rw [add_row] at this; rw [Nat.zero_add]; rw [Nat.zero_add] at this; exact this
def cfD (p q : DotM) : Int := or2 (cmpZ (p.1 : Int) (q.1 : Int)) (cmpZ (p.2 : Int) (q.2 : Int))
theorem cfD_lt (p q : DotM) : cfD p q < 0 ↔ dLt p q := by
  obtain ⟨a, b⟩ := p; obtain ⟨x, y⟩ := q; unfold cfD or2 cmpZ dLt; simp only
  rcases Nat.lt_trichotomy a x with h1 | h1 | h1 <;> rcases Nat.lt_trichotomy b y with h2 | h2 | h2 <;>
    (have i1 : (a : Int) < x ↔ a < x := Int.ofNat_lt) <;> (have i2 : (x : Int) < a ↔ x < a := Int.ofNat_lt) <;> (have i3 : (b : Int) < y ↔ b < y := Int.ofNat_lt) <;> (have i4 : (y : Int) < b ↔ y < b := Int.ofNat_lt) <;>
    simp only [i1, i2, i3, i4] <;> (repeat' split) <;> omega
theorem ltD (p q : DotM) : ltOf cfD p q = decide (dLt p q) := by
  unfold ltOf; exact decide_eq_decide.2 (cfD_lt p q)
theorem swoD : Go.Sort.SWO (ltOf cfD) where
  irrefl x := by rw [ltD]; exact decide_eq_false (dLt_irrefl x)
  trans x y z h1 h2 := by rw [ltD] at *; simp only [decide_eq_true_eq] at *; exact dLt_trans h1 h2
  ntrans x y z h1 h2 := by
    rw [ltD] at *
    simp only [decide_eq_false_iff_not] at *
    unfold dLt at *
    omega
def DotsQ (L : List DotM) (g n B : Nat) (w : World) (e : Ending) (w' : World) : Prop := e = .returned (.tuple #[]) ∧ ∃ L' : List DotM, L'.Perm L ∧ (L'.Pairwise fun p q => ¬ dLt q p) ∧ DotsR w' (some ⟨g, 0, none⟩) n L' ∧ Below B w w' ∧ ∀ i, i < w.heap.size → i ≠ g → w'.heap[i]? = w.heap[i]?
theorem cmpLays_dord (blk off size : Nat) (w : World) : CmpLays Tryz.prog 156 #[] encD 2 cfD blk off size w :=
  fun _ _ _ _ x y => (ordD_any (x.1 : Int) (x.2 : Int) (y.1 : Int) (y.2 : Int) _).mono fun _ _ ⟨he, hw⟩ => ⟨he, hw⟩
set_option maxRecDepth 100000 in
theorem sort_dord {w : World} {B g n c : Nat} {L : List DotM} (hl : L.length = n) (hn : n ≤ 1000000) (hB : B ≤ g) (h : w.ownsRow B 38 2 (.slice (some ⟨g, 0, none⟩) n c) n (L.flatMap encD)) :
    Calls Tryz.prog 188 #[.slice (some ⟨g, 0, none⟩) n c, .func (.func 156) #[] #[]] w fun e w' => DotsQ L g n B w e w' := by
  have hH := holds_of_ownG encD_length (by omega) hl h; have hgl : g < w.heap.size := own_lt h _ rfl; obtain ⟨d, hd⟩ : ∃ d, d = L.toArray := ⟨_, rfl⟩; have hds : d.size = n := by rw [hd]; simpa using hl
  have hdl : d.toList = L := by rw [hd]
  rw [← hd] at hH; have eg : ∀ args w, (callFunc 156 args).run Tryz.prog w = .ok (.enter 156 args) w := enters_of Tryz.func156 (by kernel_rfl) rfl; have hcon := AnyQ.slices_SortFunc DotSort 2 Tryz.isAgg38 Tryz.sizeOf38 encD encD_length (fun x v hv => encD_one x v hv) cfD swoD 156 #[] g 0 c d w eg (cmpLays_dord g 0 d.size w) hH hgl (by omega); change Calls Tryz.prog 188 _ _ _ at hcon; rw [hds] at hcon; refine hcon.mono ?_; rintro e w' ⟨rfl, d', m, os, ⟨hs', _, hp⟩, hS, rfl⟩; have hH' := holdsK_sortWorldK_c (enc := encD) (k := 2) (w := w) (blk := g) (off := 0) (d := d) (dk := d') (m := m) (os := os) (hH := hH) (hblk := hgl) (hs := hs')
  have hperm : d'.toList.Perm L := by
    have e1 : d'.extract 0 n = d' := by rw [← hds, ← hs']; simp
    have e2 : d.extract 0 n = d := by rw [← hds]; simp
    rw [e1, e2, hdl] at hp; exact hp
  refine ⟨rfl, d'.toList, hperm, ?_, ⟨by simp [hs', hds], fun i x hx => ⟨g, 0, rfl, fun j u hu => by rw [Nat.zero_add]; exact cells_of_holds encD_length hH' hx hu⟩⟩, sortG_below hB hgl, fun i hi hne => sortG_other hi hne⟩; rw [List.pairwise_iff_getElem]; intro i j hi hj hij; have hi' : i < d'.size := by simpa using hi
  have hj' : j < d'.size := by simpa using hj
  have := hS i j (Nat.zero_le _) hij (by omega); rw [ltD, decide_eq_false_iff_not] at this; have g1 : d'[i]! = d'.toList[i] := by simp [hi']
  have g2 : d'[j]! = d'.toList[j] := by simp [hj']
  rw [g1, g2] at this; exact this
end Go.Proofs.YtjpphldojbfpfaaGreatDoor
namespace Go.Proofs.YtjpphldojbfpfaaGreatDoor
open Go.RowKit
set_option maxHeartbeats 2000000 in
theorem right_any (d : DotM) (hd : rightD d) (w : World) : Calls Tryz.prog 143 #[.agg (encD d).toArray] w fun e w' => e = .returned (.bool true) ∧ Gr w w' := by
  obtain ⟨a, b⟩ := d; obtain ⟨h1, h2, h3, h4⟩ := hd; simp only at h1 h2 h3 h4; have c1 : (1 : Int) ≤ (a : Int) := by omega
  have c2 : (a : Int) ≤ 16 := by omega
  have c3 : (1 : Int) ≤ (b : Int) := by omega
  have c4 : (b : Int) ≤ 1099511627776 := by omega
  clear h1 h2 h3 h4; have hA : Arr (w.alloc (.cells (encD (a, b)).toArray 38)) w.heap.size 38 (encD (a, b)) := Arr.newAt rfl rfl; have hG : Gr w (w.alloc (.cells (encD (a, b)).toArray 38)) := Gr.alloc _ _
  go_enter Tryz.func143, Tryz.ntmps143
  go_upto_region 1 with fail
  change Code.wp _ _ _ _ (w.alloc (.cells (encD (a, b)).toArray 38)); generalize w.alloc (.cells (encD (a, b)).toArray 38) = w0 at hA hG ⊢; have a0 := hA.cell (i := 0) (v := .int .i64 (a : Int)) rfl; have a1 := hA.cell (i := 1) (v := .int .i64 (b : Int)) rfl; clear hA; go_wp2_with fail
  go_ret
  exact ⟨rfl, hG⟩
theorem rangeD {w : World} {g o : Nat} {d : DotM} (h : w.rangeAt g o (encD d)) : w.cell? ⟨g, o, none⟩ = some (.int .i64 (d.1 : Int)) ∧ w.cell? ⟨g, o + 1, none⟩ = some (.int .i64 (d.2 : Int)) := ⟨h 0 _ rfl, h 1 _ rfl⟩
theorem infoDot (d : DotM) : (Tryz.prog.info? 38).map (·.size) = some (encD d).length := by
  show _ = some 2
  kernel_rfl
theorem eqDot (p q : DotM) (w : World) : (Op.equalIn 10000 38 (.agg (encD p).toArray) (.agg (encD q).toArray)).run Tryz.prog w = .ok (decide (p = q)) w := by
  obtain ⟨a, b⟩ := p; obtain ⟨x, y⟩ := q; have h := run_equalIn_struct (P := Tryz.prog) w 9999 38 (encD (a, b)).toArray (encD (x, y)).toArray (by kernel_rfl) (by kernel_rfl)
  have e : ∀ u v : Nat, ((u : Int) == (v : Int)) = decide (u = v) := fun u v => by
    rw [Bool.eq_iff_iff, beq_iff_eq, decide_eq_true_eq]; omega
  have hd : decide ((a, b) = (x, y)) = (decide (a = x) && decide (b = y)) := by
    rw [Bool.eq_iff_iff]; simp
  rw [h, hd, ← e, ← e]; simp only [encD]; go_simp
  by_cases h1 : a = x <;> by_cases h2 : b = y <;> simp [h1, h2]
theorem eqDotF {p q : DotM} {r : Bool} (h : decide (p = q) = r) (w : World) : (Op.equalIn 10000 38 (.agg #[.int .i64 (p.1 : Int), .int .i64 (p.2 : Int)]) (.agg #[.int .i64 (q.1 : Int), .int .i64 (q.2 : Int)])).run Tryz.prog w = .ok r w := by
  rw [← h]; exact eqDot p q w
theorem run_eqDot {ev : Operand → Value} {d : Option Tmp} {t : TypeId} {p : String} {af : Array Edge} {gd : Option (Nat × Bool)} {w : World} {x y : Operand} {T : TypeId} {D E : DotM} (h1 : ev x = .agg (encD D).toArray) (h2 : ev y = .agg (encD E).toArray) :
    (execOp ev ⟨d, .binOp .eql 38 x y T, t, p, af, gd⟩).run Tryz.prog w = .ok (.value (.bool (decide (D = E)))) w := by
  obtain ⟨a, b⟩ := D; obtain ⟨u, v⟩ := E
  have e : ∀ u v : Nat, ((u : Int) == (v : Int)) = decide (u = v) := fun u v => by
    rw [Bool.eq_iff_iff, beq_iff_eq, decide_eq_true_eq]; omega
  have hd : decide ((a, b) = (u, v)) = (decide (a = u) && decide (b = v)) := by
    rw [Bool.eq_iff_iff]; simp
  rw [hd, ← e, ← e]; simp only [encD] at h1 h2; simp only [execOp, h1, h2]; go_simp
  by_cases h3 : a = u <;> by_cases h4 : b = v <;> simp [h3, h4]
def IdxQ (L : List DotM) (d : DotM) (z : Int) : Prop := (0 ≤ z ↔ d ∈ L)
set_option maxRecDepth 100000 in
set_option maxHeartbeats 4000000 in
theorem indexD_any {A : Option Addr} {n c : Nat} {L : List DotM} {d : DotM} {w : World} (hL : DotsR w A n L) (hn : n ≤ 1000000) :
    Calls Tryz.prog 178 #[.slice A n c, .agg (encD d).toArray] w fun e w' => ∃ z, e = .returned (.int .i64 z) ∧ Hid (IdxQ L d z) ∧ Gr w w' := by
  obtain ⟨a, b⟩ := d; have HL := Lib.hid hL; have hlen := hL.1; have HLen := Lib.hid hlen; clear hL hlen; have hA : Arr (w.alloc (.cells (encD (a, b)).toArray 38)) w.heap.size 38 (encD (a, b)) := Arr.newAt rfl rfl; have hG : Gr w (w.alloc (.cells (encD (a, b)).toArray 38)) := Gr.alloc _ _
  go_enter Tryz.func178, Tryz.ntmps178
  go_upto_region 1 with fail
  change Code.wp _ _ _ _ (w.alloc (.cells (encD (a, b)).toArray 38)); generalize hw0 : w.alloc (.cells (encD (a, b)).toArray 38) = w0 at hA hG ⊢; generalize hg0 : w.heap.size = g0 at hA ⊢; clear hw0 hg0; have HL0 := Lib.hid (HL.out.gr hG)
  go_upto_region 2 with fail
  go_loopw [8] (fun i wr => ∃ k : Nat, k ≤ n ∧ i = .int .i64 (k : Int) ∧ Hid (∀ j, j < k → L[j]? ≠ some (a, b)) ∧ Gr w0 wr) (fun i _ => n - (intOf i).toNat)
  case atStart => exact ⟨0, Nat.zero_le _, rfl, Lib.hid (fun j h => by omega), Gr.refl _⟩
  case round =>
    obtain ⟨k, hk, rfl, hno, hGr⟩ := hrel
    by_cases hlt : k < n
    · obtain ⟨⟨x, y⟩, hy⟩ : ∃ y, L[k]? = some y := ⟨_, List.getElem?_eq_getElem (by rw [HLen.out]; exact hlt)⟩; have hki : (k : Int) < (n : Int) := by omega
      obtain ⟨bA, oA, rfl, hr⟩ := (HL0.out.gr hGr).2 k _ hy; obtain ⟨k0, k1⟩ := rangeD hr; have hAr := hA.gr hGr; have a0 := hAr.cell (i := 0) (v := .int .i64 (a : Int)) rfl; have a1 := hAr.cell (i := 1) (v := .int .i64 (b : Int)) rfl; have HY := Lib.hid hy; clear hy; simp only at k0 k1
      go_upto_region 4 with fail
      by_cases hxy : (a, b) = (x, y)
      · have hq := eqDotF (p := (a, b)) (q := (x, y)) (decide_eq_true hxy); have hm : (a, b) ∈ L := by rw [hxy]; exact List.mem_of_getElem? HY.out
        have HM := Lib.hid hm; simp only at hq; clear hxy hm
        go_quiet (fail)
        go_wp2_with fail
        go_ret
        exact ⟨_, rfl, Lib.hid ⟨fun _ => HM.out, fun _ => by omega⟩, hG.trans (hGr.trans (below_dr ⟨_, rfl⟩))⟩
      · have hq := eqDotF (p := (a, b)) (q := (x, y)) (decide_eq_false hxy)
        have HN : Hid (∀ j, j < k + 1 → L[j]? ≠ some (a, b)) := Lib.hid (fun j hj => by
          rcases Nat.lt_or_eq_of_le (Nat.le_of_lt_succ hj) with h | h
          · exact hno.out j h
          · subst h; rw [HY.out]; intro e; exact hxy (Option.some.inj e).symm)
        simp only at hq; clear hxy hno
        go_quiet (fail)
        go_wp2_with fail
        exact ⟨⟨k + 1, by omega, by simp, HN, hGr.trans (below_dr ⟨_, rfl⟩)⟩, by simp only [intOf]; omega⟩
    · have hki : ¬ (k : Int) < (n : Int) := by omega
      have HM : Hid ((a, b) ∉ L) := Lib.hid (fun h => by
        obtain ⟨j, hj, he⟩ := List.mem_iff_getElem.1 h; have hl := HLen.out; exact hno.out j (by omega) (by rw [List.getElem?_eq_getElem hj, he]))
      clear hno; go_wp2_with fail
      go_ret
      exact ⟨-1, rfl, Lib.hid ⟨fun h => absurd h (by omega), fun h => absurd h HM.out⟩, hG.trans hGr⟩
set_option maxHeartbeats 2000000 in
theorem containsD_any {A : Option Addr} {n c : Nat} {L : List DotM} {d : DotM} {w : World} (hL : DotsR w A n L) (hn : n ≤ 1000000) :
    Calls Tryz.prog 155 #[.slice A n c, .agg (encD d).toArray] w fun e w' => e = .returned (.bool (decide (d ∈ L))) ∧ Gr w w' := by
  obtain ⟨a, b⟩ := d; have HL := Lib.hid hL; clear hL; have hA : Arr (w.alloc (.cells (encD (a, b)).toArray 38)) w.heap.size 38 (encD (a, b)) := Arr.newAt rfl rfl; have hG : Gr w (w.alloc (.cells (encD (a, b)).toArray 38)) := Gr.alloc _ _; obtain ⟨r, hr⟩ : ∃ r, r = decide ((a, b) ∈ L) := ⟨_, rfl⟩; rw [← hr]; have HR := Lib.hid hr; clear hr
  go_enter Tryz.func155, Tryz.ntmps155
  go_upto_region 1 with fail
  change Code.wp _ _ _ _ (w.alloc (.cells (encD (a, b)).toArray 38)); generalize w.alloc (.cells (encD (a, b)).toArray 38) = w0 at hA hG ⊢; generalize w.heap.size = g0 at hA ⊢; have HI := Lib.hid (indexD_any (c := c) (d := (a, b)) (HL.out.gr hG) hn); have a0 := hA.cell (i := 0) (v := .int .i64 (a : Int)) rfl; have a1 := hA.cell (i := 1) (v := .int .i64 (b : Int)) rfl; clear hA; cases r with
  | true =>
    have hm := of_decide_eq_true HR.out.symm; have HM := Lib.hid hm; clear hm
    go_wp2_with (go_at_call 178; refine HI.out.mono ?_; rintro e w1 ⟨z, rfl, hz, hG1⟩; have hz0 : decide (0 ≤ z) = true := decide_eq_true (hz.out.2 HM.out))
    go_ret
    exact ⟨rfl, hG.trans hG1⟩
  | false =>
    have hm := of_decide_eq_false HR.out.symm; have HM := Lib.hid hm; clear hm
    go_wp2_with (go_at_call 178; refine HI.out.mono ?_; rintro e w1 ⟨z, rfl, hz, hG1⟩; have hz0 : decide (0 ≤ z) = false := decide_eq_false (fun h => HM.out (hz.out.1 h)))
    go_ret
    exact ⟨rfl, hG.trans hG1⟩
end Go.Proofs.YtjpphldojbfpfaaGreatDoor
