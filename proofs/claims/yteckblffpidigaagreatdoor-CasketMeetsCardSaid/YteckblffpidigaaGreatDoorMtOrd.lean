/- The walks of the orders of writes and of siblings. No condition. -/
import Derived.Test.YteckblffpidigaaGreatDoorKitA
import Derived.Test.YteckblffpidigaaGreatDoorKitM
import Derived.Test.YteckblffpidigaaGreatDoorKitT
import Derived.Deep.Cut
namespace Go.Proofs.YteckblffpidigaaGreatDoor
open Go.RowKit
theorem run_fieldR {P : Program} {ev : Operand → Value} {d : Option Tmp} {t T : TypeId} {s : String} {af : Array Edge} {gd : Option (Nat × Bool)} {w : World} {x : Operand} {g q i o k : Nat} {fs : Array Field} {f : Field} (hT : P.underlying T = some (.struct fs)) (hf : fs[i]? = some f) (ho : f.offset = o)
    (hsz : (P.info? f.type).map (·.size) = some (k + 1)) (h1 : ev x = .pointer (some ⟨g, q, none⟩)) :
    (execOp ev ⟨d, .fieldAddr T x i, t, s, af, gd⟩).run P w = .ok (.value (.pointer (some ⟨g, q + o, none⟩))) w := by
  subst ho
  have hs : (sizeOf f.type).run P w = .ok (k + 1) w := by
    cases hq : P.info? f.type with
    | none => simp [hq] at hsz
    | some ti =>
      have h2 : ti.size = k + 1 := by simpa [hq] using hsz
      simp [sizeOf, typeInfo, hq, h2]
  simp [execOp, h1, Instr.fieldAt, Instr.sureAddr, run_underlying hT, hf, fieldPlace, hs, add_row]
/-- Which comes first? -/
def cmpZ (a b : Int) : Int := if a < b then -1 else if b < a then 1 else 0
set_option maxHeartbeats 1000000 in
theorem nanI (a : Int) (w : World) : Calls Tryz.prog 64 #[.int .i64 a] w fun e w' => e = .returned (.bool false) ∧ w = w' := by
  go_enter Tryz.func64, Tryz.ntmps64
  go_wp2_with fail
  go_ret
  exact ⟨rfl, rfl⟩
set_option maxHeartbeats 2000000 in
theorem cmpI_any (a b : Int) (w : World) : Calls Tryz.prog 35 #[.int .i64 a, .int .i64 b] w fun e w' => e = .returned (.int .i64 (cmpZ a b)) ∧ w = w' := by
  have HN := Lib.hid nanI
  unfold cmpZ
  by_cases h1 : a < b
  · rw [if_pos h1]
    go_enter Tryz.func35, Tryz.ntmps35
    go_wp2_with fail
    refine (HN.out a w).mono ?_
    rintro e _ ⟨rfl, rfl⟩
    go_wp2_with fail
    refine (HN.out b w).mono ?_
    rintro e _ ⟨rfl, rfl⟩
    go_wp2_with fail
    go_ret
    exact ⟨rfl, rfl⟩
  · rw [if_neg h1]
    by_cases h2 : b < a
    · rw [if_pos h2]
      go_enter Tryz.func35, Tryz.ntmps35
      go_wp2_with fail
      refine (HN.out a w).mono ?_
      rintro e _ ⟨rfl, rfl⟩
      go_wp2_with fail
      refine (HN.out b w).mono ?_
      rintro e _ ⟨rfl, rfl⟩
      go_wp2_with fail
      go_ret
      exact ⟨rfl, rfl⟩
    · rw [if_neg h2]
      go_enter Tryz.func35, Tryz.ntmps35
      go_wp2_with fail
      refine (HN.out a w).mono ?_
      rintro e _ ⟨rfl, rfl⟩
      go_wp2_with fail
      refine (HN.out b w).mono ?_
      rintro e _ ⟨rfl, rfl⟩
      go_wp2_with fail
      go_ret
      exact ⟨rfl, rfl⟩
/-- The first that is not nought. -/
def or2 (a b : Int) : Int := if a ≠ 0 then a else b
/-- A row of two numbers. -/
def Row2 (a b : Int) : Value → World → Prop := fun v w => ∃ g, v = .slice (some ⟨g, 0, none⟩) 2 2 ∧ Arr w g 3 [.int .i64 a, .int .i64 b]
theorem Row2.gr {a b : Int} {v : Value} {w w' : World} (h : Row2 a b v w) (hG : Gr w w') : Row2 a b v w' := by
  obtain ⟨g, e, h⟩ := h
  exact ⟨g, e, h.gr hG⟩
/-- How many were noughts. -/
def Or2R (a b : Int) (w : World) (i : Value) (wr : World) : Prop := ∃ k : Nat, k ≤ 2 ∧ i = .int .i64 (k : Int) ∧ (0 < k → a = 0) ∧ (1 < k → b = 0) ∧ w = wr
set_option maxHeartbeats 4000000 in
theorem or2_any {g : Nat} {a b : Int} {w : World} (h : Arr w g 3 [.int .i64 a, .int .i64 b]) : Calls Tryz.prog 34 #[.slice (some ⟨g, 0, none⟩) 2 2] w fun e w' => e = .returned (.int .i64 (or2 a b)) ∧ w = w' := by
  have c0 := h.cell (i := 0) (v := .int .i64 a) rfl
  have c1 := h.cell (i := 1) (v := .int .i64 b) rfl
  obtain ⟨r, hr⟩ : ∃ r, r = or2 a b := ⟨_, rfl⟩
  rw [← hr]
  have HR := Lib.hid hr
  clear hr
  go_enter Tryz.func34, Tryz.ntmps34
  go_wp2_with fail
  go_simp
  go_loopw [8] (fun i wr => Or2R a b w i wr) (fun i _ => 2 - (intOf i).toNat)
  case atStart => exact ⟨0, by omega, rfl, fun h => by omega, fun h => by omega, rfl⟩
  case round =>
    obtain ⟨k, hk, rfl, ha, hb, rfl⟩ := hrel
    have h4 : k = 0 ∨ k = 1 ∨ k = 2 := by omega
    rcases h4 with rfl | rfl | rfl
    · by_cases hz : a = 0
      · have hzb : (a == 0) = true := by rw [hz]; rfl
        go_wp2_with fail
        exact ⟨⟨1, by omega, by go_num, fun _ => hz, fun h => by omega, rfl⟩, by simp [intOf]⟩
      · have hzb : (a == 0) = false := beq_false_of_ne hz
        have hre : r = a := by rw [HR.out, or2, if_pos hz]
        subst hre
        go_wp2_with fail
        go_ret
        exact ⟨rfl, rfl⟩
    · have ha0 := ha (by omega)
      by_cases hz : b = 0
      · have hzb : (b == 0) = true := by rw [hz]; rfl
        go_wp2_with fail
        exact ⟨⟨2, by omega, by go_num, fun _ => ha0, fun _ => hz, rfl⟩, by simp [intOf]⟩
      · have hzb : (b == 0) = false := beq_false_of_ne hz
        have hre : r = b := by rw [HR.out, or2, if_neg (by simpa using ha0)]
        subst hre
        go_wp2_with fail
        go_ret
        exact ⟨rfl, rfl⟩
    · have hre : r = 0 := by rw [HR.out, or2, if_neg (by simpa using ha (by omega)), hb (by omega)]
      subst hre
      go_wp2_with fail
      go_ret
      exact ⟨rfl, rfl⟩
theorem run_build2I {ev : Operand → Value} {d : Option Tmp} {t : TypeId} {p : String} {af : Array Edge} {gd : Option (Nat × Bool)} {w : World} {x y : Operand} {a b : Int} (h1 : ev x = .int .i64 a) (h2 : ev y = .int .i64 b) :
    (execOp ev ⟨d, .buildSlice 105 2 #[(0, x), (1, y)], t, p, af, gd⟩).run Tryz.prog w = .ok (.value (.slice (some ⟨w.heap.size, 0, none⟩) 2 2)) (w.alloc (.cells #[.int .i64 a, .int .i64 b] 3)) := by
  simp only [execOp, List.map_toArray, List.map_cons, List.map_nil, h1, h2]
  go_simp
set_option maxRecDepth 100000 in
set_option maxHeartbeats 8000000 in
theorem ordD_any (a b x y : Int)  (w : World) : Calls Tryz.prog 90 #[.agg ([.int .i64 a, .int .i64 b] : List Value).toArray, .agg ([.int .i64 x, .int .i64 y] : List Value).toArray] w fun e w' => e = .returned (.int .i64 (or2 (cmpZ a x) (cmpZ b y))) ∧ GG w w' := by
  have h2 : Arr (w.alloc (.cells ([.int .i64 a, .int .i64 b] : List Value).toArray 39)) w.heap.size 39 [.int .i64 a, .int .i64 b] := Arr.newAt rfl rfl
  obtain ⟨wa, hwa⟩ : ∃ wa, wa = w.alloc (.cells ([.int .i64 a, .int .i64 b] : List Value).toArray 39) := ⟨_, rfl⟩
  have ga : GG w wa := by rw [hwa]; exact GG.alloc _ _
  rw [← hwa] at h2
  have h3 : Arr (wa.alloc (.cells ([.int .i64 x, .int .i64 y] : List Value).toArray 39)) wa.heap.size 39 [.int .i64 x, .int .i64 y] := Arr.newAt rfl rfl
  have h23 := h2.gr (Gr.alloc wa (.cells ([.int .i64 x, .int .i64 y] : List Value).toArray 39))
  have gb : GG w (wa.alloc (.cells ([.int .i64 x, .int .i64 y] : List Value).toArray 39)) := ga.trans (GG.alloc _ _)
  have HI := Lib.hid cmpI_any
  have hsz : wa.heap.size = w.heap.size + 1 := by rw [hwa]; exact Array.size_push _
  rw [hsz] at h3
  clear hsz
  subst hwa
  have a0 := h23.cell (i := 0) (v := .int .i64 a) rfl
  have a1c := h23.cell (i := 1) (v := .int .i64 b) rfl
  have b0 := h3.cell (i := 0) (v := .int .i64 x) rfl
  have b1 := h3.cell (i := 1) (v := .int .i64 y) rfl
  clear h2 ga
  go_enter Tryz.func90, Tryz.ntmps90
  go_upto_region 1 with fail
  change Code.wp _ _ _ _ ((w.alloc (.cells ([.int .i64 a, .int .i64 b] : List Value).toArray 39)).alloc (.cells ([.int .i64 x, .int .i64 y] : List Value).toArray 39))
  generalize (w.alloc (.cells ([.int .i64 a, .int .i64 b] : List Value).toArray 39)).alloc (.cells ([.int .i64 x, .int .i64 y] : List Value).toArray 39) = w0 at h3 h23 gb a0 a1c b0 b1 ⊢
  generalize w.heap.size + 1 = g3 at h3 b0 b1 ⊢
  generalize w.heap.size = g2 at h23 a0 a1c ⊢
  refine wp_region_cutG GG GG.refl (fun _ _ _ => GG.trans) (by kernel_rfl) [IsV (.pointer (some ⟨g2, 0, none⟩)), IsV (.int .i64 a), IsV (.pointer (some ⟨g3, 0, none⟩)), IsV (.int .i64 x), IsV (.int .i64 (cmpZ a x)), IsV (.pointer (some ⟨g2, 1, none⟩)), IsV (.int .i64 b), IsV (.pointer (some ⟨g3, 1, none⟩)), IsV (.int .i64 y), IsV (.int .i64 (cmpZ b y)), Row2 (cmpZ a x) (cmpZ b y)] 11 (by decide) (by kernel_rfl) (by kernel_rfl) (by kernel_rfl) ?_ ?_ ?_
  · intro φ hφ v w1 w2 h hg
    simp only [List.mem_cons, List.not_mem_nil, or_false] at hφ
    rcases hφ with rfl | rfl | rfl | rfl | rfl | rfl | rfl | rfl | rfl | rfl | rfl
    all_goals first | exact h | exact Row2.gr h (GG.gr hg)
  · refine ⟨?_, ?_, ?_, ?_, ?_, ?_, ?_, ?_, ?_, ?_, ?_, trivial⟩
    · intro a1 w1 hG hF
      have hG := GG.gr hG
      have e2 : a1.eval (.tmp 2) = .pointer (some ⟨g2, 0, none⟩) := hF.ol 2 (by kernel_rfl)
      exact gg_val rfl rfl _ _ (run_fieldR (o := 0) (k := 0) Tryz.underlying39 rfl rfl (by kernel_rfl) e2) rfl (GG.refl _)
    · intro a1 w1 hG hF
      have hG := GG.gr hG
      obtain ⟨_, e5, rfl⟩ := hF.dp 0 5 (by kernel_rfl)
      exact gg_val rfl rfl _ _ (run_load1 Tryz.underlying3 e5 (Gr.cell ((Gr.drew w0).trans hG) a0)) rfl (GG.refl _)
    · intro a1 w1 hG hF
      have hG := GG.gr hG
      have e3 : a1.eval (.tmp 3) = .pointer (some ⟨g3, 0, none⟩) := hF.ol 3 (by kernel_rfl)
      exact gg_val rfl rfl _ _ (run_fieldR (o := 0) (k := 0) Tryz.underlying39 rfl rfl (by kernel_rfl) e3) rfl (GG.refl _)
    · intro a1 w1 hG hF
      have hG := GG.gr hG
      obtain ⟨_, e7, rfl⟩ := hF.dp 2 7 (by kernel_rfl)
      exact gg_val rfl rfl _ _ (run_load1 Tryz.underlying3 e7 (Gr.cell ((Gr.drew w0).trans hG) b0)) rfl (GG.refl _)
    · intro a1 w1 hG hF
      have hG := GG.gr hG
      obtain ⟨_, e6, rfl⟩ := hF.dp 1 6 (by kernel_rfl)
      obtain ⟨_, e8, rfl⟩ := hF.dp 3 8 (by kernel_rfl)
      exact gg_call rfl rfl _ _ (by simp only [execOp, resolve, invoke, List.map_toArray, List.map_cons, List.map_nil, e6, e8]; go_simp) _ (HI.out a x w1) rfl (GG.refl _)
    · intro a1 w1 hG hF
      have hG := GG.gr hG
      have e2 : a1.eval (.tmp 2) = .pointer (some ⟨g2, 0, none⟩) := hF.ol 2 (by kernel_rfl)
      exact gg_val rfl rfl _ _ (run_fieldR (o := 1) (k := 0) Tryz.underlying39 rfl rfl (by kernel_rfl) e2) rfl (GG.refl _)
    · intro a1 w1 hG hF
      have hG := GG.gr hG
      obtain ⟨_, e10, rfl⟩ := hF.dp 5 10 (by kernel_rfl)
      exact gg_val rfl rfl _ _ (run_load1 Tryz.underlying3 e10 (Gr.cell ((Gr.drew w0).trans hG) a1c)) rfl (GG.refl _)
    · intro a1 w1 hG hF
      have hG := GG.gr hG
      have e3 : a1.eval (.tmp 3) = .pointer (some ⟨g3, 0, none⟩) := hF.ol 3 (by kernel_rfl)
      exact gg_val rfl rfl _ _ (run_fieldR (o := 1) (k := 0) Tryz.underlying39 rfl rfl (by kernel_rfl) e3) rfl (GG.refl _)
    · intro a1 w1 hG hF
      have hG := GG.gr hG
      obtain ⟨_, e12, rfl⟩ := hF.dp 7 12 (by kernel_rfl)
      exact gg_val rfl rfl _ _ (run_load1 Tryz.underlying3 e12 (Gr.cell ((Gr.drew w0).trans hG) b1)) rfl (GG.refl _)
    · intro a1 w1 hG hF
      have hG := GG.gr hG
      obtain ⟨_, e11, rfl⟩ := hF.dp 6 11 (by kernel_rfl)
      obtain ⟨_, e13, rfl⟩ := hF.dp 8 13 (by kernel_rfl)
      exact gg_call rfl rfl _ _ (by simp only [execOp, resolve, invoke, List.map_toArray, List.map_cons, List.map_nil, e11, e13]; go_simp) _ (HI.out b y w1) rfl (GG.refl _)
    · intro a1 w1 hG hF
      have hG := GG.gr hG
      obtain ⟨_, e9, rfl⟩ := hF.dp 4 9 (by kernel_rfl)
      obtain ⟨_, e14, rfl⟩ := hF.dp 9 14 (by kernel_rfl)
      exact gg_val rfl rfl (.slice (some ⟨w1.heap.size, 0, none⟩) 2 2) (w1.alloc (.cells #[.int .i64 (cmpZ a x), .int .i64 (cmpZ b y)] 3)) (run_build2I e9 e14) ⟨_, rfl, Arr.newAt rfl rfl⟩ (GG.alloc _ _)
  · intro vs w1 hG hf
    have yB : (Row2 (cmpZ a x) (cmpZ b y)) (vs 10) w1 := hf.2.2.2.2.2.2.2.2.2.2.1
    clear hf
    simp only [List.take_succ_cons, List.take_zero, List.drop_succ_cons, List.drop_zero, putAll, Nat.zero_add, Nat.reduceAdd]
    have gF := (gb.trans (GG.drew _)).trans hG
    obtain ⟨gr, hy, hA⟩ := yB
    rw [hy]
    unfold wpList
    go_simp
    refine .inl ?_
    refine (or2_any hA).mono ?_
    rintro e _ ⟨rfl, rfl⟩
    go_simp
    go_wp2_with fail
    go_ret
    exact ⟨rfl, gF⟩
set_option maxRecDepth 100000 in
set_option maxHeartbeats 8000000 in
theorem ordS_any (a b x y : Int)  (w : World) : Calls Tryz.prog 33 #[.agg ([.int .i64 a, .int .i64 b] : List Value).toArray, .agg ([.int .i64 x, .int .i64 y] : List Value).toArray] w fun e w' => e = .returned (.int .i64 (or2 (cmpZ a x) (cmpZ b y))) ∧ GG w w' := by
  have h2 : Arr (w.alloc (.cells ([.int .i64 a, .int .i64 b] : List Value).toArray 39)) w.heap.size 39 [.int .i64 a, .int .i64 b] := Arr.newAt rfl rfl
  obtain ⟨wa, hwa⟩ : ∃ wa, wa = w.alloc (.cells ([.int .i64 a, .int .i64 b] : List Value).toArray 39) := ⟨_, rfl⟩
  have ga : GG w wa := by rw [hwa]; exact GG.alloc _ _
  rw [← hwa] at h2
  have h3 : Arr (wa.alloc (.cells ([.int .i64 x, .int .i64 y] : List Value).toArray 39)) wa.heap.size 39 [.int .i64 x, .int .i64 y] := Arr.newAt rfl rfl
  have h23 := h2.gr (Gr.alloc wa (.cells ([.int .i64 x, .int .i64 y] : List Value).toArray 39))
  have gb : GG w (wa.alloc (.cells ([.int .i64 x, .int .i64 y] : List Value).toArray 39)) := ga.trans (GG.alloc _ _)
  have HI := Lib.hid cmpI_any
  have hsz : wa.heap.size = w.heap.size + 1 := by rw [hwa]; exact Array.size_push _
  rw [hsz] at h3
  clear hsz
  subst hwa
  have a0 := h23.cell (i := 0) (v := .int .i64 a) rfl
  have a1c := h23.cell (i := 1) (v := .int .i64 b) rfl
  have b0 := h3.cell (i := 0) (v := .int .i64 x) rfl
  have b1 := h3.cell (i := 1) (v := .int .i64 y) rfl
  clear h2 ga
  go_enter Tryz.func33, Tryz.ntmps33
  go_upto_region 1 with fail
  change Code.wp _ _ _ _ ((w.alloc (.cells ([.int .i64 a, .int .i64 b] : List Value).toArray 39)).alloc (.cells ([.int .i64 x, .int .i64 y] : List Value).toArray 39))
  generalize (w.alloc (.cells ([.int .i64 a, .int .i64 b] : List Value).toArray 39)).alloc (.cells ([.int .i64 x, .int .i64 y] : List Value).toArray 39) = w0 at h3 h23 gb a0 a1c b0 b1 ⊢
  generalize w.heap.size + 1 = g3 at h3 b0 b1 ⊢
  generalize w.heap.size = g2 at h23 a0 a1c ⊢
  refine wp_region_cutG GG GG.refl (fun _ _ _ => GG.trans) (by kernel_rfl) [IsV (.pointer (some ⟨g2, 0, none⟩)), IsV (.int .i64 a), IsV (.pointer (some ⟨g3, 0, none⟩)), IsV (.int .i64 x), IsV (.int .i64 (cmpZ a x)), IsV (.pointer (some ⟨g2, 1, none⟩)), IsV (.int .i64 b), IsV (.pointer (some ⟨g3, 1, none⟩)), IsV (.int .i64 y), IsV (.int .i64 (cmpZ b y)), Row2 (cmpZ a x) (cmpZ b y)] 11 (by decide) (by kernel_rfl) (by kernel_rfl) (by kernel_rfl) ?_ ?_ ?_
  · intro φ hφ v w1 w2 h hg
    simp only [List.mem_cons, List.not_mem_nil, or_false] at hφ
    rcases hφ with rfl | rfl | rfl | rfl | rfl | rfl | rfl | rfl | rfl | rfl | rfl
    all_goals first | exact h | exact Row2.gr h (GG.gr hg)
  · refine ⟨?_, ?_, ?_, ?_, ?_, ?_, ?_, ?_, ?_, ?_, ?_, trivial⟩
    · intro a1 w1 hG hF
      have hG := GG.gr hG
      have e2 : a1.eval (.tmp 2) = .pointer (some ⟨g2, 0, none⟩) := hF.ol 2 (by kernel_rfl)
      exact gg_val rfl rfl _ _ (run_fieldR (o := 0) (k := 0) Tryz.underlying39 rfl rfl (by kernel_rfl) e2) rfl (GG.refl _)
    · intro a1 w1 hG hF
      have hG := GG.gr hG
      obtain ⟨_, e5, rfl⟩ := hF.dp 0 5 (by kernel_rfl)
      exact gg_val rfl rfl _ _ (run_load1 Tryz.underlying3 e5 (Gr.cell ((Gr.drew w0).trans hG) a0)) rfl (GG.refl _)
    · intro a1 w1 hG hF
      have hG := GG.gr hG
      have e3 : a1.eval (.tmp 3) = .pointer (some ⟨g3, 0, none⟩) := hF.ol 3 (by kernel_rfl)
      exact gg_val rfl rfl _ _ (run_fieldR (o := 0) (k := 0) Tryz.underlying39 rfl rfl (by kernel_rfl) e3) rfl (GG.refl _)
    · intro a1 w1 hG hF
      have hG := GG.gr hG
      obtain ⟨_, e7, rfl⟩ := hF.dp 2 7 (by kernel_rfl)
      exact gg_val rfl rfl _ _ (run_load1 Tryz.underlying3 e7 (Gr.cell ((Gr.drew w0).trans hG) b0)) rfl (GG.refl _)
    · intro a1 w1 hG hF
      have hG := GG.gr hG
      obtain ⟨_, e6, rfl⟩ := hF.dp 1 6 (by kernel_rfl)
      obtain ⟨_, e8, rfl⟩ := hF.dp 3 8 (by kernel_rfl)
      exact gg_call rfl rfl _ _ (by simp only [execOp, resolve, invoke, List.map_toArray, List.map_cons, List.map_nil, e6, e8]; go_simp) _ (HI.out a x w1) rfl (GG.refl _)
    · intro a1 w1 hG hF
      have hG := GG.gr hG
      have e2 : a1.eval (.tmp 2) = .pointer (some ⟨g2, 0, none⟩) := hF.ol 2 (by kernel_rfl)
      exact gg_val rfl rfl _ _ (run_fieldR (o := 1) (k := 0) Tryz.underlying39 rfl rfl (by kernel_rfl) e2) rfl (GG.refl _)
    · intro a1 w1 hG hF
      have hG := GG.gr hG
      obtain ⟨_, e10, rfl⟩ := hF.dp 5 10 (by kernel_rfl)
      exact gg_val rfl rfl _ _ (run_load1 Tryz.underlying3 e10 (Gr.cell ((Gr.drew w0).trans hG) a1c)) rfl (GG.refl _)
    · intro a1 w1 hG hF
      have hG := GG.gr hG
      have e3 : a1.eval (.tmp 3) = .pointer (some ⟨g3, 0, none⟩) := hF.ol 3 (by kernel_rfl)
      exact gg_val rfl rfl _ _ (run_fieldR (o := 1) (k := 0) Tryz.underlying39 rfl rfl (by kernel_rfl) e3) rfl (GG.refl _)
    · intro a1 w1 hG hF
      have hG := GG.gr hG
      obtain ⟨_, e12, rfl⟩ := hF.dp 7 12 (by kernel_rfl)
      exact gg_val rfl rfl _ _ (run_load1 Tryz.underlying3 e12 (Gr.cell ((Gr.drew w0).trans hG) b1)) rfl (GG.refl _)
    · intro a1 w1 hG hF
      have hG := GG.gr hG
      obtain ⟨_, e11, rfl⟩ := hF.dp 6 11 (by kernel_rfl)
      obtain ⟨_, e13, rfl⟩ := hF.dp 8 13 (by kernel_rfl)
      exact gg_call rfl rfl _ _ (by simp only [execOp, resolve, invoke, List.map_toArray, List.map_cons, List.map_nil, e11, e13]; go_simp) _ (HI.out b y w1) rfl (GG.refl _)
    · intro a1 w1 hG hF
      have hG := GG.gr hG
      obtain ⟨_, e9, rfl⟩ := hF.dp 4 9 (by kernel_rfl)
      obtain ⟨_, e14, rfl⟩ := hF.dp 9 14 (by kernel_rfl)
      exact gg_val rfl rfl (.slice (some ⟨w1.heap.size, 0, none⟩) 2 2) (w1.alloc (.cells #[.int .i64 (cmpZ a x), .int .i64 (cmpZ b y)] 3)) (run_build2I e9 e14) ⟨_, rfl, Arr.newAt rfl rfl⟩ (GG.alloc _ _)
  · intro vs w1 hG hf
    have yB : (Row2 (cmpZ a x) (cmpZ b y)) (vs 10) w1 := hf.2.2.2.2.2.2.2.2.2.2.1
    clear hf
    simp only [List.take_succ_cons, List.take_zero, List.drop_succ_cons, List.drop_zero, putAll, Nat.zero_add, Nat.reduceAdd]
    have gF := (gb.trans (GG.drew _)).trans hG
    obtain ⟨gr, hy, hA⟩ := yB
    rw [hy]
    unfold wpList
    go_simp
    refine .inl ?_
    refine (or2_any hA).mono ?_
    rintro e _ ⟨rfl, rfl⟩
    go_simp
    go_wp2_with fail
    go_ret
    exact ⟨rfl, gF⟩
set_option maxRecDepth 100000 in
set_option maxHeartbeats 8000000 in
theorem ordB_any (a b x y : Int) (xs ys : List Value) (hx0 : xs[0]? = some (.int .i64 a)) (hx1 : xs[1]? = some (.int .i64 b)) (hy0 : ys[0]? = some (.int .i64 x)) (hy1 : ys[1]? = some (.int .i64 y)) (w : World) : Calls Tryz.prog 27 #[.agg (xs : List Value).toArray, .agg (ys : List Value).toArray] w fun e w' => e = .returned (.int .i64 (or2 (cmpZ a x) (cmpZ b y))) ∧ GG w w' := by
  have h2 : Arr (w.alloc (.cells (xs : List Value).toArray 44)) w.heap.size 44 xs := Arr.newAt rfl rfl
  obtain ⟨wa, hwa⟩ : ∃ wa, wa = w.alloc (.cells (xs : List Value).toArray 44) := ⟨_, rfl⟩
  have ga : GG w wa := by rw [hwa]; exact GG.alloc _ _
  rw [← hwa] at h2
  have h3 : Arr (wa.alloc (.cells (ys : List Value).toArray 44)) wa.heap.size 44 ys := Arr.newAt rfl rfl
  have h23 := h2.gr (Gr.alloc wa (.cells (ys : List Value).toArray 44))
  have gb : GG w (wa.alloc (.cells (ys : List Value).toArray 44)) := ga.trans (GG.alloc _ _)
  have HI := Lib.hid cmpI_any
  have hsz : wa.heap.size = w.heap.size + 1 := by rw [hwa]; exact Array.size_push _
  rw [hsz] at h3
  clear hsz
  subst hwa
  have a0 := h23.cell (i := 0) (v := .int .i64 a) hx0
  have a1c := h23.cell (i := 1) (v := .int .i64 b) hx1
  have b0 := h3.cell (i := 0) (v := .int .i64 x) hy0
  have b1 := h3.cell (i := 1) (v := .int .i64 y) hy1
  clear h2 ga
  go_enter Tryz.func27, Tryz.ntmps27
  go_upto_region 1 with fail
  change Code.wp _ _ _ _ ((w.alloc (.cells (xs : List Value).toArray 44)).alloc (.cells (ys : List Value).toArray 44))
  generalize (w.alloc (.cells (xs : List Value).toArray 44)).alloc (.cells (ys : List Value).toArray 44) = w0 at h3 h23 gb a0 a1c b0 b1 ⊢
  generalize w.heap.size + 1 = g3 at h3 b0 b1 ⊢
  generalize w.heap.size = g2 at h23 a0 a1c ⊢
  refine wp_region_cutG GG GG.refl (fun _ _ _ => GG.trans) (by kernel_rfl) [IsV (.pointer (some ⟨g2, 0, none⟩)), IsV (.pointer (some ⟨g2, 0, none⟩)), IsV (.int .i64 a), IsV (.pointer (some ⟨g3, 0, none⟩)), IsV (.pointer (some ⟨g3, 0, none⟩)), IsV (.int .i64 x), IsV (.int .i64 (cmpZ a x)), IsV (.pointer (some ⟨g2, 0, none⟩)), IsV (.pointer (some ⟨g2, 1, none⟩)), IsV (.int .i64 b), IsV (.pointer (some ⟨g3, 0, none⟩)), IsV (.pointer (some ⟨g3, 1, none⟩)), IsV (.int .i64 y), IsV (.int .i64 (cmpZ b y)), Row2 (cmpZ a x) (cmpZ b y)] 15 (by decide) (by kernel_rfl) (by kernel_rfl) (by kernel_rfl) ?_ ?_ ?_
  · intro φ hφ v w1 w2 h hg
    simp only [List.mem_cons, List.not_mem_nil, or_false] at hφ
    rcases hφ with rfl | rfl | rfl | rfl | rfl | rfl | rfl | rfl | rfl | rfl | rfl | rfl | rfl | rfl | rfl
    all_goals first | exact h | exact Row2.gr h (GG.gr hg)
  · refine ⟨?_, ?_, ?_, ?_, ?_, ?_, ?_, ?_, ?_, ?_, ?_, ?_, ?_, ?_, ?_, trivial⟩
    · intro a1 w1 hG hF
      have hG := GG.gr hG
      have e2 : a1.eval (.tmp 2) = .pointer (some ⟨g2, 0, none⟩) := hF.ol 2 (by kernel_rfl)
      exact gg_val rfl rfl _ _ (run_fieldR (o := 0) (k := 1) Tryz.underlying44 rfl rfl (by kernel_rfl) e2) rfl (GG.refl _)
    · intro a1 w1 hG hF
      have hG := GG.gr hG
      obtain ⟨_, e5, rfl⟩ := hF.dp 0 5 (by kernel_rfl)
      exact gg_val rfl rfl _ _ (run_fieldR (o := 0) (k := 0) Tryz.underlying39 rfl rfl (by kernel_rfl) e5) rfl (GG.refl _)
    · intro a1 w1 hG hF
      have hG := GG.gr hG
      obtain ⟨_, e6, rfl⟩ := hF.dp 1 6 (by kernel_rfl)
      exact gg_val rfl rfl _ _ (run_load1 Tryz.underlying3 e6 (Gr.cell ((Gr.drew w0).trans hG) a0)) rfl (GG.refl _)
    · intro a1 w1 hG hF
      have hG := GG.gr hG
      have e3 : a1.eval (.tmp 3) = .pointer (some ⟨g3, 0, none⟩) := hF.ol 3 (by kernel_rfl)
      exact gg_val rfl rfl _ _ (run_fieldR (o := 0) (k := 1) Tryz.underlying44 rfl rfl (by kernel_rfl) e3) rfl (GG.refl _)
    · intro a1 w1 hG hF
      have hG := GG.gr hG
      obtain ⟨_, e8, rfl⟩ := hF.dp 3 8 (by kernel_rfl)
      exact gg_val rfl rfl _ _ (run_fieldR (o := 0) (k := 0) Tryz.underlying39 rfl rfl (by kernel_rfl) e8) rfl (GG.refl _)
    · intro a1 w1 hG hF
      have hG := GG.gr hG
      obtain ⟨_, e9, rfl⟩ := hF.dp 4 9 (by kernel_rfl)
      exact gg_val rfl rfl _ _ (run_load1 Tryz.underlying3 e9 (Gr.cell ((Gr.drew w0).trans hG) b0)) rfl (GG.refl _)
    · intro a1 w1 hG hF
      have hG := GG.gr hG
      obtain ⟨_, e7, rfl⟩ := hF.dp 2 7 (by kernel_rfl)
      obtain ⟨_, e10, rfl⟩ := hF.dp 5 10 (by kernel_rfl)
      exact gg_call rfl rfl _ _ (by simp only [execOp, resolve, invoke, List.map_toArray, List.map_cons, List.map_nil, e7, e10]; go_simp) _ (HI.out a x w1) rfl (GG.refl _)
    · intro a1 w1 hG hF
      have hG := GG.gr hG
      have e2 : a1.eval (.tmp 2) = .pointer (some ⟨g2, 0, none⟩) := hF.ol 2 (by kernel_rfl)
      exact gg_val rfl rfl _ _ (run_fieldR (o := 0) (k := 1) Tryz.underlying44 rfl rfl (by kernel_rfl) e2) rfl (GG.refl _)
    · intro a1 w1 hG hF
      have hG := GG.gr hG
      obtain ⟨_, e12, rfl⟩ := hF.dp 7 12 (by kernel_rfl)
      exact gg_val rfl rfl _ _ (run_fieldR (o := 1) (k := 0) Tryz.underlying39 rfl rfl (by kernel_rfl) e12) rfl (GG.refl _)
    · intro a1 w1 hG hF
      have hG := GG.gr hG
      obtain ⟨_, e13, rfl⟩ := hF.dp 8 13 (by kernel_rfl)
      exact gg_val rfl rfl _ _ (run_load1 Tryz.underlying3 e13 (Gr.cell ((Gr.drew w0).trans hG) a1c)) rfl (GG.refl _)
    · intro a1 w1 hG hF
      have hG := GG.gr hG
      have e3 : a1.eval (.tmp 3) = .pointer (some ⟨g3, 0, none⟩) := hF.ol 3 (by kernel_rfl)
      exact gg_val rfl rfl _ _ (run_fieldR (o := 0) (k := 1) Tryz.underlying44 rfl rfl (by kernel_rfl) e3) rfl (GG.refl _)
    · intro a1 w1 hG hF
      have hG := GG.gr hG
      obtain ⟨_, e15, rfl⟩ := hF.dp 10 15 (by kernel_rfl)
      exact gg_val rfl rfl _ _ (run_fieldR (o := 1) (k := 0) Tryz.underlying39 rfl rfl (by kernel_rfl) e15) rfl (GG.refl _)
    · intro a1 w1 hG hF
      have hG := GG.gr hG
      obtain ⟨_, e16, rfl⟩ := hF.dp 11 16 (by kernel_rfl)
      exact gg_val rfl rfl _ _ (run_load1 Tryz.underlying3 e16 (Gr.cell ((Gr.drew w0).trans hG) b1)) rfl (GG.refl _)
    · intro a1 w1 hG hF
      have hG := GG.gr hG
      obtain ⟨_, e14, rfl⟩ := hF.dp 9 14 (by kernel_rfl)
      obtain ⟨_, e17, rfl⟩ := hF.dp 12 17 (by kernel_rfl)
      exact gg_call rfl rfl _ _ (by simp only [execOp, resolve, invoke, List.map_toArray, List.map_cons, List.map_nil, e14, e17]; go_simp) _ (HI.out b y w1) rfl (GG.refl _)
    · intro a1 w1 hG hF
      have hG := GG.gr hG
      obtain ⟨_, e11, rfl⟩ := hF.dp 6 11 (by kernel_rfl)
      obtain ⟨_, e18, rfl⟩ := hF.dp 13 18 (by kernel_rfl)
      exact gg_val rfl rfl (.slice (some ⟨w1.heap.size, 0, none⟩) 2 2) (w1.alloc (.cells #[.int .i64 (cmpZ a x), .int .i64 (cmpZ b y)] 3)) (run_build2I e11 e18) ⟨_, rfl, Arr.newAt rfl rfl⟩ (GG.alloc _ _)
  · intro vs w1 hG hf
    have yB : (Row2 (cmpZ a x) (cmpZ b y)) (vs 14) w1 := hf.2.2.2.2.2.2.2.2.2.2.2.2.2.2.1
    clear hf
    simp only [List.take_succ_cons, List.take_zero, List.drop_succ_cons, List.drop_zero, putAll, Nat.zero_add, Nat.reduceAdd]
    have gF := (gb.trans (GG.drew _)).trans hG
    obtain ⟨gr, hy, hA⟩ := yB
    rw [hy]
    unfold wpList
    go_simp
    refine .inl ?_
    refine (or2_any hA).mono ?_
    rintro e _ ⟨rfl, rfl⟩
    go_simp
    go_wp2_with fail
    go_ret
    exact ⟨rfl, gF⟩
end Go.Proofs.YteckblffpidigaaGreatDoor
