/- Texts of one proof, laid as one: part 7. No condition. -/
import Derived.Test.YtjpphldojbfpfaaGreatDoorZf01
import Derived.Test.YtjpphldojbfpfaaGreatDoorZf02
import Derived.Test.YtjpphldojbfpfaaGreatDoorZf04
import Derived.Test.YtjpphldojbfpfaaGreatDoorZf06
namespace Go.Proofs.YtjpphldojbfpfaaGreatDoor
open Go.RowKit
def numsV (l : List Nat) : List Value := l.map fun n : Nat => Value.int .i64 (n : Int)
def ctxC (c : CtxM) (M : Option Addr) (m cM : Nat) : List Value := numsV c.upto ++ [.slice M m cM]
theorem numsV_length (l : List Nat) : (numsV l).length = l.length := by simp [numsV]
theorem numsV_at {l : List Nat} {i : Nat} (h : i < l.length) : (numsV l)[i]? = some (.int .i64 ((l.getD i 0 : Nat) : Int)) := by
  unfold numsV; rw [List.getElem?_map, List.getD_eq_getElem?_getD, List.getElem?_eq_getElem h]; rfl
theorem numsV_one (l : List Nat) : ∀ v ∈ numsV l, v.oneCell' = true := by
  intro v hv; unfold numsV at hv; obtain ⟨x, _, rfl⟩ := List.mem_map.1 hv; rfl
theorem ctxC_length {c : CtxM} (h : c.upto.length = 16) (M : Option Addr) (m cM : Nat) : (ctxC c M m cM).length = 17 := by
  unfold ctxC; rw [List.length_append, numsV_length, h]; rfl
theorem ctxC_up {c : CtxM} (h : c.upto.length = 16) (M : Option Addr) (m cM : Nat) {k : Nat} (hk : 1 ≤ k ∧ k ≤ 16) : (ctxC c M m cM)[k - 1]? = some (.int .i64 (upOf c k : Int)) := by
  unfold ctxC; rw [List.getElem?_append_left (by rw [numsV_length, h]; omega), numsV_at (by rw [h]; omega)]; rfl
theorem ctxC_more {c : CtxM} (h : c.upto.length = 16) (M : Option Addr) (m cM : Nat) : (ctxC c M m cM)[16]? = some (.slice M m cM) := by
  unfold ctxC; rw [List.getElem?_append_right (by rw [numsV_length, h]; exact Nat.le_refl _), numsV_length, h]; rfl
theorem ctxC_one (c : CtxM) (M : Option Addr) (m cM : Nat) : ∀ v ∈ ctxC c M m cM, v.oneCell' = true := by
  intro v hv; unfold ctxC at hv; rcases List.mem_append.1 hv with hv | hv
  · exact numsV_one _ v hv
  · have : v = .slice M m cM := by simpa using hv
    rw [this]; rfl
theorem infoCtx {c : CtxM} (h : c.upto.length = 16) (M : Option Addr) (m cM : Nat) : (Tryz.prog.info? 42).map (·.size) = some (ctxC c M m cM).length := by
  rw [ctxC_length h]
  kernel_rfl
theorem info16 {l : List Nat} (h : l.length = 16) : (Tryz.prog.info? 39).map (·.size) = some (numsV l).length := by
  rw [numsV_length, h]
  kernel_rfl
theorem upOf_le {c : CtxM} (hc : OkC c) (k : Nat) : upOf c k ≤ 1099511627776 := by
  unfold upOf; rw [List.getD_eq_getElem?_getD]; cases h : c.upto[k - 1]? with
  | none => simp
  | some n => exact hc.small n (List.mem_of_getElem? h)
theorem ordD_lt {p q : DotM} (h : dLt p q) (w : World) : Calls Tryz.prog 156 #[.agg (encD p).toArray, .agg (encD q).toArray] w fun e w' => ∃ z : Int, e = .returned (.int .i64 z) ∧ z < 0 ∧ Gr w w' :=
  (ordD_any (p.1 : Int) (p.2 : Int) (q.1 : Int) (q.2 : Int) w).mono fun _ _ ⟨he, hG⟩ => ⟨_, he, (cfD_lt p q).2 h, hG.gr⟩
def NegV (v : Value) (_ : World) : Prop := ∃ z : Int, v = .int .i64 z ∧ z < 0
set_option maxRecDepth 100000 in
set_option maxHeartbeats 4000000 in
theorem more_any {c : CtxM} {M : Option Addr} {m cM : Nat} {w : World} (hc : OkC c) (hM : DotsR w M m c.more) (i : Nat) (hi : i < m) :
    Calls Tryz.prog 145 #[.agg (ctxC c M m cM).toArray, .int .i64 (i : Int)] w fun e w' => e = .returned (.bool true) ∧ Gr w w' := by
  have hm32 : m ≤ 32 := by rw [← hM.1]; exact hc.few
  obtain ⟨d, hd⟩ : ∃ d, c.more[i]? = some d := ⟨_, List.getElem?_eq_getElem (by rw [hM.1]; exact hi)⟩; obtain ⟨hdr, hdg⟩ := hc.right d (List.mem_of_getElem? hd); have hul := upOf_le hc d.1; obtain ⟨U, hU⟩ : ∃ U, U = upOf c d.1 := ⟨_, rfl⟩; have hup := ctxC_up hc.len M m cM ⟨hdr.1, hdr.2.1⟩; rw [← hU] at hdg hul hup; have hmo := ctxC_more hc.len M m cM; have hcl := ctxC_length hc.len M m cM; obtain ⟨bA, oA, rfl, hr⟩ := hM.2 i d hd; have HM := Lib.hid hM; have HD := Lib.hid hd; have hd1 := hdr.1; have hd16 := hdr.2.1; have HR := Lib.hid (right_any d hdr); have hki : (i : Int) < (m : Int) := by omega
  have HS := Lib.hid hc.sorted; obtain ⟨C, hC⟩ : ∃ C, C = ctxC c (some ⟨bA, oA, none⟩) m cM := ⟨_, rfl⟩; rw [← hC] at hup hmo hcl ⊢; clear hM hd hdr hU hc hC; have hA : Arr (w.alloc (.cells C.toArray 42)) w.heap.size 42 C := Arr.newAt rfl rfl; have hG : Gr w (w.alloc (.cells C.toArray 42)) := Gr.alloc _ _
  go_enter Tryz.func145, Tryz.ntmps145
  go_upto_region 1 with fail
  change Code.wp _ _ _ _ (w.alloc (.cells C.toArray 42)); generalize w.alloc (.cells C.toArray 42) = w0 at hA hG ⊢; generalize w.heap.size = g2 at hA ⊢; have hr0 := hG.range hr; have hcM := hA.cell hmo
  go_upto_region 2 with first
    | (refine wpList_load_mid rfl _ _ rfl bA (oA + i * 2) rfl (encD d) _ hr0 Tryz.underlying38 rfl (infoDot d) ?_)
    | (refine wpList_new (w := w0) (t := 38) rfl _ _ _ rfl w0.heap.size (encD d) rfl rfl rfl (by kernel_rfl) (infoDot d) (encD_one d) ?_; intro w5 hA5 hG5)
  have hA2 := hA.gr hG5; have hG05 := hG.trans hG5; have hcU := hA2.cell hup; have hcM5 := hA2.cell hmo; have hcD1 := hA5.cell (i := 0) (v := .int .i64 (d.1 : Int)) rfl; have hcD2 := hA5.cell (i := 1) (v := .int .i64 (d.2 : Int)) rfl; generalize w0.heap.size = g5 at hA5 hcD1 hcD2 ⊢; have hgi : (U : Int) + 1 < (d.2 : Int) := by omega
  clear hA hG hG5 hr0 hcM hdg; cases i with
  | zero =>
    refine wp_region_ssaL (by kernel_rfl) [IsV (.agg (encD d).toArray), IsV (.bool true), IsV (.bool true), IsV (.pointer (some ⟨g5, 1, none⟩)), IsV (.int .i64 ((d.2 : Nat) : Int)), IsV (.pointer (some ⟨g5, 0, none⟩)), IsV (.int .i64 ((d.1 : Nat) : Int)), IsV (.int .i64 ((d.1 - 1 : Nat) : Int)), IsV (.pointer (some ⟨g2, 0, none⟩)), IsV (.pointer (some ⟨g2, d.1 - 1, none⟩)), IsV (.int .i64 ((U : Nat) : Int)), IsV (.int .i64 ((U + 1 : Nat) : Int)), IsV (.bool true), IsV (.bool true), IsV (.bool true), IsV (.int .i64 ((0 : Nat) : Int)), IsV (.bool true), IsV (.bool true), IsV (undef), IsV (undef), IsV (undef), IsV (undef), IsV (undef), IsV (undef), IsV (undef), IsV (undef), IsV (undef), IsV (.bool true), IsV (.bool true), IsV (.bool true)] (by kernel_rfl) ?_ ?_ ?_
    · intro φ hφ v w1 w2 h hg; simp only [List.mem_cons, List.not_mem_nil, or_false] at hφ; rcases hφ with rfl | rfl | rfl | rfl | rfl | rfl | rfl | rfl | rfl | rfl | rfl | rfl | rfl | rfl | rfl | rfl | rfl | rfl | rfl | rfl | rfl | rfl | rfl | rfl | rfl | rfl | rfl | rfl | rfl | rfl
      all_goals first | exact h | exact RdV.gr h hg | exact NegV.gr h
    · refine ⟨?_, ?_, ?_, ?_, ?_, ?_, ?_, ?_, ?_, ?_, ?_, ?_, ?_, ?_, ?_, ?_, ?_, ?_, ?_, ?_, ?_, ?_, ?_, ?_, ?_, ?_, ?_, ?_, ?_, ?_, trivial⟩
      · intro a1 w1 hG hF; have e5 : a1.eval (.tmp 5) = .pointer (some ⟨g5, 0, none⟩) := hF.ol 5 (by kernel_rfl); exact s_wp rfl (wants0 rfl) (wp_load_mid _ _ rfl g5 0 e5 (encD d) _ (((Gr.drew w5).trans hG).range (Arr.range hA5)) Tryz.underlying38 rfl (infoDot d) ⟨_, rfl, rfl, Gr.refl _⟩)
      · intro a1 w1 hG hF; obtain ⟨_, e11, rfl⟩ := hF.dp 0 11 (by kernel_rfl); exact s_call rfl (wants0 rfl) _ rfl _ _ (by simp only [execOp, resolve, invoke, List.map_toArray, List.map_cons, List.map_nil, e11]; go_simp) ((HR.out w1).mono fun e w2 ⟨he, hb⟩ => ⟨_, he, rfl, hb⟩)
      · intro a1 w1 hG hF; exact s_same rfl (wants0 rfl) (.tmp 12) (.inr rfl) (hF.dp 1 12 (by kernel_rfl))
      · intro a1 w1 hG hF; have e5 : a1.eval (.tmp 5) = .pointer (some ⟨g5, 0, none⟩) := hF.ol 5 (by kernel_rfl); exact s_is rfl (wantsG hF 2 13 true rfl (by kernel_rfl) rfl) _ rfl (run_fieldR (o := 1) (k := 0) Tryz.underlying38 rfl rfl (by kernel_rfl) e5)
      · intro a1 w1 hG hF; obtain ⟨_, e14, rfl⟩ := hF.dp 3 14 (by kernel_rfl); exact s_is rfl (wantsG hF 2 13 true rfl (by kernel_rfl) rfl) _ rfl (run_load1 Tryz.underlying3 e14 (Gr.cell ((Gr.drew w5).trans hG) hcD2))
      · intro a1 w1 hG hF; have e5 : a1.eval (.tmp 5) = .pointer (some ⟨g5, 0, none⟩) := hF.ol 5 (by kernel_rfl); exact s_is rfl (wantsG hF 2 13 true rfl (by kernel_rfl) rfl) _ rfl (run_fieldR (o := 0) (k := 0) Tryz.underlying38 rfl rfl (by kernel_rfl) e5)
      · intro a1 w1 hG hF; obtain ⟨_, e16, rfl⟩ := hF.dp 5 16 (by kernel_rfl); exact s_is rfl (wantsG hF 2 13 true rfl (by kernel_rfl) rfl) _ rfl (run_load1 Tryz.underlying3 e16 (Gr.cell ((Gr.drew w5).trans hG) hcD1))
      · intro a1 w1 hG hF; obtain ⟨_, e17, rfl⟩ := hF.dp 6 17 (by kernel_rfl); exact s_is rfl (wantsG hF 2 13 true rfl (by kernel_rfl) rfl) _ rfl (run_subN (a := d.1) (b := 1) e17 rfl (by omega) (by omega))
      · intro a1 w1 hG hF; have e2 : a1.eval (.tmp 2) = .pointer (some ⟨g2, 0, none⟩) := hF.ol 2 (by kernel_rfl); exact s_is rfl (wantsG hF 2 13 true rfl (by kernel_rfl) rfl) _ rfl (run_fieldR (o := 0) (k := 15) Tryz.underlying42 rfl rfl (by kernel_rfl) e2)
      · intro a1 w1 hG hF; obtain ⟨_, e19, rfl⟩ := hF.dp 8 19 (by kernel_rfl); obtain ⟨_, e18, rfl⟩ := hF.dp 7 18 (by kernel_rfl); exact s_is rfl (wantsG hF 2 13 true rfl (by kernel_rfl) rfl) _ rfl (run_idx (i := d.1 - 1) Tryz.underlying39 (by kernel_rfl) e19 e18 (by omega))
      · intro a1 w1 hG hF; obtain ⟨_, e20, rfl⟩ := hF.dp 9 20 (by kernel_rfl); exact s_is rfl (wantsG hF 2 13 true rfl (by kernel_rfl) rfl) _ rfl (run_load1 Tryz.underlying3 e20 (Gr.cell ((Gr.drew w5).trans hG) hcU))
      · intro a1 w1 hG hF; obtain ⟨_, e21, rfl⟩ := hF.dp 10 21 (by kernel_rfl); exact s_is rfl (wantsG hF 2 13 true rfl (by kernel_rfl) rfl) _ rfl (run_addN (a := U) (b := 1) e21 rfl (by omega))
      · intro a1 w1 hG hF; obtain ⟨_, e15, rfl⟩ := hF.dp 4 15 (by kernel_rfl); obtain ⟨_, e22, rfl⟩ := hF.dp 11 22 (by kernel_rfl); exact s_is rfl (wantsG hF 2 13 true rfl (by kernel_rfl) rfl) _ rfl (by simp only [execOp, e15, e22]; go_simp; try omega)
      · intro a1 w1 hG hF; obtain ⟨_, e13, rfl⟩ := hF.dp 2 13 (by kernel_rfl); obtain ⟨_, e23, rfl⟩ := hF.dp 12 23 (by kernel_rfl); exact s_pick rfl (wants0 rfl) (.tmp 13) (.tmp 23) _ rfl e13 _ e23 rfl
      · intro a1 w1 hG hF; exact s_same rfl (wants0 rfl) (.tmp 24) (.inr rfl) (hF.dp 13 24 (by kernel_rfl))
      · intro a1 w1 hG hF; exact s_old rfl (wantsG hF 14 25 true rfl (by kernel_rfl) rfl) (.tmp 1) (.inr rfl) (.int .i64 ((0 : Nat) : Int)) (hF.ol 1 (by kernel_rfl)) rfl
      · intro a1 w1 hG hF; obtain ⟨_, e26, rfl⟩ := hF.dp 15 26 (by kernel_rfl); exact s_is rfl (wantsG hF 14 25 true rfl (by kernel_rfl) rfl) _ rfl (by simp only [execOp, e26]; go_simp)
      · intro a1 w1 hG hF; exact s_same rfl (wantsG hF 14 25 true rfl (by kernel_rfl) rfl) (.tmp 27) (.inr rfl) (hF.dp 16 27 (by kernel_rfl))
      · intro a1 w1 hG hF; exact s_not rfl (notN hF 17 28 false rfl (by kernel_rfl) rfl) rfl
      · intro a1 w1 hG hF; exact s_not rfl (notN hF 17 28 false rfl (by kernel_rfl) rfl) rfl
      · intro a1 w1 hG hF; exact s_not rfl (notN hF 17 28 false rfl (by kernel_rfl) rfl) rfl
      · intro a1 w1 hG hF; exact s_not rfl (notN hF 17 28 false rfl (by kernel_rfl) rfl) rfl
      · intro a1 w1 hG hF; exact s_not rfl (notN hF 17 28 false rfl (by kernel_rfl) rfl) rfl
      · intro a1 w1 hG hF; exact s_not rfl (notN hF 17 28 false rfl (by kernel_rfl) rfl) rfl
      · intro a1 w1 hG hF; exact s_not rfl (notN hF 17 28 false rfl (by kernel_rfl) rfl) rfl
      · intro a1 w1 hG hF; exact s_not rfl (notN hF 17 28 false rfl (by kernel_rfl) rfl) rfl
      · intro a1 w1 hG hF; exact s_not rfl (notN hF 17 28 false rfl (by kernel_rfl) rfl) rfl
      · intro a1 w1 hG hF; obtain ⟨_, e28, rfl⟩ := hF.dp 17 28 (by kernel_rfl); exact s_pick rfl (wantsG hF 14 25 true rfl (by kernel_rfl) rfl) (.tmp 28) _ _ rfl e28 _ rfl rfl
      · intro a1 w1 hG hF; obtain ⟨_, e25, rfl⟩ := hF.dp 14 25 (by kernel_rfl); obtain ⟨_, e38, rfl⟩ := hF.dp 27 38 (by kernel_rfl); exact s_pick rfl (wants0 rfl) (.tmp 25) (.tmp 38) _ rfl e25 _ e38 rfl
      · intro a1 w1 hG hF; exact s_same rfl (wants0 rfl) (.tmp 39) (.inl rfl) (hF.dp 28 39 (by kernel_rfl))
    · intro vs w1 hG hf; have z4 : vs 29 = .bool true := hf.2.2.2.2.2.2.2.2.2.2.2.2.2.2.2.2.2.2.2.2.2.2.2.2.2.2.2.2.2.1; clear hf; simp only [putAll, Nat.zero_add, Nat.reduceAdd, z4]; have hGe := hG05.trans ((Gr.drew w5).trans hG); clear hG hG05; go_simp; go_wp2_with fail
      go_ret
      exact ⟨rfl, hGe⟩
  | succ j =>
    obtain ⟨p, hp⟩ : ∃ p, c.more[j]? = some p := ⟨_, List.getElem?_eq_getElem (by rw [HM.out.1]; omega)⟩
    have hpd : dLt p d := by
      have h1 := List.pairwise_iff_getElem.1 HS.out j (j + 1) (by rw [HM.out.1]; omega) (by rw [HM.out.1]; omega) (by omega); have e1 := List.getElem?_eq_some_iff.1 hp; have e2 := List.getElem?_eq_some_iff.1 HD.out; rw [e1.2, e2.2] at h1; exact h1
    obtain ⟨bP, oP, heP, hrP⟩ := HM.out.2 j p hp; injection heP with heP
    injection heP with heP1 heP2
    subst heP1 heP2; have hrP5 := hG05.range hrP; have hkj : (j : Int) < (m : Int) := by omega
    have HO := Lib.hid (ordD_lt hpd); clear hp hpd hrP HS HD; refine wp_region_ssaL (by kernel_rfl) [IsV (.agg (encD d).toArray), IsV (.bool true), IsV (.bool true), IsV (.pointer (some ⟨g5, 1, none⟩)), IsV (.int .i64 ((d.2 : Nat) : Int)), IsV (.pointer (some ⟨g5, 0, none⟩)), IsV (.int .i64 ((d.1 : Nat) : Int)), IsV (.int .i64 ((d.1 - 1 : Nat) : Int)), IsV (.pointer (some ⟨g2, 0, none⟩)), IsV (.pointer (some ⟨g2, d.1 - 1, none⟩)), IsV (.int .i64 ((U : Nat) : Int)), IsV (.int .i64 ((U + 1 : Nat) : Int)), IsV (.bool true), IsV (.bool true), IsV (.bool true), IsV (.int .i64 ((j + 1 : Nat) : Int)), IsV (.bool false), IsV (.bool false), IsV (.pointer (some ⟨g2, 16, none⟩)), IsV (.slice (some ⟨bA, oA, none⟩) m cM), IsV (.int .i64 ((j + 1 : Nat) : Int)), IsV (.int .i64 ((j : Nat) : Int)), IsV (.pointer (some ⟨bA, oA + j * 2, none⟩)), IsV (.agg (encD p).toArray), IsV (.agg (encD d).toArray), NegV, IsV (.bool true), IsV (.bool true), IsV (.bool true), IsV (.bool true)] (by kernel_rfl) ?_ ?_ ?_
    · intro φ hφ v w1 w2 h hg; simp only [List.mem_cons, List.not_mem_nil, or_false] at hφ; rcases hφ with rfl | rfl | rfl | rfl | rfl | rfl | rfl | rfl | rfl | rfl | rfl | rfl | rfl | rfl | rfl | rfl | rfl | rfl | rfl | rfl | rfl | rfl | rfl | rfl | rfl | rfl | rfl | rfl | rfl | rfl
      all_goals first | exact h | exact RdV.gr h hg | exact NegV.gr h
    · refine ⟨?_, ?_, ?_, ?_, ?_, ?_, ?_, ?_, ?_, ?_, ?_, ?_, ?_, ?_, ?_, ?_, ?_, ?_, ?_, ?_, ?_, ?_, ?_, ?_, ?_, ?_, ?_, ?_, ?_, ?_, trivial⟩
      · intro a1 w1 hG hF; have e5 : a1.eval (.tmp 5) = .pointer (some ⟨g5, 0, none⟩) := hF.ol 5 (by kernel_rfl); exact s_wp rfl (wants0 rfl) (wp_load_mid _ _ rfl g5 0 e5 (encD d) _ (((Gr.drew w5).trans hG).range (Arr.range hA5)) Tryz.underlying38 rfl (infoDot d) ⟨_, rfl, rfl, Gr.refl _⟩)
      · intro a1 w1 hG hF; obtain ⟨_, e11, rfl⟩ := hF.dp 0 11 (by kernel_rfl); exact s_call rfl (wants0 rfl) _ rfl _ _ (by simp only [execOp, resolve, invoke, List.map_toArray, List.map_cons, List.map_nil, e11]; go_simp) ((HR.out w1).mono fun e w2 ⟨he, hb⟩ => ⟨_, he, rfl, hb⟩)
      · intro a1 w1 hG hF; exact s_same rfl (wants0 rfl) (.tmp 12) (.inr rfl) (hF.dp 1 12 (by kernel_rfl))
      · intro a1 w1 hG hF; have e5 : a1.eval (.tmp 5) = .pointer (some ⟨g5, 0, none⟩) := hF.ol 5 (by kernel_rfl); exact s_is rfl (wantsG hF 2 13 true rfl (by kernel_rfl) rfl) _ rfl (run_fieldR (o := 1) (k := 0) Tryz.underlying38 rfl rfl (by kernel_rfl) e5)
      · intro a1 w1 hG hF; obtain ⟨_, e14, rfl⟩ := hF.dp 3 14 (by kernel_rfl); exact s_is rfl (wantsG hF 2 13 true rfl (by kernel_rfl) rfl) _ rfl (run_load1 Tryz.underlying3 e14 (Gr.cell ((Gr.drew w5).trans hG) hcD2))
      · intro a1 w1 hG hF; have e5 : a1.eval (.tmp 5) = .pointer (some ⟨g5, 0, none⟩) := hF.ol 5 (by kernel_rfl); exact s_is rfl (wantsG hF 2 13 true rfl (by kernel_rfl) rfl) _ rfl (run_fieldR (o := 0) (k := 0) Tryz.underlying38 rfl rfl (by kernel_rfl) e5)
      · intro a1 w1 hG hF; obtain ⟨_, e16, rfl⟩ := hF.dp 5 16 (by kernel_rfl); exact s_is rfl (wantsG hF 2 13 true rfl (by kernel_rfl) rfl) _ rfl (run_load1 Tryz.underlying3 e16 (Gr.cell ((Gr.drew w5).trans hG) hcD1))
      · intro a1 w1 hG hF; obtain ⟨_, e17, rfl⟩ := hF.dp 6 17 (by kernel_rfl); exact s_is rfl (wantsG hF 2 13 true rfl (by kernel_rfl) rfl) _ rfl (run_subN (a := d.1) (b := 1) e17 rfl (by omega) (by omega))
      · intro a1 w1 hG hF; have e2 : a1.eval (.tmp 2) = .pointer (some ⟨g2, 0, none⟩) := hF.ol 2 (by kernel_rfl); exact s_is rfl (wantsG hF 2 13 true rfl (by kernel_rfl) rfl) _ rfl (run_fieldR (o := 0) (k := 15) Tryz.underlying42 rfl rfl (by kernel_rfl) e2)
      · intro a1 w1 hG hF; obtain ⟨_, e19, rfl⟩ := hF.dp 8 19 (by kernel_rfl); obtain ⟨_, e18, rfl⟩ := hF.dp 7 18 (by kernel_rfl); exact s_is rfl (wantsG hF 2 13 true rfl (by kernel_rfl) rfl) _ rfl (run_idx (i := d.1 - 1) Tryz.underlying39 (by kernel_rfl) e19 e18 (by omega))
      · intro a1 w1 hG hF; obtain ⟨_, e20, rfl⟩ := hF.dp 9 20 (by kernel_rfl); exact s_is rfl (wantsG hF 2 13 true rfl (by kernel_rfl) rfl) _ rfl (run_load1 Tryz.underlying3 e20 (Gr.cell ((Gr.drew w5).trans hG) hcU))
      · intro a1 w1 hG hF; obtain ⟨_, e21, rfl⟩ := hF.dp 10 21 (by kernel_rfl); exact s_is rfl (wantsG hF 2 13 true rfl (by kernel_rfl) rfl) _ rfl (run_addN (a := U) (b := 1) e21 rfl (by omega))
      · intro a1 w1 hG hF; obtain ⟨_, e15, rfl⟩ := hF.dp 4 15 (by kernel_rfl); obtain ⟨_, e22, rfl⟩ := hF.dp 11 22 (by kernel_rfl); exact s_is rfl (wantsG hF 2 13 true rfl (by kernel_rfl) rfl) _ rfl (by simp only [execOp, e15, e22]; go_simp; try omega)
      · intro a1 w1 hG hF; obtain ⟨_, e13, rfl⟩ := hF.dp 2 13 (by kernel_rfl); obtain ⟨_, e23, rfl⟩ := hF.dp 12 23 (by kernel_rfl); exact s_pick rfl (wants0 rfl) (.tmp 13) (.tmp 23) _ rfl e13 _ e23 rfl
      · intro a1 w1 hG hF; exact s_same rfl (wants0 rfl) (.tmp 24) (.inr rfl) (hF.dp 13 24 (by kernel_rfl))
      · intro a1 w1 hG hF; exact s_old rfl (wantsG hF 14 25 true rfl (by kernel_rfl) rfl) (.tmp 1) (.inr rfl) (.int .i64 ((j + 1 : Nat) : Int)) (hF.ol 1 (by kernel_rfl)) rfl
      · intro a1 w1 hG hF; obtain ⟨_, e26, rfl⟩ := hF.dp 15 26 (by kernel_rfl); exact s_is rfl (wantsG hF 14 25 true rfl (by kernel_rfl) rfl) _ rfl (by simp only [execOp, e26]; go_simp; try omega)
      · intro a1 w1 hG hF; exact s_same rfl (wantsG hF 14 25 true rfl (by kernel_rfl) rfl) (.tmp 27) (.inr rfl) (hF.dp 16 27 (by kernel_rfl))
      · intro a1 w1 hG hF; have e2 : a1.eval (.tmp 2) = .pointer (some ⟨g2, 0, none⟩) := hF.ol 2 (by kernel_rfl); exact s_is rfl (wantsG hF 17 28 false rfl (by kernel_rfl) rfl) _ rfl (run_fieldR (o := 16) (k := 0) Tryz.underlying42 rfl rfl (by kernel_rfl) e2)
      · intro a1 w1 hG hF; obtain ⟨_, e29, rfl⟩ := hF.dp 18 29 (by kernel_rfl); exact s_is rfl (wantsG hF 17 28 false rfl (by kernel_rfl) rfl) _ rfl (run_load1B (.inr (.inr (.inr (.inl ⟨_, Tryz.underlying40⟩)))) e29 (Gr.cell ((Gr.drew w5).trans hG) hcM5))
      · intro a1 w1 hG hF; exact s_old rfl (wantsG hF 17 28 false rfl (by kernel_rfl) rfl) (.tmp 1) (.inr rfl) (.int .i64 ((j + 1 : Nat) : Int)) (hF.ol 1 (by kernel_rfl)) rfl
      · intro a1 w1 hG hF; obtain ⟨_, e31, rfl⟩ := hF.dp 20 31 (by kernel_rfl); exact s_is rfl (wantsG hF 17 28 false rfl (by kernel_rfl) rfl) _ rfl (run_subN (a := j + 1) (b := 1) e31 rfl (by omega) (by omega))
      · intro a1 w1 hG hF; obtain ⟨_, e30, rfl⟩ := hF.dp 19 30 (by kernel_rfl); obtain ⟨_, e32, rfl⟩ := hF.dp 21 32 (by kernel_rfl); exact s_is rfl (wantsG hF 17 28 false rfl (by kernel_rfl) rfl) _ rfl (by simp only [execOp, e30, e32]; go_simp; try (intro h; omega))
      · intro a1 w1 hG hF; obtain ⟨_, e33, rfl⟩ := hF.dp 22 33 (by kernel_rfl); exact s_wp rfl (wantsG hF 17 28 false rfl (by kernel_rfl) rfl) (wp_load_mid _ _ rfl bA (oA + j * 2) e33 (encD p) _ (((Gr.drew w5).trans hG).range hrP5) Tryz.underlying38 rfl (infoDot p) ⟨_, rfl, rfl, Gr.refl _⟩)
      · intro a1 w1 hG hF; have e5 : a1.eval (.tmp 5) = .pointer (some ⟨g5, 0, none⟩) := hF.ol 5 (by kernel_rfl); exact s_wp rfl (wantsG hF 17 28 false rfl (by kernel_rfl) rfl) (wp_load_mid _ _ rfl g5 0 e5 (encD d) _ (((Gr.drew w5).trans hG).range (Arr.range hA5)) Tryz.underlying38 rfl (infoDot d) ⟨_, rfl, rfl, Gr.refl _⟩)
      · intro a1 w1 hG hF; obtain ⟨_, e34, rfl⟩ := hF.dp 23 34 (by kernel_rfl); obtain ⟨_, e35, rfl⟩ := hF.dp 24 35 (by kernel_rfl); exact s_call rfl (wantsG hF 17 28 false rfl (by kernel_rfl) rfl) NegV rfl _ _ (by simp only [execOp, resolve, invoke, List.map_toArray, List.map_cons, List.map_nil, e34, e35]; go_simp) ((HO.out w1).mono fun e w2 ⟨z, he, hz, hb⟩ => ⟨_, he, ⟨z, rfl, hz⟩, hb⟩)
      · intro a1 w1 hG hF; obtain ⟨x36, e36, f36⟩ := hF.dp 25 36 (by kernel_rfl); obtain ⟨z, rfl, hz⟩ := f36; exact s_is rfl (wantsG hF 17 28 false rfl (by kernel_rfl) rfl) _ rfl (by simp only [execOp, e36]; go_simp)
      · intro a1 w1 hG hF; obtain ⟨_, e28, rfl⟩ := hF.dp 17 28 (by kernel_rfl); obtain ⟨_, e37, rfl⟩ := hF.dp 26 37 (by kernel_rfl); exact s_pickF rfl (wantsG hF 14 25 true rfl (by kernel_rfl) rfl) (.tmp 28) _ (.tmp 37) rfl e28 _ e37 rfl
      · intro a1 w1 hG hF; obtain ⟨_, e25, rfl⟩ := hF.dp 14 25 (by kernel_rfl); obtain ⟨_, e38, rfl⟩ := hF.dp 27 38 (by kernel_rfl); exact s_pick rfl (wants0 rfl) (.tmp 25) (.tmp 38) _ rfl e25 _ e38 rfl
      · intro a1 w1 hG hF; exact s_same rfl (wants0 rfl) (.tmp 39) (.inl rfl) (hF.dp 28 39 (by kernel_rfl))
    · intro vs w1 hG hf; have z4 : vs 29 = .bool true := hf.2.2.2.2.2.2.2.2.2.2.2.2.2.2.2.2.2.2.2.2.2.2.2.2.2.2.2.2.2.1; clear hf; simp only [putAll, Nat.zero_add, Nat.reduceAdd, z4]; have hGe := hG05.trans ((Gr.drew w5).trans hG); clear hG hG05; go_simp; go_wp2_with fail
      go_ret
      exact ⟨rfl, hGe⟩
end Go.Proofs.YtjpphldojbfpfaaGreatDoor
namespace Go.Proofs.YtjpphldojbfpfaaGreatDoor
open Go.RowKit
set_option maxRecDepth 100000 in
set_option maxHeartbeats 4000000 in
theorem check_any {c : CtxM} {M : Option Addr} {m cM : Nat} {w : World} (hc : OkC c) (hM : DotsR w M m c.more) :
    Calls Tryz.prog 121 #[.agg (ctxC c M m cM).toArray] w fun e w' => e = .returned (.int .i64 0) ∧ Gr w w' := by
  have hm32 : m ≤ 32 := by rw [← hM.1]; exact hc.few
  have hmo := ctxC_more hc.len M m cM; have hcl := ctxC_length hc.len M m cM; have HM := Lib.hid hM; have HC := Lib.hid hc; have hul := numsV_length c.upto; rw [hc.len] at hul; have HU := Lib.hid hul; have HI := Lib.hid (infoCtx hc.len M m cM); have HI16 := Lib.hid (info16 hc.len); obtain ⟨C, hC⟩ : ∃ C, C = ctxC c M m cM := ⟨_, rfl⟩; have HE := Lib.hid hC; rw [← hC] at hmo hcl HI ⊢
  have hrU : ∀ j u, (numsV c.upto)[j]? = some u → C[j]? = some u := fun j u h => by
    rw [hC]; unfold ctxC; rw [List.getElem?_append_left (List.getElem?_eq_some_iff.1 h).1]; exact h
  clear hM hc hC hul; have hA : Arr (w.alloc (.cells C.toArray 42)) w.heap.size 42 C := Arr.newAt rfl rfl; have hG : Gr w (w.alloc (.cells C.toArray 42)) := Gr.alloc _ _
  go_enter Tryz.func121, Tryz.ntmps121
  go_upto_region 1 with fail
  change Code.wp _ _ _ _ (w.alloc (.cells C.toArray 42)); generalize w.alloc (.cells C.toArray 42) = w0 at hA hG ⊢; generalize w.heap.size = g1 at hA ⊢
  have hr16 : w0.rangeAt g1 0 (numsV c.upto) := fun j u h => by
    rw [Nat.zero_add]; exact hA.cell (hrU j u h)
  clear hrU; obtain ⟨V, hV⟩ : ∃ V, V = numsV c.upto := ⟨_, rfl⟩; have HV := Lib.hid hV; rw [← hV] at hr16 HI16 HU; clear hV
  go_upto_region 2 with (refine wpList_load_mid rfl _ _ rfl g1 0 rfl V _ hr16 Tryz.underlying39 rfl HI16.out ?_)
  go_loopw [8] (fun k wr => ∃ i : Nat, i ≤ 16 ∧ k = .int .i64 (i : Int) ∧ Gr w0 wr) (fun k _ => 16 - (intOf k).toNat)
  case atStart => exact ⟨0, by omega, rfl, Gr.refl _⟩
  case round =>
    obtain ⟨i, hi, rfl, hGq⟩ := hrel
    by_cases hlt : i < 16
    · have c1 : (i : Int) < 16 := by omega
      obtain ⟨u, hu⟩ : ∃ u, u = c.upto.getD i 0 := ⟨_, rfl⟩
      have hu1 : (u : Int) ≤ 1099511627776 := by
        have := upOf_le HC.out (i + 1); unfold upOf at this; rw [Nat.add_sub_cancel, ← hu] at this; omega
      have hu0 : (0 : Int) ≤ (u : Int) := by omega
      have hix : ∀ w, (Instr.index 39 (.agg V.toArray) (.int .i64 (i : Int))).run Tryz.prog w = .ok (.int .i64 (u : Int)) w := fun w => run_indexA (P := Tryz.prog) Tryz.underlying39 Tryz.underlying3 (by kernel_rfl) (by rw [HV.out, hu]; exact numsV_at (by rw [HC.out.len]; exact hlt)) hlt w; clear hu; go_wp2_with fail
      exact ⟨⟨i + 1, by omega, by simp, hGq⟩, by simp only [intOf]; omega⟩
    · obtain rfl : i = 16 := by omega
      have hGw := hG.trans hGq; have hA := hA.gr hGq; clear hG hGq; have hcM := hA.cell hmo; have hcm : (m : Int) ≤ 32 := by omega
      go_upto_region 10 with fail
      go_simp
      go_loopw [25] (fun k wq => ∃ i : Nat, i ≤ m ∧ k = .int .i64 (i : Int) ∧ Gr wr wq) (fun k _ => m - (intOf k).toNat)
      case atStart => exact ⟨0, by omega, rfl, Gr.refl _⟩
      case round =>
        obtain ⟨i, hi, rfl, hGr⟩ := hrel
        by_cases hlt : i < m
        · have c2 : (i : Int) < (m : Int) := by omega
          have hAr := hA.gr hGr; have HMo := Lib.hid (more_any (cM := cM) HC.out (HM.out.gr (hGw.trans hGr)) i hlt); rw [← HE.out] at HMo
          go_wp2_with first
            | (refine wpList_load_mid rfl _ _ rfl g1 0 rfl C _ (Arr.range hAr) Tryz.underlying42 rfl HI.out ?_)
            | (go_at_call 145; refine HMo.out.mono ?_; rintro e w3 ⟨rfl, hG3⟩)
          exact ⟨⟨i + 1, by omega, by simp, hGr.trans hG3⟩, by simp only [intOf]; omega⟩
        · have c2 : ¬ (i : Int) < (m : Int) := by omega
          have hGe := hGw.trans hGr; go_wp2_with fail
          go_ret
          exact ⟨rfl, hGe⟩
set_option maxRecDepth 100000 in
set_option maxHeartbeats 4000000 in
theorem has_any {c : CtxM} {d : DotM} {M : Option Addr} {m cM : Nat} {w : World} (hc : OkC c) (hd : rightD d) (hM : DotsR w M m c.more) :
    Calls Tryz.prog 144 #[.agg (ctxC c M m cM).toArray, .agg (encD d).toArray] w fun e w' => e = .returned (.bool (decide (hasC c d))) ∧ Gr w w' := by
  have hm32 : m ≤ 32 := by rw [← hM.1]; exact hc.few
  have hul := upOf_le hc d.1; obtain ⟨U, hU⟩ : ∃ U, U = upOf c d.1 := ⟨_, rfl⟩; have hup := ctxC_up hc.len M m cM ⟨hd.1, hd.2.1⟩; rw [← hU] at hul hup; have hmo := ctxC_more hc.len M m cM; have hd1 := hd.1; have hd16 := hd.2.1; have hd2 := hd.2.2.2; have HM := Lib.hid hM; obtain ⟨r, hr⟩ : ∃ r, r = decide (hasC c d) := ⟨_, rfl⟩; rw [← hr]; have HR : Hid (r = decide (d.2 ≤ U ∨ d ∈ c.more)) := Lib.hid (by rw [hr, hU]; rfl); obtain ⟨C, hC⟩ : ∃ C, C = ctxC c M m cM := ⟨_, rfl⟩; have hcl := ctxC_length hc.len M m cM; rw [← hC] at hup hmo hcl ⊢; clear hM hd hU hc hC hr; have hA0 : Arr (w.alloc (.cells C.toArray 42)) w.heap.size 42 C := Arr.newAt rfl rfl; have hsz : (w.alloc (.cells C.toArray 42)).heap.size = w.heap.size + 1 := Array.size_push _; have hA3 : Arr ((w.alloc (.cells C.toArray 42)).alloc (.cells (encD d).toArray 38)) (w.heap.size + 1) 38 (encD d) := by rw [← hsz]; exact Arr.newAt rfl rfl
  have hA2 := hA0.gr (Gr.alloc (w.alloc (.cells C.toArray 42)) (.cells (encD d).toArray 38)); have hG : Gr w ((w.alloc (.cells C.toArray 42)).alloc (.cells (encD d).toArray 38)) := (Gr.alloc _ _).trans (Gr.alloc _ _); clear hA0 hsz
  go_enter Tryz.func144, Tryz.ntmps144
  go_upto_region 1 with fail
  change Code.wp _ _ _ _ ((w.alloc (.cells C.toArray 42)).alloc (.cells (encD d).toArray 38)); generalize (w.alloc (.cells C.toArray 42)).alloc (.cells (encD d).toArray 38) = w5 at hA2 hA3 hG ⊢; generalize w.heap.size + 1 = g3 at hA3 ⊢; generalize w.heap.size = g2 at hA2 ⊢; have hcU := hA2.cell hup; have hcM5 := hA2.cell hmo; have hcD1 := hA3.cell (i := 0) (v := .int .i64 (d.1 : Int)) rfl; have hcD2 := hA3.cell (i := 1) (v := .int .i64 (d.2 : Int)) rfl; have HCo := Lib.hid (fun w1 (h1 : Gr w5 w1) => containsD_any (c := cM) (d := d) (HM.out.gr (hG.trans h1)) (by omega : m ≤ 1000000)); have hG5 := hG; clear hA2 hG HM
  by_cases hle : d.2 ≤ U
  · have hre : r = true := by rw [HR.out]; exact decide_eq_true (.inl hle)
    subst hre; have hgi : (d.2 : Int) ≤ (U : Int) := by omega
    refine wp_region_ssaL (by kernel_rfl) [IsV (.pointer (some ⟨g3, 1, none⟩)), IsV (.int .i64 ((d.2 : Nat) : Int)), IsV (.pointer (some ⟨g3, 0, none⟩)), IsV (.int .i64 ((d.1 : Nat) : Int)), IsV (.int .i64 ((d.1 - 1 : Nat) : Int)), IsV (.pointer (some ⟨g2, 0, none⟩)), IsV (.pointer (some ⟨g2, d.1 - 1, none⟩)), IsV (.int .i64 ((U : Nat) : Int)), IsV (.bool true), IsV (.bool true), IsV (undef), IsV (undef), IsV (undef), IsV (undef), IsV (.bool true), IsV (.bool true)] (by kernel_rfl) ?_ ?_ ?_
    · intro φ hφ v w1 w2 h hg; simp only [List.mem_cons, List.not_mem_nil, or_false] at hφ; rcases hφ with rfl | rfl | rfl | rfl | rfl | rfl | rfl | rfl | rfl | rfl | rfl | rfl | rfl | rfl | rfl | rfl
      all_goals first | exact h | exact RdV.gr h hg
    · refine ⟨?_, ?_, ?_, ?_, ?_, ?_, ?_, ?_, ?_, ?_, ?_, ?_, ?_, ?_, ?_, ?_, trivial⟩
      · intro a1 w1 hG hF; have e3 : a1.eval (.tmp 3) = .pointer (some ⟨g3, 0, none⟩) := hF.ol 3 (by kernel_rfl); exact s_is rfl (wants0 rfl) _ rfl (run_fieldR (o := 1) (k := 0) Tryz.underlying38 rfl rfl (by kernel_rfl) e3)
      · intro a1 w1 hG hF; obtain ⟨_, e5, rfl⟩ := hF.dp 0 5 (by kernel_rfl); exact s_is rfl (wants0 rfl) _ rfl (run_load1 Tryz.underlying3 e5 (Gr.cell ((Gr.drew w5).trans hG) hcD2))
      · intro a1 w1 hG hF; have e3 : a1.eval (.tmp 3) = .pointer (some ⟨g3, 0, none⟩) := hF.ol 3 (by kernel_rfl); exact s_is rfl (wants0 rfl) _ rfl (run_fieldR (o := 0) (k := 0) Tryz.underlying38 rfl rfl (by kernel_rfl) e3)
      · intro a1 w1 hG hF; obtain ⟨_, e7, rfl⟩ := hF.dp 2 7 (by kernel_rfl); exact s_is rfl (wants0 rfl) _ rfl (run_load1 Tryz.underlying3 e7 (Gr.cell ((Gr.drew w5).trans hG) hcD1))
      · intro a1 w1 hG hF; obtain ⟨_, e8, rfl⟩ := hF.dp 3 8 (by kernel_rfl); exact s_is rfl (wants0 rfl) _ rfl (run_subN (a := d.1) (b := 1) e8 rfl (by omega) (by omega))
      · intro a1 w1 hG hF; have e2 : a1.eval (.tmp 2) = .pointer (some ⟨g2, 0, none⟩) := hF.ol 2 (by kernel_rfl); exact s_is rfl (wants0 rfl) _ rfl (run_fieldR (o := 0) (k := 15) Tryz.underlying42 rfl rfl (by kernel_rfl) e2)
      · intro a1 w1 hG hF; obtain ⟨_, e10, rfl⟩ := hF.dp 5 10 (by kernel_rfl); obtain ⟨_, e9, rfl⟩ := hF.dp 4 9 (by kernel_rfl); exact s_is rfl (wants0 rfl) _ rfl (run_idx (i := d.1 - 1) Tryz.underlying39 (by kernel_rfl) e10 e9 (by omega))
      · intro a1 w1 hG hF; obtain ⟨_, e11, rfl⟩ := hF.dp 6 11 (by kernel_rfl); exact s_is rfl (wants0 rfl) _ rfl (run_load1 Tryz.underlying3 e11 (Gr.cell ((Gr.drew w5).trans hG) hcU))
      · intro a1 w1 hG hF; obtain ⟨_, e6, rfl⟩ := hF.dp 1 6 (by kernel_rfl); obtain ⟨_, e12, rfl⟩ := hF.dp 7 12 (by kernel_rfl); exact s_is rfl (wants0 rfl) _ rfl (by simp only [execOp, e6, e12]; go_simp; try omega)
      · intro a1 w1 hG hF; exact s_same rfl (wants0 rfl) (.tmp 13) (.inr rfl) (hF.dp 8 13 (by kernel_rfl))
      · intro a1 w1 hG hF; exact s_not rfl (notN hF 9 14 false rfl (by kernel_rfl) rfl) rfl
      · intro a1 w1 hG hF; exact s_not rfl (notN hF 9 14 false rfl (by kernel_rfl) rfl) rfl
      · intro a1 w1 hG hF; exact s_not rfl (notN hF 9 14 false rfl (by kernel_rfl) rfl) rfl
      · intro a1 w1 hG hF; exact s_not rfl (notN hF 9 14 false rfl (by kernel_rfl) rfl) rfl
      · intro a1 w1 hG hF; obtain ⟨_, e14, rfl⟩ := hF.dp 9 14 (by kernel_rfl); exact s_pick rfl (wants0 rfl) (.tmp 14) _ _ rfl e14 _ rfl rfl
      · intro a1 w1 hG hF; exact s_same rfl (wants0 rfl) (.tmp 19) (.inl rfl) (hF.dp 14 19 (by kernel_rfl))
    · intro vs w1 hG hf; have z4 : vs 15 = .bool true := hf.2.2.2.2.2.2.2.2.2.2.2.2.2.2.2.1; clear hf; simp only [putAll, Nat.zero_add, Nat.reduceAdd, z4]; have hGe := hG5.trans ((Gr.drew w5).trans hG); clear hG hG5; go_simp; go_wp2_with fail
      go_ret
      exact ⟨rfl, hGe⟩
  · have hre : r = decide (d ∈ c.more) := by
      rw [HR.out]; have : (d.2 ≤ U ∨ d ∈ c.more) ↔ d ∈ c.more := ⟨fun h => h.resolve_left hle, .inr⟩; simp only [this]
    have hgi : ¬ (d.2 : Int) ≤ (U : Int) := by omega
    rw [← hre] at HCo; clear hre; refine wp_region_ssaL (by kernel_rfl) [IsV (.pointer (some ⟨g3, 1, none⟩)), IsV (.int .i64 ((d.2 : Nat) : Int)), IsV (.pointer (some ⟨g3, 0, none⟩)), IsV (.int .i64 ((d.1 : Nat) : Int)), IsV (.int .i64 ((d.1 - 1 : Nat) : Int)), IsV (.pointer (some ⟨g2, 0, none⟩)), IsV (.pointer (some ⟨g2, d.1 - 1, none⟩)), IsV (.int .i64 ((U : Nat) : Int)), IsV (.bool false), IsV (.bool false), IsV (.pointer (some ⟨g2, 16, none⟩)), IsV (.slice M m cM), IsV (.agg (encD d).toArray), IsV (.bool r), IsV (.bool r), IsV (.bool r)] (by kernel_rfl) ?_ ?_ ?_
    · intro φ hφ v w1 w2 h hg; simp only [List.mem_cons, List.not_mem_nil, or_false] at hφ; rcases hφ with rfl | rfl | rfl | rfl | rfl | rfl | rfl | rfl | rfl | rfl | rfl | rfl | rfl | rfl | rfl | rfl
      all_goals first | exact h | exact RdV.gr h hg
    · refine ⟨?_, ?_, ?_, ?_, ?_, ?_, ?_, ?_, ?_, ?_, ?_, ?_, ?_, ?_, ?_, ?_, trivial⟩
      · intro a1 w1 hG hF; have e3 : a1.eval (.tmp 3) = .pointer (some ⟨g3, 0, none⟩) := hF.ol 3 (by kernel_rfl); exact s_is rfl (wants0 rfl) _ rfl (run_fieldR (o := 1) (k := 0) Tryz.underlying38 rfl rfl (by kernel_rfl) e3)
      · intro a1 w1 hG hF; obtain ⟨_, e5, rfl⟩ := hF.dp 0 5 (by kernel_rfl); exact s_is rfl (wants0 rfl) _ rfl (run_load1 Tryz.underlying3 e5 (Gr.cell ((Gr.drew w5).trans hG) hcD2))
      · intro a1 w1 hG hF; have e3 : a1.eval (.tmp 3) = .pointer (some ⟨g3, 0, none⟩) := hF.ol 3 (by kernel_rfl); exact s_is rfl (wants0 rfl) _ rfl (run_fieldR (o := 0) (k := 0) Tryz.underlying38 rfl rfl (by kernel_rfl) e3)
      · intro a1 w1 hG hF; obtain ⟨_, e7, rfl⟩ := hF.dp 2 7 (by kernel_rfl); exact s_is rfl (wants0 rfl) _ rfl (run_load1 Tryz.underlying3 e7 (Gr.cell ((Gr.drew w5).trans hG) hcD1))
      · intro a1 w1 hG hF; obtain ⟨_, e8, rfl⟩ := hF.dp 3 8 (by kernel_rfl); exact s_is rfl (wants0 rfl) _ rfl (run_subN (a := d.1) (b := 1) e8 rfl (by omega) (by omega))
      · intro a1 w1 hG hF; have e2 : a1.eval (.tmp 2) = .pointer (some ⟨g2, 0, none⟩) := hF.ol 2 (by kernel_rfl); exact s_is rfl (wants0 rfl) _ rfl (run_fieldR (o := 0) (k := 15) Tryz.underlying42 rfl rfl (by kernel_rfl) e2)
      · intro a1 w1 hG hF; obtain ⟨_, e10, rfl⟩ := hF.dp 5 10 (by kernel_rfl); obtain ⟨_, e9, rfl⟩ := hF.dp 4 9 (by kernel_rfl); exact s_is rfl (wants0 rfl) _ rfl (run_idx (i := d.1 - 1) Tryz.underlying39 (by kernel_rfl) e10 e9 (by omega))
      · intro a1 w1 hG hF; obtain ⟨_, e11, rfl⟩ := hF.dp 6 11 (by kernel_rfl); exact s_is rfl (wants0 rfl) _ rfl (run_load1 Tryz.underlying3 e11 (Gr.cell ((Gr.drew w5).trans hG) hcU))
      · intro a1 w1 hG hF; obtain ⟨_, e6, rfl⟩ := hF.dp 1 6 (by kernel_rfl); obtain ⟨_, e12, rfl⟩ := hF.dp 7 12 (by kernel_rfl); exact s_is rfl (wants0 rfl) _ rfl (by simp only [execOp, e6, e12]; go_simp; try omega)
      · intro a1 w1 hG hF; exact s_same rfl (wants0 rfl) (.tmp 13) (.inr rfl) (hF.dp 8 13 (by kernel_rfl))
      · intro a1 w1 hG hF; have e2 : a1.eval (.tmp 2) = .pointer (some ⟨g2, 0, none⟩) := hF.ol 2 (by kernel_rfl); exact s_is rfl (wantsG hF 9 14 false rfl (by kernel_rfl) rfl) _ rfl (run_fieldR (o := 16) (k := 0) Tryz.underlying42 rfl rfl (by kernel_rfl) e2)
      · intro a1 w1 hG hF; obtain ⟨_, e15, rfl⟩ := hF.dp 10 15 (by kernel_rfl); exact s_is rfl (wantsG hF 9 14 false rfl (by kernel_rfl) rfl) _ rfl (run_load1B (.inr (.inr (.inr (.inl ⟨_, Tryz.underlying40⟩)))) e15 (Gr.cell ((Gr.drew w5).trans hG) hcM5))
      · intro a1 w1 hG hF; have e3 : a1.eval (.tmp 3) = .pointer (some ⟨g3, 0, none⟩) := hF.ol 3 (by kernel_rfl); exact s_wp rfl (wantsG hF 9 14 false rfl (by kernel_rfl) rfl) (wp_load_mid _ _ rfl g3 0 e3 (encD d) _ (((Gr.drew w5).trans hG).range (Arr.range hA3)) Tryz.underlying38 rfl (infoDot d) ⟨_, rfl, rfl, Gr.refl _⟩)
      · intro a1 w1 hG hF; obtain ⟨_, e16, rfl⟩ := hF.dp 11 16 (by kernel_rfl); obtain ⟨_, e17, rfl⟩ := hF.dp 12 17 (by kernel_rfl); exact s_call rfl (wantsG hF 9 14 false rfl (by kernel_rfl) rfl) _ rfl _ _ (by simp only [execOp, resolve, invoke, List.map_toArray, List.map_cons, List.map_nil, e16, e17]; go_simp) ((HCo.out w1 ((Gr.drew w5).trans hG)).mono fun e w2 ⟨he, hb⟩ => ⟨_, he, rfl, hb⟩)
      · intro a1 w1 hG hF; obtain ⟨_, e14, rfl⟩ := hF.dp 9 14 (by kernel_rfl); obtain ⟨_, e18, rfl⟩ := hF.dp 13 18 (by kernel_rfl); exact s_pickF rfl (wants0 rfl) (.tmp 14) _ (.tmp 18) rfl e14 _ e18 rfl
      · intro a1 w1 hG hF; exact s_same rfl (wants0 rfl) (.tmp 19) (.inl rfl) (hF.dp 14 19 (by kernel_rfl))
    · intro vs w1 hG hf; have z4 : vs 15 = .bool r := hf.2.2.2.2.2.2.2.2.2.2.2.2.2.2.2.1; clear hf; simp only [putAll, Nat.zero_add, Nat.reduceAdd, z4]; have hGe := hG5.trans ((Gr.drew w5).trans hG); clear hG hG5; go_simp; go_wp2_with fail
      go_ret
      exact ⟨rfl, hGe⟩
end Go.Proofs.YtjpphldojbfpfaaGreatDoor
