/- Texts of one proof, laid as one: part 38. No condition. -/
import Derived.Shelf.SlSortCmp.WholeK
import Derived.Test.YtjpphldojbfpfaaGreatDoorProg
import Derived.Test.YtjpphldojbfpfaaGreatDoorZf03
import Derived.Test.YtjpphldojbfpfaaGreatDoorZf06
import Derived.Test.YtjpphldojbfpfaaGreatDoorZf08
import Derived.Test.YtjpphldojbfpfaaGreatDoorZf30
import Derived.Test.YtjpphldojbfpfaaGreatDoorZf32
import Derived.Test.YtjpphldojbfpfaaGreatDoorZf34
import Derived.Test.YtjpphldojbfpfaaGreatDoorZf37
namespace Go.Proofs.YtjpphldojbfpfaaGreatDoor
open Go.RowKit
def cfNam (x y : Nam) : Int := or2 (cmpZ x.z y.z) (Lib.compareBytes x.k.1 y.k.1)
set_option maxRecDepth 100000 in
set_option maxHeartbeats 8000000 in
theorem ordN_any (x y : Nam) (w : World) : Calls Tryz.prog 93 #[.agg (nameC x).toArray, .agg (nameC y).toArray] w fun e w' => e = .returned (.int .i64 (cfNam x y)) ∧ GG w w' := by
  have h2 : Arr (w.alloc (.cells (nameC x).toArray 69)) w.heap.size 69 (nameC x) := Arr.newAt rfl rfl; obtain ⟨wa, hwa⟩ : ∃ wa, wa = w.alloc (.cells (nameC x).toArray 69) := ⟨_, rfl⟩; have ga : GG w wa := by rw [hwa]; exact GG.alloc _ _
  rw [← hwa] at h2; have h3 : Arr (wa.alloc (.cells (nameC y).toArray 69)) wa.heap.size 69 (nameC y) := Arr.newAt rfl rfl; have h23 := h2.gr (Gr.alloc wa (.cells (nameC y).toArray 69)); have gb : GG w (wa.alloc (.cells (nameC y).toArray 69)) := ga.trans (GG.alloc _ _); have HI := Lib.hid cmpI_any; have hsz : wa.heap.size = w.heap.size + 1 := by rw [hwa]; exact Array.size_push _
  rw [hsz] at h3; clear hsz; subst hwa; have a0 := h23.cell (i := 0) (v := .int .i64 x.z) rfl; have b0 := h3.cell (i := 0) (v := .int .i64 y.z) rfl; have r0 := name_rd h23; have r1 := name_rd h3; clear h2 ga; obtain ⟨C, hC⟩ : ∃ C, C = nameC x := ⟨_, rfl⟩; obtain ⟨E, hE⟩ : ∃ E, E = nameC y := ⟨_, rfl⟩; rw [← hC] at h3 h23 gb a0 b0 r0 r1 ⊢; rw [← hE] at h3 h23 gb a0 b0 r0 r1 ⊢; clear hC hE; unfold cfNam; obtain ⟨a, ha⟩ : ∃ a, a = x.z := ⟨_, rfl⟩; obtain ⟨b, hb⟩ : ∃ b, b = y.z := ⟨_, rfl⟩; obtain ⟨u, hu⟩ : ∃ u, u = x.k.1 := ⟨_, rfl⟩; obtain ⟨v, hv⟩ : ∃ v, v = y.k.1 := ⟨_, rfl⟩; rw [← ha] at a0 ⊢; rw [← hb] at b0 ⊢; rw [← hu] at r0 ⊢; rw [← hv] at r1 ⊢; clear ha hb hu hv
  go_enter Tryz.func93, Tryz.ntmps93
  go_upto_region 1 with fail
  change Code.wp _ _ _ _ ((w.alloc (.cells C.toArray 69)).alloc (.cells E.toArray 69)); generalize (w.alloc (.cells C.toArray 69)).alloc (.cells E.toArray 69) = w0 at h3 h23 gb a0 b0 r0 r1 ⊢; generalize w.heap.size + 1 = g3 at h3 b0 r1 ⊢; generalize w.heap.size = g2 at h23 a0 r0 ⊢; refine wp_region_cutG GG GG.refl (fun _ _ _ => GG.trans) (by kernel_rfl) [IsV (.pointer (some ⟨g2, 0, none⟩)), IsV (.int .i64 (a)), IsV (.pointer (some ⟨g3, 0, none⟩)), IsV (.int .i64 (b)), IsV (.int .i64 (cmpZ a b)), IsV (.pointer (some ⟨g2, 1, none⟩)), IsV (.slice (some ⟨g2, 1, none⟩) 32 32), IsV (.pointer (some ⟨g3, 1, none⟩)), IsV (.slice (some ⟨g3, 1, none⟩) 32 32), IsV (.int .i64 (Lib.compareBytes u v)), Row2 (cmpZ a b) (Lib.compareBytes u v)] 11 (by decide) (by kernel_rfl) (by kernel_rfl) (by kernel_rfl) ?_ ?_ ?_
  · intro φ hφ v w1 w2 h hg; simp only [List.mem_cons, List.not_mem_nil, or_false] at hφ; rcases hφ with rfl | rfl | rfl | rfl | rfl | rfl | rfl | rfl | rfl | rfl | rfl
    all_goals first | exact h | exact Row2.gr h (GG.gr hg)
  · refine ⟨?_, ?_, ?_, ?_, ?_, ?_, ?_, ?_, ?_, ?_, ?_, trivial⟩
    · intro a1 w1 hG hF; have hG := GG.gr hG; have e2 : a1.eval (.tmp 2) = .pointer (some ⟨g2, 0, none⟩) := hF.ol 2 (by kernel_rfl); exact gg_val rfl rfl _ _ (run_fieldR (o := 0) (k := 0) Tryz.underlying69 rfl rfl (by kernel_rfl) e2) rfl (GG.refl _)
    · intro a1 w1 hG hF; have hG := GG.gr hG; obtain ⟨_, e5, rfl⟩ := hF.dp 0 5 (by kernel_rfl); exact gg_val rfl rfl _ _ (run_load1 Tryz.underlying3 e5 (Gr.cell ((Gr.drew w0).trans hG) a0)) rfl (GG.refl _)
    · intro a1 w1 hG hF; have hG := GG.gr hG; have e3 : a1.eval (.tmp 3) = .pointer (some ⟨g3, 0, none⟩) := hF.ol 3 (by kernel_rfl); exact gg_val rfl rfl _ _ (run_fieldR (o := 0) (k := 0) Tryz.underlying69 rfl rfl (by kernel_rfl) e3) rfl (GG.refl _)
    · intro a1 w1 hG hF; have hG := GG.gr hG; obtain ⟨_, e7, rfl⟩ := hF.dp 2 7 (by kernel_rfl); exact gg_val rfl rfl _ _ (run_load1 Tryz.underlying3 e7 (Gr.cell ((Gr.drew w0).trans hG) b0)) rfl (GG.refl _)
    · intro a1 w1 hG hF; have hG := GG.gr hG; obtain ⟨_, e6, rfl⟩ := hF.dp 1 6 (by kernel_rfl); obtain ⟨_, e8, rfl⟩ := hF.dp 3 8 (by kernel_rfl); exact gg_call rfl rfl _ _ (by simp only [execOp, resolve, invoke, List.map_toArray, List.map_cons, List.map_nil, e6, e8]; go_simp) _ (HI.out a b w1) rfl (GG.refl _)
    · intro a1 w1 hG hF; have hG := GG.gr hG; have e2 : a1.eval (.tmp 2) = .pointer (some ⟨g2, 0, none⟩) := hF.ol 2 (by kernel_rfl); exact gg_val rfl rfl _ _ (run_fieldR (o := 1) (k := 31) Tryz.underlying69 rfl rfl (by kernel_rfl) e2) rfl (GG.refl _)
    · intro a1 w1 hG hF; have hG := GG.gr hG; obtain ⟨_, e10, rfl⟩ := hF.dp 5 10 (by kernel_rfl); exact gg_val rfl rfl _ _ (by simp only [execOp, e10, Option.map, Sem.run_bind, run_cutAt (P := Tryz.prog) Tryz.underlying36 (by kernel_rfl), Result.andThen_ok, Sem.run_pure]) rfl (GG.refl _)
    · intro a1 w1 hG hF; have hG := GG.gr hG; have e3 : a1.eval (.tmp 3) = .pointer (some ⟨g3, 0, none⟩) := hF.ol 3 (by kernel_rfl); exact gg_val rfl rfl _ _ (run_fieldR (o := 1) (k := 31) Tryz.underlying69 rfl rfl (by kernel_rfl) e3) rfl (GG.refl _)
    · intro a1 w1 hG hF; have hG := GG.gr hG; obtain ⟨_, e12, rfl⟩ := hF.dp 7 12 (by kernel_rfl); exact gg_val rfl rfl _ _ (by simp only [execOp, e12, Option.map, Sem.run_bind, run_cutAt (P := Tryz.prog) Tryz.underlying36 (by kernel_rfl), Result.andThen_ok, Sem.run_pure]) rfl (GG.refl _)
    · intro a1 w1 hG hF; have hG := GG.gr hG; obtain ⟨_, e11, rfl⟩ := hF.dp 6 11 (by kernel_rfl); obtain ⟨_, e13, rfl⟩ := hF.dp 8 13 (by kernel_rfl); exact gg_call rfl rfl 129 #[.slice (some ⟨g2, 1, none⟩) 32 32, .slice (some ⟨g3, 1, none⟩) 32 32] (by simp only [execOp, resolve, invoke, List.map_toArray, List.map_cons, List.map_nil, e11, e13]; go_simp) _ (bcmp_any (((Gr.drew w0).trans hG).rd r0) (((Gr.drew w0).trans hG).rd r1)) rfl (GG.refl _)
    · intro a1 w1 hG hF; have hG := GG.gr hG; obtain ⟨_, e9, rfl⟩ := hF.dp 4 9 (by kernel_rfl); obtain ⟨_, e14, rfl⟩ := hF.dp 9 14 (by kernel_rfl); exact gg_val rfl rfl (.slice (some ⟨w1.heap.size, 0, none⟩) 2 2) (w1.alloc (.cells #[.int .i64 (cmpZ a b), .int .i64 (Lib.compareBytes u v)] 3)) (run_build2I e9 e14) ⟨_, rfl, Arr.newAt rfl rfl⟩ (GG.alloc _ _)
  · intro vs w1 hG hf; have yB : (Row2 (cmpZ a b) (Lib.compareBytes u v)) (vs 10) w1 := hf.2.2.2.2.2.2.2.2.2.2.1; clear hf; simp only [List.take_succ_cons, List.take_zero, List.drop_succ_cons, List.drop_zero, putAll, Nat.zero_add, Nat.reduceAdd]; have gF := (gb.trans (GG.drew _)).trans hG; obtain ⟨gr, hy, hA⟩ := yB; rw [hy]; unfold wpList; go_simp; refine .inl ?_; refine (or2_any hA).mono ?_; rintro e _ ⟨rfl, rfl⟩; go_simp; go_wp2_with fail
    go_ret
    exact ⟨rfl, gF⟩
end Go.Proofs.YtjpphldojbfpfaaGreatDoor
namespace Go.Proofs.YtjpphldojbfpfaaGreatDoor
open Go.Shelf
def NamSort_ren : Go.Shelf.Ren := ⟨fun | 6 => 127 | 15 => 149 | 14 => 148 | 28 => 165 | 29 => 166 | 20 => 157 | 21 => 158 | 22 => 159 | 23 => 160 | 24 => 161 | 25 => 162 | 26 => 163 | 27 => 164 | 46 => 179 | 47 => 180 | 48 => 181 | 49 => 182 | 50 => 183 | 57 => 190 | n => n, fun | 22 => 127 | 24 => 69 | 25 => 173 | 3 => 3 | 39 => 118 | 0 => 0 | 53 => 119 | 55 => 34 | 4 => 4 | 46 => 232 | 45 => 231 | 50 => 197 | 5 => 5 | 9 => 9 | 66 => 250 | 70 => 248 | 76 => 259 | 77 => 260 | n => n, fun | n => n⟩
theorem NamSort : Go.Proofs.SlLaysF0.n6 Tryz.prog NamSort_ren := {
  mixed := by kernel_rfl
  f6 := ⟨Tryz.f127.name, by decide, Tryz.func127.trans (congrArg some (by kernel_rfl))⟩
  f14 := ⟨Tryz.f148.name, by decide, Tryz.func148.trans (congrArg some (by kernel_rfl))⟩
  f15 := Tryz.func149.trans (congrArg some (by kernel_rfl))
  f20 := ⟨Tryz.f157.name, by decide, Tryz.func157.trans (congrArg some (by kernel_rfl))⟩
  f21 := ⟨Tryz.f158.name, by decide, Tryz.func158.trans (congrArg some (by kernel_rfl))⟩
  f22 := ⟨Tryz.f159.name, by decide, Tryz.func159.trans (congrArg some (by kernel_rfl))⟩
  f23 := ⟨Tryz.f160.name, by decide, Tryz.func160.trans (congrArg some (by kernel_rfl))⟩
  f24 := ⟨Tryz.f161.name, by decide, Tryz.func161.trans (congrArg some (by kernel_rfl))⟩
  f25 := ⟨Tryz.f162.name, by decide, Tryz.func162.trans (congrArg some (by kernel_rfl))⟩
  f26 := ⟨Tryz.f163.name, by decide, Tryz.func163.trans (congrArg some (by kernel_rfl))⟩
  f27 := ⟨Tryz.f164.name, by decide, Tryz.func164.trans (congrArg some (by kernel_rfl))⟩
  f28 := Tryz.func165.trans (congrArg some (by kernel_rfl))
  f29 := Tryz.func166.trans (congrArg some (by kernel_rfl))
  f46 := ⟨Tryz.f179.name, by decide, Tryz.func179.trans (congrArg some (by kernel_rfl))⟩
  f47 := Tryz.func180.trans (congrArg some (by kernel_rfl))
  f48 := Tryz.func181.trans (congrArg some (by kernel_rfl))
  f49 := ⟨Tryz.f182.name, by decide, Tryz.func182.trans (congrArg some (by kernel_rfl))⟩
  f50 := ⟨Tryz.f183.name, by decide, Tryz.func183.trans (congrArg some (by kernel_rfl))⟩
  f57 := ⟨Tryz.f190.name, by decide, Tryz.func190.trans (congrArg some (by kernel_rfl))⟩
  t0 := Tryz.underlying0
  a0 := Tryz.isAgg0
  z0 := Tryz.sizeOf0
  v0 := Tryz.zeroValue0
  t3 := Tryz.underlying3
  a3 := Tryz.isAgg3
  z3 := Tryz.sizeOf3
  v3 := Tryz.zeroValue3
  t4 := Tryz.underlying4
  a4 := Tryz.isAgg4
  z4 := Tryz.sizeOf4
  v4 := Tryz.zeroValue4
  t5 := Tryz.underlying5
  a5 := Tryz.isAgg5
  z5 := Tryz.sizeOf5
  v5 := Tryz.zeroValue5
  t9 := Tryz.underlying9
  a9 := Tryz.isAgg9
  z9 := Tryz.sizeOf9
  v9 := Tryz.zeroValue9
  t22 := Tryz.underlying127
  a22 := Tryz.isAgg127
  z22 := Tryz.sizeOf127
  v22 := Tryz.zeroValue127
  t25 := Tryz.underlying173
  a25 := Tryz.isAgg173
  z25 := Tryz.sizeOf173
  v25 := Tryz.zeroValue173
  t39 := Tryz.underlying118
  a39 := Tryz.isAgg118
  z39 := Tryz.sizeOf118
  v39 := Tryz.zeroValue118
  t45 := Tryz.underlying231
  a45 := Tryz.isAgg231
  z45 := Tryz.sizeOf231
  v45 := Tryz.zeroValue231
  t46 := Tryz.underlying232
  a46 := Tryz.isAgg232
  z46 := Tryz.sizeOf232
  v46 := Tryz.zeroValue232
  t50 := Tryz.underlying197
  a50 := Tryz.isAgg197
  z50 := Tryz.sizeOf197
  v50 := Tryz.zeroValue197
  t53 := Tryz.underlying119
  a53 := Tryz.isAgg119
  z53 := Tryz.sizeOf119
  v53 := Tryz.zeroValue119
  t55 := Tryz.underlying34
  a55 := Tryz.isAgg34
  z55 := Tryz.sizeOf34
  v55 := Tryz.zeroValue34
  t66 := Tryz.underlying250
  a66 := Tryz.isAgg250
  z66 := Tryz.sizeOf250
  v66 := Tryz.zeroValue250
  t70 := Tryz.underlying248
  a70 := Tryz.isAgg248
  z70 := Tryz.sizeOf248
  v70 := Tryz.zeroValue248
  t76 := Tryz.underlying259
  a76 := Tryz.isAgg259
  z76 := Tryz.sizeOf259
  v76 := Tryz.zeroValue259
  t77 := Tryz.underlying260
  a77 := Tryz.isAgg260
  z77 := Tryz.sizeOf260
  v77 := Tryz.zeroValue260 }
end Go.Proofs.YtjpphldojbfpfaaGreatDoor
namespace Go.Proofs.YtjpphldojbfpfaaGreatDoor
open Go.RowKit
instance : Inhabited Nam := ⟨⟨0, ⟨List.replicate 32 0, rfl⟩, by decide⟩⟩
theorem cfNam_lt (x y : Nam) : cfNam x y < 0 ↔ x.z < y.z ∨ (x.z = y.z ∧ Lib.compareBytes x.k.1 y.k.1 < 0) := by
  rcases Int.lt_trichotomy x.z y.z with h | h | h
  · have e : cfNam x y = -1 := by
      unfold cfNam or2; rw [show cmpZ x.z y.z = -1 by unfold cmpZ; rw [if_pos h], if_pos (by decide)]
    rw [e]; exact ⟨fun _ => .inl h, fun _ => by decide⟩
  · have e : cfNam x y = Lib.compareBytes x.k.1 y.k.1 := by
      unfold cfNam or2; rw [show cmpZ x.z y.z = 0 by unfold cmpZ; rw [if_neg (by omega), if_neg (by omega)], if_neg (by decide)]
    rw [e]; exact ⟨fun k => .inr ⟨h, k⟩, fun k => by rcases k with k | k; omega; exact k.2⟩
  · have e : cfNam x y = 1 := by
      unfold cfNam or2; rw [show cmpZ x.z y.z = 1 by unfold cmpZ; rw [if_neg (by omega), if_pos h], if_pos (by decide)]
    rw [e]; exact ⟨fun k => by omega, fun k => by omega⟩
theorem swoNam : Go.Sort.SWO (ltOf cfNam) where
  irrefl x := by
    unfold ltOf; rw [decide_eq_false_iff_not, cfNam_lt, cb_refl]; omega
  trans x y z h1 h2 := by
    unfold ltOf at *
    rw [decide_eq_true_eq, cfNam_lt] at *
    rcases h1 with h1 | ⟨h1, k1⟩ <;> rcases h2 with h2 | ⟨h2, k2⟩
    · exact .inl (by omega)
    · exact .inl (by omega)
    · exact .inl (by omega)
    · exact .inr ⟨by omega, cb_trans k1 k2⟩
  ntrans x y z h1 h2 := by
    unfold ltOf at *
    rw [decide_eq_false_iff_not, cfNam_lt] at *
    intro h3; have h1a : ¬ x.z < y.z := fun e => h1 (.inl e); have h2a : ¬ y.z < z.z := fun e => h2 (.inl e); rcases h3 with h3 | ⟨h3, k3⟩
    · omega
    · have e1 : x.z = y.z := by omega
      have e2 : y.z = z.z := by omega
      have g1 : ¬ Lib.compareBytes x.k.1 y.k.1 < 0 := fun k => h1 (.inr ⟨e1, k⟩); have g2 : ¬ Lib.compareBytes y.k.1 z.k.1 < 0 := fun k => h2 (.inr ⟨e2, k⟩); have a2 := cb_anti y.k.1 z.k.1; rcases Int.lt_or_le (Lib.compareBytes z.k.1 y.k.1) 0 with h4 | h4
      · exact g1 (cb_trans k3 h4)
      · have e : y.k.1 = z.k.1 := cb_zero (by omega); rw [← e] at k3; exact g1 k3
def NmsR (w : World) (A : Option Addr) (n : Nat) (L : List Nam) : Prop := L.length = n ∧ ∀ i d, L[i]? = some d → ∃ b o, A = some ⟨b, o, none⟩ ∧ w.rangeAt b (o + i * 33) (nameC d)
theorem NmsR.gr {w w' : World} {A : Option Addr} {n : Nat} {L : List Nam} (h : NmsR w A n L) (hG : Gr w w') : NmsR w' A n L :=
  ⟨h.1, fun i x hx => by
    obtain ⟨b, o, e, hr⟩ := h.2 i x hx; exact ⟨b, o, e, fun j u hu => (Below.cell hG (lt_of_cell (hr j u hu))).trans (hr j u hu)⟩⟩
theorem NmsR.nil (w : World) (A : Option Addr) : NmsR w A 0 [] := ⟨rfl, fun i d h => by simp at h⟩
def NmsQ (L : List Nam) (g n B : Nat) (w : World) (e : Ending) (w' : World) : Prop := e = .returned (.tuple #[]) ∧ ∃ L' : List Nam, L'.Perm L ∧ (L'.Pairwise fun p q => ¬ cfNam q p < 0) ∧ NmsR w' (some ⟨g, 0, none⟩) n L' ∧ Below B w w' ∧ ∀ i, i < w.heap.size → i ≠ g → w'.heap[i]? = w.heap[i]?
theorem cmpLays_nam (blk off size : Nat) (w : World) : CmpLays Tryz.prog 93 #[] nameC 33 cfNam blk off size w :=
  fun _ _ _ _ x y => (ordN_any x y _).mono fun _ _ ⟨he, hw⟩ => ⟨he, hw⟩
set_option maxRecDepth 100000 in
theorem sort_nams {w : World} {B g n c : Nat} {L : List Nam} (hl : L.length = n) (hn : n ≤ 1000000) (hB : B ≤ g) (h : w.ownsRow B 69 33 (.slice (some ⟨g, 0, none⟩) n c) n (L.flatMap nameC)) :
    Calls Tryz.prog 127 #[.slice (some ⟨g, 0, none⟩) n c, .func (.func 93) #[] #[]] w fun e w' => NmsQ L g n B w e w' := by
  have hH := holds_of_ownG nameC_len (by omega) hl h; have hgl : g < w.heap.size := own_lt h _ rfl; obtain ⟨d, hd⟩ : ∃ d, d = L.toArray := ⟨_, rfl⟩; have hds : d.size = n := by rw [hd]; simpa using hl
  have hdl : d.toList = L := by rw [hd]
  rw [← hd] at hH; have eg : ∀ args w, (callFunc 93 args).run Tryz.prog w = .ok (.enter 93 args) w := enters_of Tryz.func93 (by kernel_rfl) rfl; have hcon := AnyQ.slices_SortFunc NamSort 33 Tryz.isAgg69 Tryz.sizeOf69 nameC nameC_len (fun x v hv => nameC_one x v hv) cfNam swoNam 93 #[] g 0 c d w eg (cmpLays_nam g 0 d.size w) hH hgl (by omega); change Calls Tryz.prog 127 _ _ _ at hcon; rw [hds] at hcon; refine hcon.mono ?_; rintro e w' ⟨rfl, d', m, os, ⟨hs', _, hp⟩, hS, rfl⟩; have hH' := holdsK_sortWorldK_c (enc := nameC) (k := 33) (w := w) (blk := g) (off := 0) (d := d) (dk := d') (m := m) (os := os) (hH := hH) (hblk := hgl) (hs := hs')
  have hperm : d'.toList.Perm L := by
    have e1 : d'.extract 0 n = d' := by rw [← hds, ← hs']; simp
    have e2 : d.extract 0 n = d := by rw [← hds]; simp
    rw [e1, e2, hdl] at hp; exact hp
  refine ⟨rfl, d'.toList, hperm, ?_, ⟨by simp [hs', hds], fun i x hx => ⟨g, 0, rfl, fun j u hu => by rw [Nat.zero_add]; exact cells_of_holds nameC_len hH' hx hu⟩⟩, sortG_below hB hgl, fun i hi hne => sortG_other hi hne⟩; rw [List.pairwise_iff_getElem]; intro i j hi hj hij; have hi' : i < d'.size := by simpa using hi
  have hj' : j < d'.size := by simpa using hj
  have := hS i j (Nat.zero_le _) hij (by omega); unfold ltOf at this; rw [decide_eq_false_iff_not] at this; have g1 : d'[i]! = d'.toList[i] := by simp [hi']
  have g2 : d'[j]! = d'.toList[j] := by simp [hj']
  rw [g1, g2] at this; exact this
end Go.Proofs.YtjpphldojbfpfaaGreatDoor
namespace Go.Proofs.YtjpphldojbfpfaaGreatDoor
open Go.RowKit
attribute [local go_sem] Oper.semAt_some
theorem infoNz : (Tryz.prog.info? 69).map (fun i => (i.zero, i.size, i.bytes)) = some (some (.agg (nameC (zN zeroN)).toArray), 33, 40) := by kernel_rfl
section
variable {ev : Operand → Value} {d : Option Tmp} {t : TypeId} {p : String} {af : Array Edge} {gd : Option (Nat × Bool)} {w : World} {x : Operand}
set_option maxRecDepth 100000 in
theorem run_buildNm {X : Nam} (h1 : ev x = .agg (nameC X).toArray) :
    (execOp ev ⟨d, .buildSlice 127 1 #[(0, x)], t, p, af, gd⟩).run Tryz.prog w = .ok (.value (.slice (some ⟨w.heap.size, 0, none⟩) 1 1)) (w.alloc (.cells (nameC X).toArray 69)) := by
  obtain ⟨ie, hie, hz, q1, _⟩ := info_parts infoNz
  have hf : ∀ C : Array Value, C.size = 33 → Instr.fill (fun i => some (i * ie.size, ie.size)) C [(0, .agg (nameC X).toArray)] = some (nameC X).toArray := by
    intro C hC; rw [fill_step (fun i => some (i * ie.size, ie.size)) C 0 (.agg (nameC X).toArray) (nameC X) 0 (by simp [q1, nameC_len]) rfl [] (by simp [nameC_len, hC])]; simp only [Instr.fill]; rw [List.drop_of_length_le (by simp [nameC_len, hC])]; simp
  have h := run_buildSlice (P := Tryz.prog) w 127 69 1 #[(0, .agg (nameC X).toArray)] (nameC X).toArray ie _ Tryz.underlying127 hie hz (by rw [q1]; omega) (by rw [q1]; omega) (hf _ (by simp [q1])); simp only [execOp, List.map_toArray, List.map_cons, List.map_nil, h1, Sem.run_bind, h, Result.andThen_ok, Sem.run_pure]
end
section
variable {F : Fence} {n : Nat} {ops : Array Oper} {Q : Exit → Act → World → Prop} {a : Act} {w : World} {rest : List Oper} {op : Oper}
theorem wpListIn_buildNm {X : Nam} (hgd : op.guard = none) (x : Operand) (ho : op.op = .buildSlice 127 1 #[(0, x)]) (h1 : a.eval x = .agg (nameC X).toArray)
    (h : wpListIn F n Tryz.prog ops Q rest (a.put op.dst (.slice (some ⟨w.heap.size, 0, none⟩) 1 1)) (w.alloc (.cells (nameC X).toArray 69))) : wpListIn F n Tryz.prog ops Q (op :: rest) a w := by
  refine wpListIn_plain hgd fun K hK => ?_; obtain ⟨d, o, t, p, af, gd⟩ := op; simp only at ho; subst ho; unfold Oper.wpIn; refine ⟨by simp [Oper.about], ?_⟩; rw [Oper.semAt_plain F _ _ (by intro c hc; cases hc), run_buildNm h1]; exact hK _ _ h
end
theorem flatNm_snoc (L : List Nam) (x : Nam) : (L ++ [x]).flatMap nameC = L.flatMap nameC ++ nameC x := by rw [List.flatMap_append, List.flatMap_singleton]
def SeqN (D0 : DataW Unit) (w : World) (e : Ending) (w' : World) : Prop := ∃ (A : Option Addr) (k c : Nat) (ss : List Nam), e = .returned (.slice A k c) ∧ CollS D0 (fun _ => false) ss ∧ ss.length = k ∧ k ≤ Maps.size D0 ∧ w'.ownsRow w.heap.size 69 33 (.slice A k c) k (ss.flatMap nameC) ∧ Below w.heap.size w w'
set_option maxRecDepth 100000 in
set_option maxHeartbeats 8000000 in
theorem appendNm_in (F : Fence) (n : Nat) (hro : F.round = none) (hn : 6 ≤ n) (hw : ∀ f, F.fn f) (Bm b nn : Nat) (D0 : DataW Unit) (hsz : Maps.size D0 ≤ 100000) (w : World) (hm : w.cell? ⟨Bm, 0, none⟩ = some (.map (some b))) (hown : w.ownsMap Tryz.prog 69 RSl b nn D0) :
    CallsIn F n Tryz.prog 147 #[.slice none 0 0, .func (.func 128) #[] #[.pointer (some ⟨Bm, 0, none⟩)]] w (SeqN D0 w) := by
  have h1 : 1 ≤ n := by omega
  obtain ⟨i0, hi, hz0, hz1, hz2⟩ := info_parts infoNz; refine callsIn_of_wp_marks Tryz.func147 rfl (hw _) ?_ hro; try simp only [Tryz.ntmps147, List.size_toArray, List.length_cons, List.length_nil, Nat.reduceAdd, Nat.reduceSub, Array.replicate_succ, Array.replicate_zero, List.push_toArray, List.append_toArray, List.nil_append, List.cons_append]
  gi_wp2
  have bO := Boxed.new w 127 (.slice none 0 0); have hB0 : Below w.heap.size w (w.alloc (.cells #[.slice none 0 0] 127)) := (Below.refl _ w).alloc (Nat.le_refl _) _; have hsz0 : (w.alloc (.cells #[.slice none 0 0] 127)).heap.size = w.heap.size + 1 := by simp
  obtain ⟨W0, hW0⟩ : ∃ W0, w.alloc (.cells #[.slice none 0 0] 127) = W0 := ⟨_, rfl⟩; rw [hW0] at bO hB0 hsz0 ⊢; clear hW0; have hBm := lt_of_cell hm; have hm0 := (hB0.cell (p := ⟨Bm, 0, none⟩) hBm).trans hm
  have hown0 : W0.ownsMap Tryz.prog 69 RSl b nn D0 := by
    have hbl := hown.lt; obtain ⟨es, clock, hb, Ft, hs, hD⟩ := hown; exact ⟨es, clock, (hB0.block b hbl).trans hb, Ft, hs, hD⟩
  have hBm0 : Bm < W0.heap.size := Nat.lt_of_lt_of_le hBm hB0.size
  refine wpIn_rangeFunc_ownH hro h1 (gf := 128) (lb := #[.pointer (some ⟨Bm, 0, none⟩)]) rfl (hw _) (enters_of Tryz.func128 (by kernel_rfl) rfl)
    (encs := fun d : Nam => #[nameV d]) (Kp := KeepsWalks) (skeys_stops F (n - 1) (hw _) hro (by omega) Bm b nn D0 W0 hBm0 hm0 hown0) walksK_t (fun W l o o' h1 h2 h3 h4 => walksK_b W l o o' h1 h2 h3 h4) (Below.refl _ _) (fun _ => rfl)
    (fun pre W => (∃ v, Boxed W w.heap.size 127 v ∧ W.ownsRow w.heap.size 69 33 v pre.length (pre.flatMap nameC) ∧ True) ∧ Below w.heap.size w W)
    (fun _ _ _ => False)
    (OwnFrom.and (Own.from (holdsRow_own w.heap.size w.heap.size 127 69 33 (fun pre : List Nam => pre.length) (fun pre : List Nam => pre.flatMap nameC) (fun pre v => True)) _) (ownFrom_below (Nat.le_refl _) (by omega)))
    (fun _ _ _ _ _ hs _ _ => hs)
    ⟨⟨_, bO, World.ownsRow_nil _ _ _ _, trivial⟩, hB0⟩
    (fun x a' W => ∃ Bx, w.heap.size < Bx ∧ Arr W Bx 69 (nameC x) ∧ a' = { tmps := #[.slice none 0 0, .func (.func 128) #[] #[.pointer (some ⟨Bm, 0, none⟩)], .pointer (some ⟨w.heap.size, 0, none⟩), undef, .slice none 0 0, .pointer (some ⟨Bx, 0, none⟩), .func (.func 128) #[] #[.pointer (some ⟨Bm, 0, none⟩)], nameV x, undef, undef, undef, undef, undef], defers := [] })
    (fun x a' _ X Y row hs hg hr => by obtain ⟨Bx, h1, h2, h3⟩ := hs; exact ⟨Bx, h1, arr_own Bx 69 (fun (_ : Unit) => nameC x) () X Y row h2 hg (fun r e => (hr r e).2), h3⟩)
    ?assign ?body ?done ?stop
  case assign =>
    rintro l pre x W K ⟨⟨v, bO1, hrow, _⟩, hB1⟩ hK
    gi_wp2_with (first
      | (refine wpListIn_new (w := W) (t := 69) rfl _ _ _ rfl W.heap.size (nameC x) rfl rfl rfl (by rw [nameC_len]; kernel_rfl) (infoName x) (nameC_one x) ?_
         intro w3 hA3 hG3 hg3)
      | gi_in)
    exact hK _ _ ((KeepsOthers.of_grownBy hg3 (fun j o e => by cases e)).from _) (KeepsWalks.of_grownBy hg3 (fun j o e => by cases e)) ⟨⟨v, bO1.kept hg3 (by simp), hrow.kept hg3 (by cases v.ownBlock <;> simp), trivial⟩, hB1.trans (hG3.mono hB1.size)⟩ ⟨W.heap.size, bO1.lt, hA3, rfl⟩
  case body =>
    rintro l pre x a' W hl ⟨r, hr⟩ ⟨⟨v, bO1, hrow, _⟩, hB1⟩ ⟨Bx, hBx, hX, rfl⟩ hlt; have cO := bO1.cell; have fO := bO1.frozen
    gi_wp2_with (first
      | (refine wpListIn_loadT rfl _ _ rfl Bx 0 rfl (nameC x) (Arr.range hX) Tryz.underlying69 rfl (infoName x) ?_)
      | (refine wpListIn_buildNm (X := x) rfl _ rfl rfl ?_)
      | (gi_at_builtin
         refine wpListIn_append_own _ rfl _ _ 127 rfl w.heap.size 69 i0 (.agg (nameC (zN zeroN)).toArray) 33 40 Tryz.underlying127 hi hz0 hz1 hz2 (by kernel_rfl) (by decide) _ _ _ rfl (hrow.alloc _) ⟨W.heap.size, 0, none⟩ 1 1 (nameC x) rfl (by rw [nameC_len]) (newCells W 69 (nameC x)) (nameC_one x) (Nat.le_trans (m := 1000001) (by omega) (by decide)) (by omega) (Nat.le_trans hB1.size (by simp)) ?_; intro v' w1 hown' hgrow _; obtain ⟨g', cap', rfl⟩ := ownsRow_succ hown'; obtain ⟨hv1, hv2, hr2, hk2, hb2⟩ := bO1.appended (by decide) hrow hB1.size (Nat.le_refl _) hown' hgrow; have hc1 := hv1.cell; have hf1 := hv1.frozen))
    exact ⟨hk2.from _, hk2.walks, ⟨⟨_, hv2, by rw [flatNm_snoc, List.length_append]; exact hr2⟩, hB1.trans hb2⟩⟩
  case done =>
    rintro D ss W hD hS ⟨⟨v, bO1, hrow, _⟩, hB1⟩ hK; have cO := bO1.cell
    gi_wp2
    refine ⟨by simp, .inl ⟨_, _, rfl, run_takeDeferred hK, ?_⟩⟩; refine ⟨_, results_tmp rfl _ _ _, ?_⟩; have hbe := hB1.trans (belowK_b (w := w) (Nat.le_refl _) _ D _ (.deferred none) (by omega) hK rfl rfl); have hrow2 := own_put (o2 := .deferred none) hrow hK rfl; rcases hrow.2 with ⟨rfl, hz⟩ | ⟨gq, cap, cur, rfl, _⟩
    · rw [hz] at hrow2; exact ⟨none, 0, 0, ss, rfl, hS.1, hz, Nat.zero_le _, hrow2, hbe⟩
    · exact ⟨some ⟨gq, 0, none⟩, ss.length, cap, ss, rfl, hS.1, rfl, hS.2, hrow2, hbe⟩
  case stop =>
    rintro D c pre W _ _ h _; exact h.elim
theorem appendNm_any {Bm b nn : Nat} {D0 : DataW Unit} (hsz : Maps.size D0 ≤ 100000) {w : World} (hm : w.cell? ⟨Bm, 0, none⟩ = some (.map (some b))) (hown : w.ownsMap Tryz.prog 69 RSl b nn D0) :
    Calls Tryz.prog 147 #[.slice none 0 0, .func (.func 128) #[] #[.pointer (some ⟨Bm, 0, none⟩)]] w (SeqN D0 w) :=
  callsIn_wide.1 (appendNm_in Fence.wide 6 rfl (Nat.le_refl _) (fun _ => trivial) Bm b nn D0 hsz w hm hown)
set_option maxRecDepth 100000 in
theorem skeysNew_any (b : Nat) (w : World) :
    Calls Tryz.prog 92 #[.map (some b)] w fun e w' => e = .returned (.func (.func 128) #[] #[.pointer (some ⟨w.heap.size, 0, none⟩)]) ∧ w' = w.alloc (.cells #[.map (some b)] 64) := by
  go_enter Tryz.func92, Tryz.ntmps92
  go_wp2_with fail
  go_ret
  exact ⟨rfl, rfl⟩
set_option maxRecDepth 100000 in
theorem collectNm_any {Bm b nn : Nat} {D0 : DataW Unit} (hsz : Maps.size D0 ≤ 100000) {w : World} (hm : w.cell? ⟨Bm, 0, none⟩ = some (.map (some b))) (hown : w.ownsMap Tryz.prog 69 RSl b nn D0) :
    Calls Tryz.prog 126 #[.func (.func 128) #[] #[.pointer (some ⟨Bm, 0, none⟩)]] w (SeqN D0 w) := by
  have HA := Lib.hid (appendNm_any hsz hm hown); clear hm hown hsz
  go_enter Tryz.func126, Tryz.ntmps126
  go_wp2_with (go_at_call 147; refine HA.out.mono ?_; rintro e w1 ⟨A1, k1, c1, ss, rfl, hC, hl, hk, ho, hB⟩)
  go_ret
  exact ⟨A1, k1, c1, ss, rfl, hC, hl, hk, ho, hB⟩
theorem sortNm_none (p : Option Addr) (cap : Nat) (fv : Value) (w : World) : Calls Tryz.prog 127 #[.slice p 0 cap, fv] w fun e w' => e = .returned (.tuple #[]) ∧ w' = w :=
  Go.Proofs.AnyF.slices_SortFunc_none NamSort p cap fv w
def SortNQ (D0 : DataW Unit) (w : World) (e : Ending) (w' : World) : Prop := ∃ (A : Option Addr) (k c : Nat) (L : List Nam), e = .returned (.slice A k c) ∧ CollS D0 (fun _ => false) L ∧ (L.Pairwise fun p q => ¬ cfNam q p < 0) ∧ k ≤ Maps.size D0 ∧ NmsR w' A k L ∧ Gr w w'
theorem CollS.perm {D : DataW Unit} {left : Lit → Bool} {L L' : List Nam} (h : CollS D left L) (hp : L'.Perm L) : CollS D left L' := ⟨hp.nodup_iff.2 h.1, fun x => hp.mem_iff.trans (h.2 x)⟩
set_option maxRecDepth 100000 in
theorem sortedNm_any {Bm b nn : Nat} {D0 : DataW Unit} (hsz : Maps.size D0 ≤ 100000) {w : World} (hm : w.cell? ⟨Bm, 0, none⟩ = some (.map (some b))) (hown : w.ownsMap Tryz.prog 69 RSl b nn D0) :
    Calls Tryz.prog 91 #[.func (.func 128) #[] #[.pointer (some ⟨Bm, 0, none⟩)], .func (.func 93) #[] #[]] w (SortNQ D0 w) := by
  have HC := Lib.hid (collectNm_any hsz hm hown); have HSz := Lib.hid hsz; clear hm hown hsz
  go_enter Tryz.func91, Tryz.ntmps91
  go_upto_region 2 with (go_at_call 126; refine HC.out.mono ?_; rintro e w1 ⟨A1, k, c1, ss, rfl, hCo, hlen, hk, ho, hB⟩)
  have HO := Lib.hid ho; have HCo := Lib.hid hCo; have HK := Lib.hid hk; have hG : Gr w w1 := hB; rcases ho.2 with ⟨e1, e2⟩ | ⟨g, cap, cur, e1, hgB, _⟩
  · injection e1 with e1 e3 e4
    subst e1 e4 e2; have hnil : ss = [] := List.length_eq_zero_iff.1 hlen; have HN := Lib.hid hnil; clear ho hB hlen hnil hCo hk
    go_wp2_with (go_at_call 127; refine (sortNm_none none 0 _ _).mono ?_; rintro e w2 ⟨rfl, rfl⟩)
    go_ret
    refine ⟨none, 0, 0, [], rfl, ?_, List.Pairwise.nil, Nat.zero_le _, NmsR.nil _ _, hG⟩; have := HCo.out
    rwa [HN.out] at this
  · injection e1 with e1 e3 e4
    subst e1 e4; have hgl := own_lt HO.out ⟨g, 0, none⟩ rfl; have HS := Lib.hid (sort_nams (c := c1) hlen (by have := HSz.out; omega) hgB HO.out); clear ho hB hlen hgl hgB hCo hk
    go_wp2_with (go_at_call 127; refine HS.out.mono ?_; rintro e w2 ⟨rfl, L', hp, hs, hd, hB2, _⟩)
    go_ret
    exact ⟨_, _, _, L', rfl, HCo.out.perm hp, hs.imp (fun h => by omega), HK.out, hd, Below.trans hG hB2⟩
end Go.Proofs.YtjpphldojbfpfaaGreatDoor
