/- The walk of sibling.Put. No condition. -/
import Derived.Test.YteckblffpidigaaGreatDoorMtMerge
namespace Go.Proofs.YteckblffpidigaaGreatDoor
open Go.RowKit
theorem good_one {w : World} {x : SibV} (hx : SOk w x) : GoodL [x] := ⟨by simp, List.pairwise_singleton _ _, fun y hy => by
  rw [List.mem_singleton] at hy
  subst hy
  simp [seenL, hx.fresh]⟩
theorem sibs_one {w : World} {g : Nat} {x : SibV} (hx : SOk w x) (hA : Arr w g 44 (sibC x)) : SibsR w (some ⟨g, 0, none⟩) 1 [x] := by
  refine ⟨rfl, fun i y hy => ?_⟩
  have hi := (List.getElem?_eq_some_iff.1 hy).1
  have h0 : i = 0 := by simpa using hi
  subst h0
  have : x = y := by simpa using hy
  subst this
  exact ⟨⟨g, 0, rfl, by simpa using Arr.range hA⟩, hx⟩
set_option maxRecDepth 100000 in
set_option maxHeartbeats 8000000 in
theorem put1_any {L : List SibV} {x : SibV} {A : Option Addr} {n c : Nat} {w : World} (hL : SibsR w A n L) (hg : GoodL L) (hx : SOk w x) (hn : n ≤ 63) :
    Calls Tryz.prog 9 #[.slice A n c, .agg (sibC x).toArray] w fun e w' => MergeQ L [x] w e w' := by
  have hx20 := sibC_length hx.ctx.len
  have HI := Lib.hid (infoSib hx.ctx.len)
  have HX := Lib.hid hx
  have HL := Lib.hid hL
  have HG := Lib.hid hg
  obtain ⟨C, hC⟩ : ∃ C, C = sibC x := ⟨_, rfl⟩
  have hA0 : Arr (w.alloc (.cells C.toArray 44)) w.heap.size 44 C := Arr.newAt rfl rfl
  have hG : Gr w (w.alloc (.cells C.toArray 44)) := Gr.alloc _ _
  rw [← hC] at ⊢
  have HC := Lib.hid hC
  clear hx hL hg hC
  go_enter Tryz.func9, Tryz.ntmps9
  go_upto_region 1 with fail
  change Code.wp _ _ _ _ (w.alloc (.cells C.toArray 44))
  generalize w.alloc (.cells C.toArray 44) = w0 at hA0 hG ⊢
  generalize w.heap.size = g1 at hA0 ⊢
  have hC := HC.out
  clear HC
  subst hC
  have hG2 : Gr w0 (w0.alloc (.cells (sibC x).toArray 44)) := Gr.alloc _ _
  have hA2 : Arr (w0.alloc (.cells (sibC x).toArray 44)) w0.heap.size 44 (sibC x) := Arr.newAt rfl rfl
  have HM := Lib.hid (merge_any (c1 := c) (c2 := 1) (HL.out.gr (hG.trans hG2)) (sibs_one (HX.out.gr (hG.trans hG2)) hA2) HG.out (good_one HX.out) (by omega))
  have HG2 := Lib.hid (hG.trans hG2)
  have HGs := Lib.hid (hG.trans hG2).size
  have hr0 : w0.rangeAt g1 0 (sibC x) := Arr.range hA0
  clear hA2 hG2 hG hA0
  go_wp2_with first
    | (refine wpList_load_mid rfl _ _ rfl g1 0 rfl (sibC x) _ hr0 Tryz.underlying44 rfl HI.out ?_)
    | (refine wpList_valW rfl (.slice (some ⟨w0.heap.size, 0, none⟩) 1 1) _ (run_buildSib (x := .tmp 7) hx20 rfl) ?_)
    | (go_at_call 7; refine HM.out.mono ?_; rintro e w2 ⟨A2, n2, c2, LM, rfl, hS2, hM2, hBox2, hG2⟩; have HBox := Lib.hid hBox2; clear hBox2)
  go_ret2
  exact ⟨A2, n2, c2, LM, rfl, hS2, hM2, fun b hb => ⟨Nat.le_trans HGs.out (HBox.out b hb).1, (HBox.out b hb).2⟩, HG2.out.trans hG2⟩
end Go.Proofs.YteckblffpidigaaGreatDoor
