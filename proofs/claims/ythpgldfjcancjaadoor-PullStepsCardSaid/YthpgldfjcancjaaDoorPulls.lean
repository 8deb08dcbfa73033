/- The law's first look: the one key that is unlike is found. No condition. -/
import Derived.Test.YthpgldfjcancjaaDoorPuLvs
import Derived.Test.YthpgldfjcancjaaDoorPuOne
import Derived.Deep.Cut
namespace Go.Proofs.YthpgldfjcancjaaDoor
open Go.RowKit
theorem TreeIs.lt {w : World} {g b n : Nat} {R : Rw} (h : TreeIs w g b n R) : g < w.heap.size ∧ b < w.heap.size := by
  obtain ⟨⟨N, h1, _⟩, _⟩ := h
  exact ⟨h1.arr.lt, h1.map.lt⟩
theorem TreeIs.other {C : Nat} {w w' : World} {g b g' b' n : Nat} {R : Rw} (h : TreeIs w g b n R) (hT : Tn (treeT g' b') C w w') (hg : g ≠ g') (hb : b ≠ b') : TreeIs w' g b n R :=
  h.tn hT (fun _ _ => by simp [treeT, hb]) (fun _ _ => by simp [treeT, hg])
set_option maxRecDepth 100000 in
set_option maxHeartbeats 8000000 in
theorem pulls_any {w : World} (gw : Glob w) : Calls Tryd.prog 9 #[] w fun e w' => e = .returned (.bool true) ∧ Gr w w' := by
  have gl := Glob.lowG gw
  have mk : True := trivial
  go_enter Tryd.func9, Tryd.ntmps9
  go_upto_region 2 with first
    | (clear mk; go_at_call 21; refine (new_is _).mono ?_; rintro e w1 ⟨g, b, rfl, hT1, hg, hb, hG1⟩)
    | (go_at_call 21; refine (new_is _).mono ?_; rintro e w2 ⟨g', b', rfl, hT2, hg2, hb2, hG2⟩)
  have hgg : g ≠ g' := by have := hT1.lt.1; omega
  have hbb : b ≠ b' := by have := hT1.lt.2; omega
  have hB1 : w.heap.size ≤ w1.heap.size := hG1.size
  have hL1 : Hid (Calls Tryd.prog 7 #[.pointer (some ⟨g, 0, none⟩), .pointer (some ⟨g', 0, none⟩)] w2 fun e w' => ∃ A c, e = .returned (.tuple #[.slice A 0 c, .int .i64 1, .int .i64 0]) ∧ Gr w2 w') := Lib.hid ((leaves_any (hT1.gr hG2) hT2).mono fun e w' ⟨A, m, c, h1, h2, _, h4⟩ => by
    have e1 : m = 0 := by rw [h2, level_self [] 4]; rfl
    rw [told_self, e1] at h1
    exact ⟨A, c, h1, h4⟩)
  have HT1 := Lib.hid (hT1.gr hG2)
  have HT2 := Lib.hid hT2
  have hG12 := hG1.trans hG2
  have HGG := Lib.hid hgg
  have HBB := Lib.hid hbb
  clear hT1 hT2 hG1 hG2 hgg hbb hg2 hb2 hB1
  go_upto_region 3 with (go_at_call 7; refine hL1.out.mono ?_; rintro e w3 ⟨A3, c3, rfl, hG3⟩)
  have hG13 := hG12.trans hG3
  have hS := set_is (HT1.out.gr hG3) (by omega : 0 ≤ 9000) (nmK 77) (nmK 1) hg hb hG13.size (Glob.gr hG13 gw) gl
  have HSet := Lib.hid hS
  have HT23 := Lib.hid (HT2.out.gr hG3)
  clear hS hL1 HT1 HT2 hG12 hG3 hg hb
  go_upto_region 4 with (go_at_call 18; refine HSet.out.mono ?_; rintro e w4 ⟨rfl, hT4, hTn4⟩)
  have hw4 : Below w.heap.size w w4 := Below.trans hG13 (hTn4.below hG13.size)
  have hL2 : Hid (Calls Tryd.prog 7 #[.pointer (some ⟨g, 0, none⟩), .pointer (some ⟨g', 0, none⟩)] w4 fun e w' => ∃ gl c, e = .returned (.tuple #[.slice (some ⟨gl, 0, none⟩) 1 c, .int .i64 17, .int .i64 0]) ∧ w'.cell? ⟨gl, 0, none⟩ = some (.int .i64 77) ∧ Gr w4 w') := Lib.hid ((leaves_any hT4 (HT23.out.other hTn4 HGG.out.symm HBB.out.symm)).mono fun e w' ⟨A, m, c, h1, h2, h3, h4⟩ => by
    have e1 : levelL (setR [] (nmK 77) (nmK 1)) [] 5 = [77] := lv77_5
    have e2 : toldL (setR [] (nmK 77) (nmK 1)) [] 5 = 17 := told77
    have e3 : m = 1 := by rw [h2, e1]; rfl
    rw [e1] at h3
    subst e3
    rw [e2] at h1
    obtain ⟨gl, rfl⟩ := own_some h3 (by omega)
    obtain ⟨gN, hN, hc⟩ := own_at1 h3 (k := 0) (u := .int .i64 77) (by omega) rfl
    injection hN with hN
    injection hN with hN
    subst hN
    exact ⟨gl, c, h1, hc, h4⟩)
  clear HSet hT4 hTn4 HT23 hG13
  go_wp2_with (go_at_call 7; refine hL2.out.mono ?_; rintro e w5 ⟨gl5, c5, rfl, hc5, hG5⟩)
  go_ret
  exact ⟨rfl, Below.trans hw4 (Below.mono hG5 hw4.size)⟩
end Go.Proofs.YthpgldfjcancjaaDoor
