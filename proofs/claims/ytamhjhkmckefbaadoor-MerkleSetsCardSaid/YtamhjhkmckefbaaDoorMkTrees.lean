/- The law's first look: a tree of one name has another root than one of none. No condition. -/
import Derived.Test.YtamhjhkmckefbaaDoorMkCalls
import Derived.Test.YtamhjhkmckefbaaDoorMkOne
import Derived.Deep.Cut
namespace Go.Proofs.YtamhjhkmckefbaaDoor
open Go.RowKit
set_option maxRecDepth 100000 in
set_option maxHeartbeats 8000000 in
theorem trees_any {w : World} (gw : Glob w) : Calls Tryd.prog 9 #[] w fun e w' => e = .returned (.bool true) ∧ Gr w w' := by
  have hN0 := nodeR_nil 4 0
  have hdZ : Z32.length = 32 := rfl
  obtain ⟨D, hD⟩ : ∃ D, D = nodeR (setR [] (nmK 1) (nmK 2)) 4 0 := ⟨_, rfl⟩
  have hDl : D.length = 32 := by rw [hD]; exact nodeR_length _ _ _
  have hDne : (D != Z32) = true := by
    rw [hD]
    exact bne_iff_ne.2 one_root
  have HD := Lib.hid hD
  have HN := Lib.hid hN0
  clear hD hN0
  go_enter Tryd.func9, Tryd.ntmps9
  go_upto_region 2 with (go_at_call 13; refine (new_is _).mono ?_; rintro e w1 ⟨g, b, rfl, hT1, hg, hb, hG1⟩)
  have hr1 := root_is hT1
  rw [HN.out] at hr1
  have HR1 := Lib.hid hr1
  have HT1 := Lib.hid hT1
  clear hr1 hT1
  go_upto_region 3 with first
    | (go_at_call 10; refine HR1.out.mono ?_; rintro e w2 ⟨rfl, hG2⟩)
    | (refine wpList_new (w := w2) (t := 23) rfl _ _ _ rfl w2.heap.size (u8s Z32) rfl rfl rfl (by kernel_rfl) (infoD _ rfl) (u8s_oneCell _) ?_; intro w3 hA3 hG3)
  obtain ⟨g2, hg2⟩ : ∃ g2, g2 = w2.heap.size := ⟨_, rfl⟩
  rw [← hg2] at hA3 ⊢
  clear hg2
  have hG13 := hG1.trans (hG2.trans hG3)
  have hS := set_is (HT1.out.gr (hG2.trans hG3)) (by omega : 0 ≤ 9000) (nmK 1) (nmK 2) hg hb hG13.size (Glob.gr hG13 gw) (Glob.lowG gw)
  have HS := Lib.hid hS
  clear hS HT1 HR1 hG2
  go_upto_region 4 with (go_at_call 8; refine HS.out.mono ?_; rintro e w4 ⟨rfl, hT4, hTn4⟩)
  have hA4 := hA3.tn hTn4 (fun C f => treeT_cells rfl)
  have hB4 : Below w.heap.size w w4 := Below.trans hG13 (hTn4.below hG13.size)
  have hr4 := root_is hT4
  rw [← HD.out] at hr4
  have HR4 := Lib.hid hr4
  have HT4 := Lib.hid hT4
  clear hr4 hT4 hTn4 hA3
  go_upto_region 5 with first
    | (go_at_call 10; refine HR4.out.mono ?_; rintro e w5 ⟨rfl, hG5⟩)
    | (refine wpList_new (w := w5) (t := 23) rfl _ _ _ rfl w5.heap.size (u8s D) rfl rfl rfl (by rw [u8s_length, hDl]; kernel_rfl) (infoD D hDl) (u8s_oneCell _) ?_; intro w6 hA6 hG6)
  have hG46 := hG5.trans hG6
  have hA46 := hA4.gr hG46
  have HL9 : Hid (∀ w, Calls Tryd.prog 19 #[.agg (u8s (nmK 9).1).toArray] w fun e w' => e = .returned (.int .i64 9) ∧ Gr w w') := Lib.hid (leaf_any (nmK 9))
  have HK : Hid (∀ w7, Gr w6 w7 → Calls Tryd.prog 12 #[.pointer (some ⟨g, 0, none⟩), .int .i64 1] w7 fun e w' => ∃ (A : Option Addr) (c : Nat), e = .returned (.slice A 1 c) ∧ Gr w7 w') := Lib.hid (fun w7 hG7 => by
    have h1 := keys_is ((HT4.out.gr hG46).gr hG7) (by omega) 1
    refine h1.mono ?_
    rintro e w' ⟨A, m, c, he, _, hm, _, hG⟩
    have h2 : m = 1 := hm.trans one_names
    subst h2
    exact ⟨A, c, he, hG⟩)
  have hB6 : Below w.heap.size w w6 := Below.trans hB4 (hG46.mono hB4.size)
  obtain ⟨g3, hg3⟩ : ∃ g3, g3 = w5.heap.size := ⟨_, rfl⟩
  rw [← hg3] at hA6 ⊢
  clear hg3 HR4 HT4 hG5 hG6 hG46 HS hA4 hB4 hG13 hG3
  go_wp2_with first
    | (refine wpList_loadW rfl 23 (.tmp 2) rfl rfl hA46 ⟨_, _, Tryd.underlying23⟩ (infoD Z32 rfl) ?_)
    | (refine wpList_loadW rfl 23 (.tmp 3) rfl rfl hA6 ⟨_, _, Tryd.underlying23⟩ (infoD D hDl) ?_)
    | (refine wpList_valW rfl (.bool true) _ (run_eqA32 (x := .tmp 13) (y := .tmp 14) (D := Z32) rfl rfl rfl) ?_)
    | (refine wpList_valW rfl (.bool (D != Z32)) _ (run_neqA32 (x := .tmp 17) (y := .tmp 18) (D := D) hDl rfl rfl) ?_)
    | (go_at_call 19; refine (HL9.out _).mono ?_; rintro e w7 ⟨rfl, hG7⟩)
    | (go_at_call 12; refine (HK.out _ hG7).mono ?_; rintro e w8 ⟨A, c, rfl, hG8⟩)
  go_ret
  exact ⟨rfl, Below.trans hB6 ((hG7.trans hG8).mono hB6.size)⟩
end Go.Proofs.YtamhjhkmckefbaaDoor
