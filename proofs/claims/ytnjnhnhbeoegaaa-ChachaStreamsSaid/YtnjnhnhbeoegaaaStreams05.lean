/- The helper streams() is true. No condition. -/
import Derived.Test.YtnjnhnhbeoegaaaRefBlock
import Derived.Test.YtnjnhnhbeoegaaaMake
namespace Go.Proofs.Ytnjnhnhbeoegaaa
open Go.RowKit
def key1 : List UInt8 := [1, 0, 0, 0, 0, 0, 0, 0, 0, 0, 0, 0, 0, 0, 0, 0, 0, 0, 0, 0, 0, 0, 0, 0, 0, 0, 0, 0, 0, 0, 0, 0]
def noughts12 : List UInt8 := [0, 0, 0, 0, 0, 0, 0, 0, 0, 0, 0, 0]
def b1 : List UInt8 := [197, 211, 10, 124, 225, 236, 17, 147, 120, 200, 79, 72, 125, 119, 90, 133, 66, 241, 62, 206, 35, 138, 148, 85, 232, 34, 158, 136, 141, 232, 91, 189, 41, 235, 99, 208, 161, 122, 91, 153, 155, 82, 218, 34, 190, 64, 35, 235, 7, 98, 10, 84, 246, 250, 106, 216, 115, 123, 113, 235, 4, 100, 218, 192]
def b2 : List UInt8 := [16, 246, 86, 230, 209, 253, 85, 5, 62, 80, 196, 135, 92, 153, 48, 163, 63, 109, 2, 99, 189, 20, 223, 214, 171, 140, 112, 82, 28, 25, 51, 139, 35, 8, 185, 92, 248, 208, 187, 125, 32, 45, 33, 2, 120, 14, 163, 82, 143, 28, 180, 133, 96, 247, 107, 32, 243, 130, 185, 66, 80, 15, 206, 172]
set_option maxRecDepth 10000 in
theorem b1_is : blockL key1 0 noughts12 = b1 := by decide +kernel
set_option maxRecDepth 10000 in
theorem b2_is : blockL key1 1 noughts12 = b2 := by decide +kernel
theorem key1_lit : (u8s key1).toArray = #[.int .u8 1, .int .u8 0, .int .u8 0, .int .u8 0, .int .u8 0, .int .u8 0, .int .u8 0, .int .u8 0, .int .u8 0, .int .u8 0, .int .u8 0, .int .u8 0, .int .u8 0, .int .u8 0, .int .u8 0, .int .u8 0, .int .u8 0, .int .u8 0, .int .u8 0, .int .u8 0, .int .u8 0, .int .u8 0, .int .u8 0, .int .u8 0, .int .u8 0, .int .u8 0, .int .u8 0, .int .u8 0, .int .u8 0, .int .u8 0, .int .u8 0, .int .u8 0] := by kernel_rfl
theorem noughts12_lit : (u8s noughts12).toArray = #[.int .u8 0, .int .u8 0, .int .u8 0, .int .u8 0, .int .u8 0, .int .u8 0, .int .u8 0, .int .u8 0, .int .u8 0, .int .u8 0, .int .u8 0, .int .u8 0] := by kernel_rfl
theorem toNat_u32_0 : ((0 : UInt32).toNat : Int) = 0 := rfl
theorem toNat_u32_1 : ((1 : UInt32).toNat : Int) = 1 := rfl
set_option maxRecDepth 100000 in
set_option maxHeartbeats 4000000 in
theorem streams_any (w : World) : Calls Try.prog 8 #[] w fun e w' => e = .returned (.bool true) ∧ Below w.heap.size w w' := by
  obtain ⟨i0, hi0, hz0, hz1, hz2⟩ := info_parts Try.info5
  have hc1 := fun w => block_any key1 rfl 0 noughts12 rfl w
  have hc2 := fun w => block_any key1 rfl 1 noughts12 rfl w
  have hrb := fun w => refBlock_any key1 rfl 0 noughts12 rfl w
  simp only [b1_is, key1_lit, noughts12_lit, toNat_u32_0] at hc1
  have hnn : noughts12 = List.replicate 12 0 := rfl
  simp only [b1_is, toNat_u32_0] at hrb
  simp only [hnn] at hrb
  clear hnn
  simp only [b2_is, key1_lit, noughts12_lit, toNat_u32_1] at hc2
  go_enter Try.func8, Try.ntmps8
  go_wp2_with first
    | (go_at_call_of 7 (Value.int IntKind.u32 0); refine (hc1 _).mono ?_; rintro e w1 ⟨rfl, hB1⟩)
    | (go_at_call_of 7 (Value.int IntKind.u32 1); refine (hc2 _).mono ?_; rintro e w2 ⟨rfl, hB2⟩)
    | (refine wpList_put (Arr.alloc (Arr.newAt rfl rfl) _) rfl 25 (.tmp 1) (.tmp 5) rfl (u8s b1) rfl rfl rfl (by kernel_rfl) (u8s_oneCell _) ?_; intro w3 h1 hB3 hO3)
    | (refine wpList_put (hO3 _ _ _ (by omega) (Arr.newAt (asz _ _) rfl)) rfl 25 (.tmp 2) (.tmp 8) rfl (u8s b2) rfl rfl rfl (by kernel_rfl) (u8s_oneCell _) ?_; intro w4 h2 hB4 hO4)
  have h1 := hO4 _ _ _ (by omega) h1
  have hb : Below w.heap.size w w4 := by
    have q1 := hB1.size
    have q2 := hB2.size
    have q3 := hB1.trans (hB2.mono q1)
    have q5 := ((q3.alloc (by omega) _).alloc (by simp only [asz]; omega) _).trans (hB3.mono (by omega))
    exact q5.trans (hB4.mono (by omega))
  clear hB1 hB2 hB3 hB4 hO3 hO4 hc1 hc2
  generalize w2.heap.size + 1 = g2 at h2 ⊢
  generalize w2.heap.size = g1 at h1 ⊢
  generalize w4 = W0 at h1 h2 hb ⊢
  have hr1 : Rd W0 (some ⟨g1, 0, none⟩) 64 (u8s b1) := h1.rd 0 64 (by decide)
  go_simp
  refine wp_region_ssaL (by kernel_rfl) [IsV (.slice (some ⟨g1, 0, none⟩) 64 64), IsV (.string ⟨(b1).toArray⟩), RdV (31) (List.replicate 31 0), IsV (.string ⟨(List.replicate 31 0).toArray⟩), IsV (.string ⟨(key1).toArray⟩), RdV (12) (List.replicate 12 0), IsV (.string ⟨(List.replicate 12 0).toArray⟩), IsV (.string ⟨(b1).toArray⟩), IsV (.bool true), IsV (.bool true), IsV (.agg (u8s b1).toArray), IsV (.agg (u8s b2).toArray), IsV (.bool true), IsV (.bool true), IsV (.bool true)] (by kernel_rfl) ?_ ?_ ?_
  · intro φ hφ v w1 w2 h hg
    simp only [List.mem_cons, List.not_mem_nil, or_false] at hφ
    rcases hφ with rfl | rfl | rfl | rfl | rfl | rfl | rfl | rfl | rfl | rfl | rfl | rfl | rfl | rfl | rfl
    all_goals first | exact h | exact RdV.gr h hg
  · refine ⟨?_, ?_, ?_, ?_, ?_, ?_, ?_, ?_, ?_, ?_, ?_, ?_, ?_, ?_, ?_, trivial⟩
    · intro a1 w1 hG hF
      have e1 : a1.eval (.tmp 1) = .pointer (some ⟨g1, 0, none⟩) := hF.ol 1 (by kernel_rfl)
      exact s_is rfl (wants0 rfl) _ rfl (by simp only [execOp, e1, Option.map, Sem.run_bind, run_cutAll (P := Try.prog) Try.underlying25 (by kernel_rfl), Result.andThen_ok, Sem.run_pure])
    · intro a1 w1 hG hF
      obtain ⟨_, e9, rfl⟩ := hF.dp 0 9 (by kernel_rfl)
      exact s_str rfl (wants0 rfl) _ _ _ (.tmp 9) rfl Try.underlying28 Try.underlying5 Try.underlying9 _ _ _ _ e9 (Gr.rd ((Gr.drew W0).trans hG) hr1) rfl
    · intro a1 w1 hG hF
      exact s_make rfl (wants0 rfl) rfl Try.underlying28 hi0 hz0 hz1 hz2 31 (by omega) rfl rfl rfl
    · intro a1 w1 hG hF
      obtain ⟨_, e11, A11, c11, rfl, hc11, r11⟩ := hF.dp 2 11 (by kernel_rfl)
      exact s_str rfl (wants0 rfl) _ _ _ (.tmp 11) rfl Try.underlying28 Try.underlying5 Try.underlying9 _ _ _ _ e11 r11 rfl
    · intro a1 w1 hG hF
      obtain ⟨_, e12, rfl⟩ := hF.dp 3 12 (by kernel_rfl)
      exact s_is rfl (wants0 rfl) _ rfl (run_addS (a := [1]) (b := List.replicate 31 0) (by decide) rfl e12)
    · intro a1 w1 hG hF
      exact s_make rfl (wants0 rfl) rfl Try.underlying28 hi0 hz0 hz1 hz2 12 (by omega) rfl rfl rfl
    · intro a1 w1 hG hF
      obtain ⟨_, e14, A14, c14, rfl, hc14, r14⟩ := hF.dp 5 14 (by kernel_rfl)
      exact s_str rfl (wants0 rfl) _ _ _ (.tmp 14) rfl Try.underlying28 Try.underlying5 Try.underlying9 _ _ _ _ e14 r14 rfl
    · intro a1 w1 hG hF
      obtain ⟨_, e13, rfl⟩ := hF.dp 4 13 (by kernel_rfl)
      obtain ⟨_, e15, rfl⟩ := hF.dp 6 15 (by kernel_rfl)
      exact s_call rfl (wants0 rfl) _ rfl _ _ (by simp only [execOp, resolve, invoke, List.map_toArray, List.map_cons, List.map_nil, e13, e15]; go_simp) ((hrb w1).mono fun e w2 ⟨he, hb⟩ => ⟨_, he, rfl, hb⟩)
    · intro a1 w1 hG hF
      obtain ⟨_, e10, rfl⟩ := hF.dp 1 10 (by kernel_rfl)
      obtain ⟨_, e16, rfl⟩ := hF.dp 7 16 (by kernel_rfl)
      exact s_is rfl (wants0 rfl) _ rfl (by simp only [execOp, e10, e16]; go_simp)
    · intro a1 w1 hG hF
      exact s_same rfl (wants0 rfl) (.tmp 17) (.inr rfl) (hF.dp 8 17 (by kernel_rfl))
    · intro a1 w1 hG hF
      have e1 : a1.eval (.tmp 1) = .pointer (some ⟨g1, 0, none⟩) := hF.ol 1 (by kernel_rfl)
      exact s_wp rfl (wantsG hF 9 18 true rfl (by kernel_rfl) rfl) (wp_load_mid _ _ rfl g1 0 e1 (u8s b1) _ (h1.gr ((Gr.drew W0).trans hG)).range Try.underlying25 rfl (by kernel_rfl) ⟨_, rfl, rfl, Gr.refl _⟩)
    · intro a1 w1 hG hF
      have e2 : a1.eval (.tmp 2) = .pointer (some ⟨g2, 0, none⟩) := hF.ol 2 (by kernel_rfl)
      exact s_wp rfl (wantsG hF 9 18 true rfl (by kernel_rfl) rfl) (wp_load_mid _ _ rfl g2 0 e2 (u8s b2) _ (h2.gr ((Gr.drew W0).trans hG)).range Try.underlying25 rfl (by kernel_rfl) ⟨_, rfl, rfl, Gr.refl _⟩)
    · intro a1 w1 hG hF
      obtain ⟨_, e19, rfl⟩ := hF.dp 10 19 (by kernel_rfl)
      obtain ⟨_, e20, rfl⟩ := hF.dp 11 20 (by kernel_rfl)
      exact s_is rfl (wantsG hF 9 18 true rfl (by kernel_rfl) rfl) _ rfl (by simp only [execOp, e19, e20]; kernel_rfl)
    · intro a1 w1 hG hF
      obtain ⟨_, e18, rfl⟩ := hF.dp 9 18 (by kernel_rfl)
      obtain ⟨_, e21, rfl⟩ := hF.dp 12 21 (by kernel_rfl)
      exact s_pick rfl (wants0 rfl) (.tmp 18) (.tmp 21) _ rfl e18 _ e21 rfl
    · intro a1 w1 hG hF
      exact s_same rfl (wants0 rfl) (.tmp 22) (.inl rfl) (hF.dp 13 22 (by kernel_rfl))
  · intro vs w1 hG hf
    have z0 : vs 14 = .bool true := hf.2.2.2.2.2.2.2.2.2.2.2.2.2.2.1
    clear hf
    simp only [putAll, Nat.zero_add, Nat.reduceAdd, z0]
    clear z0
    go_simp
    go_wp2_with fail
    go_ret
    exact ⟨rfl, hb.trans (((Gr.drew W0).trans hG).mono hb.size)⟩
end Go.Proofs.Ytnjnhnhbeoegaaa
