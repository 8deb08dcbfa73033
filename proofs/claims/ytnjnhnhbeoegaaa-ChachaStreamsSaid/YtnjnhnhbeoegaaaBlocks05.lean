/- The walk of the law ChachaBlocks. No condition. -/
import Derived.Test.YtnjnhnhbeoegaaaStreams05
namespace Go.Proofs.Ytnjnhnhbeoegaaa
open Go.RowKit
theorem info22 (l : List UInt8) (h : l.length = 32) : (Try.prog.info? 22).map (·.size) = some (u8s l).length := by simp only [u8s_length, h]; kernel_rfl
theorem info24 (l : List UInt8) (h : l.length = 12) : (Try.prog.info? 24).map (·.size) = some (u8s l).length := by simp only [u8s_length, h]; kernel_rfl
theorem info25 (l : List UInt8) (h : l.length = 64) : (Try.prog.info? 25).map (·.size) = some (u8s l).length := by simp only [u8s_length, h]; kernel_rfl
theorem Arr.rdAll {w : World} {g : Nat} {t : TypeId} {l : List UInt8} (h : Arr w g t (u8s l)) {n : Nat} (hn : l.length = n) : Rd w (some ⟨g, 0, none⟩) n (u8s l) := by
  subst hn
  have := h.rd 0 l.length (by simp)
  rwa [List.drop_zero, List.take_of_length_le (by simp)] at this
set_option maxHeartbeats 4000000 in
theorem law_blocks (K : List UInt8) (hK : K.length = 32) (c : UInt32) (N : List UInt8) (hN : N.length = 12) (w : World) :
    Calls Try.prog 3 #[.agg (u8s K).toArray, .int .u32 c.toNat, .agg (u8s N).toArray] w fun e w' => e = .returned (.bool true) ∧ Below w.heap.size w w' := by
  obtain ⟨b, hb⟩ : ∃ b, b = blockL K c N := ⟨_, rfl⟩
  have hc1 := fun w => block_any K hK c N hN w
  have hrb := fun w => refBlock_any K hK c N hN w
  have hlb : b.length = 64 := by rw [hb]; simp
  rw [← hb] at hc1 hrb
  clear hb
  go_enter Try.func3, Try.ntmps3
  go_wp2_with first
    | (refine wpList_load_mid rfl 22 (.tmp 3) rfl w.heap.size 0 rfl (u8s K) _ ((Arr.newAt rfl rfl).alloc _).range Try.underlying22 rfl (info22 K hK) ?_)
    | (refine wpList_load_mid rfl 24 (.tmp 5) rfl (w.heap.size + 1) 0 rfl (u8s N) _ (Arr.newAt (asz _ _) rfl).range Try.underlying24 rfl (info24 N hN) ?_)
    | (go_at_call 7; refine (hc1 _).mono ?_; rintro e w1 ⟨rfl, hB1⟩; have h3 := Arr.below ((Arr.newAt rfl rfl).alloc _) hB1 (by simp only [asz]; omega); have h5 := Arr.below (Arr.newAt (asz _ _) rfl) hB1 (by simp only [asz]; omega); have hB := (((Below.refl w.heap.size w).alloc (by omega) _).alloc (by simp only [asz]; omega) _).trans (hB1.mono (by simp only [asz]; omega)); clear hB1)
    | (refine wpList_new rfl 25 (.tmp 7) (.tmp 11) rfl _ (u8s b) rfl rfl rfl (by simp only [u8s_length, hlb]; rfl) (info25 b hlb) (u8s_oneCell b) ?_; intro w3 h7 hG3)
  have h3 := h3.gr hG3
  have h5 := h5.gr hG3
  have hB := hB.trans (hG3.mono hB.size)
  clear hG3 hc1
  generalize w.heap.size + 1 = g5 at h5 ⊢
  generalize w1.heap.size = g7 at h7 ⊢
  generalize w3 = W0 at h3 h5 h7 hB ⊢
  have hr3 := h3.rdAll hK
  have hr5 := h5.rdAll hN
  have hr7 := h7.rdAll hlb
  go_simp
  refine wp_region_ssaL (by kernel_rfl) [IsV (.bool true), IsV (.bool true), IsV (.slice (some ⟨g7, 0, none⟩) 64 64), IsV (.string ⟨(b).toArray⟩), IsV (.slice (some ⟨w.heap.size, 0, none⟩) 32 32), IsV (.string ⟨(K).toArray⟩), IsV (.int .u32 (c.toNat : Nat)), IsV (.slice (some ⟨g5, 0, none⟩) 12 12), IsV (.string ⟨(N).toArray⟩), IsV (.string ⟨(b).toArray⟩), IsV (.bool true), IsV (.bool true), IsV (.bool true)] (by kernel_rfl) ?_ ?_ ?_
  · intro φ hφ v w1 w2 h hg
    simp only [List.mem_cons, List.not_mem_nil, or_false] at hφ
    rcases hφ with rfl | rfl | rfl | rfl | rfl | rfl | rfl | rfl | rfl | rfl | rfl | rfl | rfl
    all_goals first | exact h | exact RdV.gr h hg
  · refine ⟨?_, ?_, ?_, ?_, ?_, ?_, ?_, ?_, ?_, ?_, ?_, ?_, ?_, trivial⟩
    · intro a1 w1 hG hF
      exact s_call rfl (wants0 rfl) _ rfl _ _ (by simp only [execOp, resolve, invoke, List.map_toArray, List.map_nil]; go_simp) ((streams_any w1).mono fun e w2 ⟨he, hb⟩ => ⟨_, he, rfl, hb⟩)
    · intro a1 w1 hG hF
      exact s_same rfl (wants0 rfl) (.tmp 12) (.inr rfl) (hF.dp 0 12 (by kernel_rfl))
    · intro a1 w1 hG hF
      have e7 : a1.eval (.tmp 7) = .pointer (some ⟨g7, 0, none⟩) := hF.ol 7 (by kernel_rfl)
      exact s_is rfl (wantsG hF 1 13 true rfl (by kernel_rfl) rfl) _ rfl (by simp only [execOp, e7, Option.map, Sem.run_bind, run_cutAll (P := Try.prog) Try.underlying25 (by kernel_rfl), Result.andThen_ok, Sem.run_pure])
    · intro a1 w1 hG hF
      obtain ⟨_, e14, rfl⟩ := hF.dp 2 14 (by kernel_rfl)
      exact s_str rfl (wantsG hF 1 13 true rfl (by kernel_rfl) rfl) _ _ _ (.tmp 14) rfl Try.underlying28 Try.underlying5 Try.underlying9 _ _ _ _ e14 (Gr.rd ((Gr.drew W0).trans hG) hr7) rfl
    · intro a1 w1 hG hF
      have e3 : a1.eval (.tmp 3) = .pointer (some ⟨w.heap.size, 0, none⟩) := hF.ol 3 (by kernel_rfl)
      exact s_is rfl (wantsG hF 1 13 true rfl (by kernel_rfl) rfl) _ rfl (by simp only [execOp, e3, Option.map, Sem.run_bind, run_cutAll (P := Try.prog) Try.underlying22 (by kernel_rfl), Result.andThen_ok, Sem.run_pure])
    · intro a1 w1 hG hF
      obtain ⟨_, e16, rfl⟩ := hF.dp 4 16 (by kernel_rfl)
      exact s_str rfl (wantsG hF 1 13 true rfl (by kernel_rfl) rfl) _ _ _ (.tmp 16) rfl Try.underlying28 Try.underlying5 Try.underlying9 _ _ _ _ e16 (Gr.rd ((Gr.drew W0).trans hG) hr3) rfl
    · intro a1 w1 hG hF
      exact s_old rfl (wantsG hF 1 13 true rfl (by kernel_rfl) rfl) (.tmp 1) (.inr rfl) (.int .u32 (c.toNat : Nat)) (hF.ol 1 (by kernel_rfl)) rfl
    · intro a1 w1 hG hF
      have e5 : a1.eval (.tmp 5) = .pointer (some ⟨g5, 0, none⟩) := hF.ol 5 (by kernel_rfl)
      exact s_is rfl (wantsG hF 1 13 true rfl (by kernel_rfl) rfl) _ rfl (by simp only [execOp, e5, Option.map, Sem.run_bind, run_cutAll (P := Try.prog) Try.underlying24 (by kernel_rfl), Result.andThen_ok, Sem.run_pure])
    · intro a1 w1 hG hF
      obtain ⟨_, e19, rfl⟩ := hF.dp 7 19 (by kernel_rfl)
      exact s_str rfl (wantsG hF 1 13 true rfl (by kernel_rfl) rfl) _ _ _ (.tmp 19) rfl Try.underlying28 Try.underlying5 Try.underlying9 _ _ _ _ e19 (Gr.rd ((Gr.drew W0).trans hG) hr5) rfl
    · intro a1 w1 hG hF
      obtain ⟨_, e17, rfl⟩ := hF.dp 5 17 (by kernel_rfl)
      obtain ⟨_, e18, rfl⟩ := hF.dp 6 18 (by kernel_rfl)
      obtain ⟨_, e20, rfl⟩ := hF.dp 8 20 (by kernel_rfl)
      exact s_call rfl (wantsG hF 1 13 true rfl (by kernel_rfl) rfl) _ rfl _ _ (by simp only [execOp, resolve, invoke, List.map_toArray, List.map_cons, List.map_nil, e17, e18, e20]; go_simp) ((hrb w1).mono fun e w2 ⟨he, hb⟩ => ⟨_, he, rfl, hb⟩)
    · intro a1 w1 hG hF
      obtain ⟨_, e15, rfl⟩ := hF.dp 3 15 (by kernel_rfl)
      obtain ⟨_, e21, rfl⟩ := hF.dp 9 21 (by kernel_rfl)
      exact s_is rfl (wantsG hF 1 13 true rfl (by kernel_rfl) rfl) _ rfl (by simp only [execOp, e15, e21]; go_simp)
    · intro a1 w1 hG hF
      obtain ⟨_, e13, rfl⟩ := hF.dp 1 13 (by kernel_rfl)
      obtain ⟨_, e22, rfl⟩ := hF.dp 10 22 (by kernel_rfl)
      exact s_pick rfl (wants0 rfl) (.tmp 13) (.tmp 22) _ rfl e13 _ e22 rfl
    · intro a1 w1 hG hF
      exact s_same rfl (wants0 rfl) (.tmp 23) (.inl rfl) (hF.dp 11 23 (by kernel_rfl))
  · intro vs w1 hG hf
    have z6 : vs 12 = .bool true := hf.2.2.2.2.2.2.2.2.2.2.2.2.1
    clear hf
    simp only [putAll, Nat.zero_add, Nat.reduceAdd, z6]
    clear z6
    go_simp
    go_wp2_with fail
    go_ret
    exact ⟨rfl, hB.trans (((Gr.drew W0).trans hG).mono hB.size)⟩
end Go.Proofs.Ytnjnhnhbeoegaaa
