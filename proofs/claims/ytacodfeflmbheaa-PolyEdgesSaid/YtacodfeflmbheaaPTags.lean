/- The walk of the law PolyTags. No condition. -/
import Derived.Test.YtacodfeflmbheaaPolY
import Derived.Test.YtacodfeflmbheaaNought06
namespace Go.Proofs.Ytacodfeflmbheaa
open Go.RowKit
set_option maxRecDepth 100000 in
set_option maxHeartbeats 4000000 in
theorem law_ptags (K : List UInt8) (hK : K.length = 32) (A : Option Addr) (n c : Nat) (b : List UInt8) (w : World) (hnc : n ≤ c) (hcm : c ≤ maxLen) (hb : Rd w A n (u8s b)) :
    Calls Try.prog 3 #[.agg (u8s K).toArray, .slice A n c] w fun e w' => e = .returned (.bool true) ∧ Below w.heap.size w w' := by
  obtain ⟨i0, hi0, hz0, hz1, hz2⟩ := info_parts Try.info5
  unfold maxLen at hcm
  obtain ⟨m, hm⟩ : ∃ m : Nat, m = min n 200 := ⟨_, rfl⟩
  have hk : min (n : Int) 200 = (m : Int) := by omega
  have hmn : m ≤ n := by omega
  have hm200 : m ≤ 200 := by omega
  have hbm : Rd w A m (u8s (b.take m)) := by rw [← u8s_take]; exact hb.take hmn
  obtain ⟨l, hl⟩ : ∃ l, l = b.take m := ⟨_, rfl⟩
  rw [← hl] at hbm
  have hlm : l.length = m := by simpa using hbm.1
  have hc1 := fun w A c hc hr => polyTag_any K hK A m c l hc w hr
  have hr1 := fun w => refTag_any K hK l (by omega) w
  obtain ⟨X, hX⟩ : ∃ X, X = tagL K l := ⟨_, rfl⟩
  have hlX : X.length = 16 := by rw [hX]; simp [tagL]
  rw [← hX] at hc1 hr1
  have hcut := fun w1 => run_cutRdH (P := Try.prog) Try.underlying23 (by kernel_rfl) (A := A) (n := n) (c := c) (k := m) (z := (m : Int)) rfl hmn hnc w1
  have HC1 := Lib.hid hc1
  have HR1 := Lib.hid hr1
  clear hm hl hb hX hc1 hr1 hlm
  go_enter Try.func3, Try.ntmps3
  go_wp2_with (at_builtin; go_must (refine wpList_clip _ rfl (.tmp 7) (.tmp 12) 23 rfl 5 i0 (.int .u8 0) Try.underlying23 hi0 hz0 hz1 hz2 rfl (w.heap.size + 1) (by simp only [asz]) rfl A m c l rfl (hbm.alloc _) (by omega) ?_); intro v1 w1 ho1 hB1)
  obtain ⟨A2, c2, rfl, hc2, _⟩ := own_form ho1
  have hr2 := Rd.of_own ho1
  have h2 := Arr.below (Arr.newAt (w := w) (t := 22) (C := (u8s K).toArray) rfl rfl) hB1 (by simp only [asz]; omega)
  have hB : Below w.heap.size w w1 := ((Below.refl _ _).alloc (by omega) _).trans (hB1.mono (by simp only [asz]; omega))
  have hcv := run_str (P := Try.prog) (c := c2) w1 Try.underlying23 Try.underlying5 Try.underlying9 hr2
  clear hB1 ho1 hbm
  go_simp
  go_wp2_with first
    | (refine wpList_load_mid rfl 22 (.tmp 2) rfl w.heap.size 0 rfl (u8s K) _ h2.range Try.underlying22 rfl (info22 K hK) ?_)
    | (go_at_call 9; refine (HC1.out _ A2 c2 hc2 hr2).mono ?_; rintro e w2 ⟨rfl, hB2⟩; replace h2 := h2.gr hB2; replace hr2 := Gr.rd hB2 hr2; replace hB := hB.trans (hB2.mono hB.size); clear hB2 hcv)
    | (refine wpList_new rfl 24 (.tmp 6) (.tmp 18) rfl _ (u8s X) rfl rfl rfl (by simp only [u8s_length, hlX]; rfl) (info16 X hlX) (u8s_oneCell _) ?_; intro w3 h6 hG3; replace h2 := h2.gr hG3; replace hr2 := Gr.rd hG3 hr2; replace hB := hB.trans (hG3.mono hB.size); clear hG3)
  generalize w2.heap.size = g6 at h6 ⊢
  generalize w3 = W0 at h2 h6 hr2 hB ⊢
  have hr6 := h6.rdAll hlX
  have hrk := h2.rdAll hK
  go_simp
  refine wp_region_ssaL (by kernel_rfl) [IsV (.bool true), IsV (.bool true), IsV (.slice (some ⟨g6, 0, none⟩) 16 16), IsV (.string ⟨(X).toArray⟩), IsV (.slice (some ⟨w.heap.size, 0, none⟩) 32 32), IsV (.string ⟨(K).toArray⟩), IsV (.string ⟨(l).toArray⟩), IsV (.string ⟨(X).toArray⟩), IsV (.bool true), IsV (.bool true), IsV (.bool true), IsV (.slice A2 m c2), IsV (.string ⟨(l).toArray⟩), IsV (.string ⟨(l).toArray⟩), IsV (.bool true), IsV (.bool true), IsV (.bool true)] (by kernel_rfl) ?_ ?_ ?_
  · intro φ hφ v w1 w2 h hg
    simp only [List.mem_cons, List.not_mem_nil, or_false] at hφ
    rcases hφ with rfl | rfl | rfl | rfl | rfl | rfl | rfl | rfl | rfl | rfl | rfl | rfl | rfl | rfl | rfl | rfl | rfl
    all_goals first | exact h | exact RdV.gr h hg
  · refine ⟨?_, ?_, ?_, ?_, ?_, ?_, ?_, ?_, ?_, ?_, ?_, ?_, ?_, ?_, ?_, ?_, ?_, trivial⟩
    · intro a1 w1 hG hF
      exact s_call rfl (wants0 rfl) _ rfl _ _ (by simp only [execOp, resolve, invoke, List.map_toArray, List.map_nil]; go_simp) ((tags_any w1).mono fun e w2 ⟨he, hb⟩ => ⟨_, he, rfl, hb⟩)
    · intro a1 w1 hG hF
      exact s_same rfl (wants0 rfl) (.tmp 19) (.inr rfl) (hF.dp 0 19 (by kernel_rfl))
    · intro a1 w1 hG hF
      have e6 : a1.eval (.tmp 6) = .pointer (some ⟨g6, 0, none⟩) := hF.ol 6 (by kernel_rfl)
      exact s_is rfl (wantsG hF 1 20 true rfl (by kernel_rfl) rfl) _ rfl (by simp only [execOp, e6, Option.map, Sem.run_bind, run_cutAll (P := Try.prog) Try.underlying24 (by kernel_rfl), Result.andThen_ok, Sem.run_pure])
    · intro a1 w1 hG hF
      obtain ⟨_, e21, rfl⟩ := hF.dp 2 21 (by kernel_rfl)
      exact s_str rfl (wantsG hF 1 20 true rfl (by kernel_rfl) rfl) _ _ _ (.tmp 21) rfl Try.underlying23 Try.underlying5 Try.underlying9 _ _ _ _ e21 (Gr.rd ((Gr.drew W0).trans hG) hr6) rfl
    · intro a1 w1 hG hF
      have e2 : a1.eval (.tmp 2) = .pointer (some ⟨w.heap.size, 0, none⟩) := hF.ol 2 (by kernel_rfl)
      exact s_is rfl (wantsG hF 1 20 true rfl (by kernel_rfl) rfl) _ rfl (by simp only [execOp, e2, Option.map, Sem.run_bind, run_cutAll (P := Try.prog) Try.underlying22 (by kernel_rfl), Result.andThen_ok, Sem.run_pure])
    · intro a1 w1 hG hF
      obtain ⟨_, e23, rfl⟩ := hF.dp 4 23 (by kernel_rfl)
      exact s_str rfl (wantsG hF 1 20 true rfl (by kernel_rfl) rfl) _ _ _ (.tmp 23) rfl Try.underlying23 Try.underlying5 Try.underlying9 _ _ _ _ e23 (Gr.rd ((Gr.drew W0).trans hG) hrk) rfl
    · intro a1 w1 hG hF
      exact s_old rfl (wantsG hF 1 20 true rfl (by kernel_rfl) rfl) (.tmp 5) (.inr rfl) (.string ⟨(l).toArray⟩) (hF.ol 5 (by kernel_rfl)) rfl
    · intro a1 w1 hG hF
      obtain ⟨_, e24, rfl⟩ := hF.dp 5 24 (by kernel_rfl)
      obtain ⟨_, e25, rfl⟩ := hF.dp 6 25 (by kernel_rfl)
      exact s_call rfl (wantsG hF 1 20 true rfl (by kernel_rfl) rfl) _ rfl _ _ (by simp only [execOp, resolve, invoke, List.map_toArray, List.map_cons, List.map_nil, e24, e25]; go_simp) ((HR1.out w1).mono fun e w2 ⟨he, hb⟩ => ⟨_, he, rfl, hb⟩)
    · intro a1 w1 hG hF
      obtain ⟨_, e22, rfl⟩ := hF.dp 3 22 (by kernel_rfl)
      obtain ⟨_, e26, rfl⟩ := hF.dp 7 26 (by kernel_rfl)
      exact s_is rfl (wantsG hF 1 20 true rfl (by kernel_rfl) rfl) _ rfl (by simp only [execOp, e22, e26]; go_simp)
    · intro a1 w1 hG hF
      obtain ⟨_, e20, rfl⟩ := hF.dp 1 20 (by kernel_rfl)
      obtain ⟨_, e27, rfl⟩ := hF.dp 8 27 (by kernel_rfl)
      exact s_pick rfl (wants0 rfl) (.tmp 20) (.tmp 27) _ rfl e20 _ e27 rfl
    · intro a1 w1 hG hF
      exact s_same rfl (wants0 rfl) (.tmp 28) (.inr rfl) (hF.dp 9 28 (by kernel_rfl))
    · intro a1 w1 hG hF
      exact s_old rfl (wantsG hF 10 29 true rfl (by kernel_rfl) rfl) (.tmp 1) (.inr rfl) (.slice A2 m c2) (hF.ol 1 (by kernel_rfl)) rfl
    · intro a1 w1 hG hF
      obtain ⟨_, e30, rfl⟩ := hF.dp 11 30 (by kernel_rfl)
      exact s_str rfl (wantsG hF 10 29 true rfl (by kernel_rfl) rfl) _ _ _ (.tmp 30) rfl Try.underlying23 Try.underlying5 Try.underlying9 _ _ _ _ e30 (Gr.rd ((Gr.drew W0).trans hG) hr2) rfl
    · intro a1 w1 hG hF
      exact s_old rfl (wantsG hF 10 29 true rfl (by kernel_rfl) rfl) (.tmp 5) (.inr rfl) (.string ⟨(l).toArray⟩) (hF.ol 5 (by kernel_rfl)) rfl
    · intro a1 w1 hG hF
      obtain ⟨_, e31, rfl⟩ := hF.dp 12 31 (by kernel_rfl)
      obtain ⟨_, e32, rfl⟩ := hF.dp 13 32 (by kernel_rfl)
      exact s_is rfl (wantsG hF 10 29 true rfl (by kernel_rfl) rfl) _ rfl (by simp only [execOp, e31, e32]; go_simp)
    · intro a1 w1 hG hF
      obtain ⟨_, e29, rfl⟩ := hF.dp 10 29 (by kernel_rfl)
      obtain ⟨_, e33, rfl⟩ := hF.dp 14 33 (by kernel_rfl)
      exact s_pick rfl (wants0 rfl) (.tmp 29) (.tmp 33) _ rfl e29 _ e33 rfl
    · intro a1 w1 hG hF
      exact s_same rfl (wants0 rfl) (.tmp 34) (.inl rfl) (hF.dp 15 34 (by kernel_rfl))
  · intro vs w1 hG hf
    have z4 : vs 16 = .bool true := hf.2.2.2.2.2.2.2.2.2.2.2.2.2.2.2.2.1
    clear hf
    simp only [putAll, Nat.zero_add, Nat.reduceAdd, z4]
    clear z4
    go_simp
    go_wp2_with fail
    go_ret
    exact ⟨rfl, hB.trans (((Gr.drew W0).trans hG).mono hB.size)⟩
end Go.Proofs.Ytacodfeflmbheaa

