/- The walk of the law AeadSeals. No condition. -/
import Derived.Test.YthffodfnnjejnaaASeals
import Derived.Test.YthffodfnnjejnaaOpen3
namespace Go.Proofs.Ythffodfnnjejnaa
open Go.RowKit
/-- Bytes cut at k: what the law's guards leave. -/
theorem cut_at (n : Nat) (N : Nat) : ∃ k : Nat, min (n : Int) (N : Int) = (k : Int) ∧ k ≤ n ∧ k ≤ N := ⟨min n N, by omega, by omega, by omega⟩
theorem CopyV.gr {base : Nat} {e : TypeId} {l : List UInt8} {v : Value} {w w' : World} (h : CopyV base e l v w) (g : Gr w w') : CopyV base e l v w' := g.own h
theorem NewV.gr {base : Nat} {e : TypeId} {v : Value} {w w' : World} (h : NewV base e v w) (hg : Gr w w') : NewV base e v w' := by
  obtain ⟨g, e, h⟩ := h
  exact ⟨g, e, hg.own h⟩
set_option maxRecDepth 100000 in
set_option maxHeartbeats 8000000 in
theorem law_aseals (K : List UInt8) (hK : K.length = 32) (N : List UInt8) (hN : N.length = 12) (A : Option Addr) (n c : Nat) (W0 : List UInt8) (B : Option Addr) (m d : Nat) (b0 : List UInt8) (w : World) (hnc : n ≤ c) (hmd : m ≤ d) (hr : Rd w A n (u8s W0)) (hb : Rd w B m (u8s b0)) :
    Calls Try.prog 3 #[.agg (u8s K ++ u8s N).toArray, .slice A n c, .slice B m d] w fun e w' => e = .returned (.bool true) ∧ Below w.heap.size w w' := by
  obtain ⟨i0, hi0, hz0, hz1, hz2⟩ := info_parts Try.info5
  obtain ⟨k, hki, hkn, hk2⟩ := cut_at n 60
  obtain ⟨j, hji, hjm, hj2⟩ := cut_at m 150
  have hrk : Rd w A k (u8s (W0.take k)) := by rw [← u8s_take]; exact hr.take hkn
  have hrj : Rd w B j (u8s (b0.take j)) := by rw [← u8s_take]; exact hb.take hjm
  obtain ⟨W, hW⟩ : ∃ W, W = W0.take k := ⟨_, rfl⟩
  obtain ⟨b, hbb⟩ : ∃ b, b = b0.take j := ⟨_, rfl⟩
  rw [← hW] at hrk
  rw [← hbb] at hrj
  have hWl : W.length = k := by simpa using hrk.1
  have hbl : b.length = j := by simpa using hrj.1
  have HC1 := Lib.hid fun w1 => run_cut_h (P := Try.prog) Try.underlying26 (by kernel_rfl) (A := A) (n := n) (c := c) (hi := k) (h := (k : Int)) rfl (by omega) w1
  have HC2 := Lib.hid fun w1 => run_cut_h (P := Try.prog) Try.underlying26 (by kernel_rfl) (A := B) (n := m) (c := d) (hi := j) (h := (j : Int)) rfl (by omega) w1
  have HM1 := Lib.hid hki
  have HM2 := Lib.hid hji
  obtain ⟨S, hS⟩ : ∃ S, S = sealL K N W b := ⟨_, rfl⟩
  have hSl : S.length = j + 16 := by rw [hS]; simp [hbl]
  have HS : Hid (∀ w A c B d, j ≤ d → Rd w A k (u8s W) → Rd w B j (u8s b) → Calls Try.prog 8 #[.agg (u8s K).toArray, .agg (u8s N).toArray, .slice A k c, .slice B j d] w fun e w' => ∃ v, e = .returned v ∧ w'.ownsRow w.heap.size 5 1 v (j + 16) (u8s S) ∧ Below w.heap.size w w') := by
    intro w A c B d hd h1 h2
    rw [hS]
    exact seal_any K hK N hN A k c W B j d b (by omega) (by omega) hd w h1 h2
  have HO : Hid (∀ w A c B d, j + 16 ≤ d → Rd w A k (u8s W) → Rd w B (j + 16) (u8s S) → Calls Try.prog 9 #[.agg (u8s K).toArray, .agg (u8s N).toArray, .slice A k c, .slice B (j + 16) d] w fun e w' => (∃ A2 c2, e = .returned (.tuple #[.slice A2 j c2, .int .i64 0]) ∧ Rd w' A2 j (u8s b)) ∧ Below w.heap.size w w') := by
    intro w A c B d hd h1 h2
    refine (open_any K hK N hN A k c W B (j + 16) d S (by omega) (by omega) hd w h1 h2).mono ?_
    rintro e w' ⟨hQ, hB⟩
    rw [hS] at hQ
    obtain ⟨A2, c2, he, _, h3⟩ := opens_sealed hQ
    rw [hbl] at he h3
    exact ⟨⟨A2, c2, he, h3⟩, hB⟩
  have HR : Hid (∀ w, Calls Try.prog 11 #[.string ⟨K.toArray⟩, .string ⟨N.toArray⟩, .string ⟨W.toArray⟩, .string ⟨b.toArray⟩] w fun e w' => e = .returned (.string ⟨S.toArray⟩) ∧ Below w.heap.size w w') := by
    intro w
    rw [hS]
    exact rSeal_any K hK N hN W b (by omega) (by omega) w
  have h3 : Arr (w.alloc (.cells (u8s K ++ u8s N).toArray 25)) w.heap.size 25 (u8s K ++ u8s N) := Arr.newAt rfl rfl
  have G0 : Gr w (w.alloc (.cells (u8s K ++ u8s N).toArray 25)) := Gr.alloc _ _
  have iK := info22 K hK
  have iN := info24 N hN
  clear hS hW hbb hki hji
  go_enter Try.func3, Try.ntmps3
  go_upto_region 1 with fail
  generalize w.alloc (.cells (u8s K ++ u8s N).toArray 25) = w0 at h3 G0 ⊢
  obtain ⟨g3, hg3⟩ : ∃ g, g = w.heap.size := ⟨_, rfl⟩
  rw [← hg3] at h3
  simp only [← hg3]
  have HG3 := Lib.hid hg3
  clear hg3
  have hrk0 := G0.rd hrk
  have hrj0 := G0.rd hrj
  refine wp_region_ssaL (by kernel_rfl) [NewV w0.heap.size 5, IsV (.slice A n c), IsV (.slice A n c), IsV (.int .i64 ((n : Nat) : Int)), IsV (.int .i64 ((k : Nat) : Int)), IsV (.slice A k c), CopyV w0.heap.size 5 W, NewV w0.heap.size 5, IsV (.slice B m d), IsV (.slice B m d), IsV (.int .i64 ((m : Nat) : Int)), IsV (.int .i64 ((j : Nat) : Int)), IsV (.slice B j d), CopyV w0.heap.size 5 b, CopyV w0.heap.size 5 W, CopyV w0.heap.size 5 b] (by kernel_rfl) ?_ ?_ ?_
  · intro φ hφ v w1 w2 h hg
    simp only [List.mem_cons, List.not_mem_nil, or_false] at hφ
    rcases hφ with rfl | rfl | rfl | rfl | rfl | rfl | rfl | rfl | rfl | rfl | rfl | rfl | rfl | rfl | rfl | rfl
    all_goals first | exact h | exact RdV.gr h hg | exact CopyV.gr h hg | exact NewV.gr h hg
  · refine ⟨?_, ?_, ?_, ?_, ?_, ?_, ?_, ?_, ?_, ?_, ?_, ?_, ?_, ?_, ?_, ?_, trivial⟩
    · intro a1 w1 hG hF
      exact ssa_new rfl rfl w0.heap.size 5 rfl hG.size (by go_simp)
    · intro a1 w1 hG hF
      exact s_old rfl (wants0 rfl) (.tmp 1) (.inr rfl) (.slice A n c) (hF.ol 1 (by kernel_rfl)) rfl
    · intro a1 w1 hG hF
      exact s_old rfl (wants0 rfl) (.tmp 1) (.inr rfl) (.slice A n c) (hF.ol 1 (by kernel_rfl)) rfl
    · intro a1 w1 hG hF
      obtain ⟨_, e14, rfl⟩ := hF.dp 2 14 (by kernel_rfl)
      exact s_is rfl (wants0 rfl) _ rfl (run_len_slice Try.underlying26 e14)
    · intro a1 w1 hG hF
      obtain ⟨_, e15, rfl⟩ := hF.dp 3 15 (by kernel_rfl)
      exact s_is rfl (wants0 rfl) _ rfl (run_min_ e15 rfl HM1.out)
    · intro a1 w1 hG hF
      obtain ⟨_, e13, rfl⟩ := hF.dp 1 13 (by kernel_rfl)
      obtain ⟨_, e16, rfl⟩ := hF.dp 4 16 (by kernel_rfl)
      exact s_is rfl (wants0 rfl) _ rfl (by simp only [execOp, e13, e16, Option.map, Sem.run_bind, HC1.out, Result.andThen_ok, Sem.run_pure])
    · intro a1 w1 hG hF
      obtain ⟨x12, e12, f12⟩ := hF.dp 0 12 (by kernel_rfl)
      obtain ⟨_, e17, rfl⟩ := hF.dp 5 17 (by kernel_rfl)
      exact ssa_clip rfl rfl w0.heap.size _ 5 rfl (.tmp 12) (.tmp 17) 26 rfl i0 (.int .u8 0) Try.underlying26 hi0 hz0 hz1 hz2 rfl ⟨x12, e12, f12⟩ A k c e17 (((Gr.drew w0).trans hG).rd hrk0) (by omega) hG.size
    · intro a1 w1 hG hF
      exact ssa_new rfl rfl w0.heap.size 5 rfl hG.size (by go_simp)
    · intro a1 w1 hG hF
      exact s_old rfl (wants0 rfl) (.tmp 2) (.inr rfl) (.slice B m d) (hF.ol 2 (by kernel_rfl)) rfl
    · intro a1 w1 hG hF
      exact s_old rfl (wants0 rfl) (.tmp 2) (.inr rfl) (.slice B m d) (hF.ol 2 (by kernel_rfl)) rfl
    · intro a1 w1 hG hF
      obtain ⟨_, e21, rfl⟩ := hF.dp 9 21 (by kernel_rfl)
      exact s_is rfl (wants0 rfl) _ rfl (run_len_slice Try.underlying26 e21)
    · intro a1 w1 hG hF
      obtain ⟨_, e22, rfl⟩ := hF.dp 10 22 (by kernel_rfl)
      exact s_is rfl (wants0 rfl) _ rfl (run_min_ e22 rfl HM2.out)
    · intro a1 w1 hG hF
      obtain ⟨_, e20, rfl⟩ := hF.dp 8 20 (by kernel_rfl)
      obtain ⟨_, e23, rfl⟩ := hF.dp 11 23 (by kernel_rfl)
      exact s_is rfl (wants0 rfl) _ rfl (by simp only [execOp, e20, e23, Option.map, Sem.run_bind, HC2.out, Result.andThen_ok, Sem.run_pure])
    · intro a1 w1 hG hF
      obtain ⟨x19, e19, f19⟩ := hF.dp 7 19 (by kernel_rfl)
      obtain ⟨_, e24, rfl⟩ := hF.dp 12 24 (by kernel_rfl)
      exact ssa_clip rfl rfl w0.heap.size _ 5 rfl (.tmp 19) (.tmp 24) 26 rfl i0 (.int .u8 0) Try.underlying26 hi0 hz0 hz1 hz2 rfl ⟨x19, e19, f19⟩ B j d e24 (((Gr.drew w0).trans hG).rd hrj0) (by omega) hG.size
    · intro a1 w1 hG hF
      exact s_same rfl (wants0 rfl) (.tmp 18) (.inl rfl) (hF.dp 6 18 (by kernel_rfl))
    · intro a1 w1 hG hF
      exact s_same rfl (wants0 rfl) (.tmp 25) (.inl rfl) (hF.dp 13 25 (by kernel_rfl))
  · intro vs w1 hG hf
    have y1 : (CopyV w0.heap.size 5 W) (vs 14) w1 := hf.2.2.2.2.2.2.2.2.2.2.2.2.2.2.1
    have y2 : (CopyV w0.heap.size 5 b) (vs 15) w1 := hf.2.2.2.2.2.2.2.2.2.2.2.2.2.2.2.1
    clear hf
    simp only [putAll, Nat.zero_add, Nat.reduceAdd]
    have hG1 := (Gr.drew w0).trans hG
    obtain ⟨A1, c1, z26, hc1, _, hr1⟩ := own_form3 y1
    obtain ⟨A2, c2, z27, hc2, _, hr2⟩ := own_form3 y2
    rw [hWl] at z26 hc1 hr1
    rw [hbl] at z27 hc2 hr2
    rw [z26, z27]
    have h31 := h3.gr hG1
    have hB1 : Below w.heap.size w w1 := Below.trans G0 (Below.mono hG1 G0.size)
    generalize w1 = w2 at hr1 hr2 h31 hB1 ⊢
    clear hG1 hG y1 y2 z26 z27 h3 G0 hrk0 hrj0 hrk hrj hr hb
    go_simp
    go_wp2_with fail
    refine wp_region_ssaL (by kernel_rfl) [IsV (.slice A1 k c1), IsV (.string ⟨(W).toArray⟩), IsV (.slice A2 j c2), IsV (.string ⟨(b).toArray⟩), IsV (.string ⟨(W).toArray⟩), IsV (.string ⟨(b).toArray⟩)] (by kernel_rfl) ?_ ?_ ?_
    · intro φ hφ v w1 w2 h hg
      simp only [List.mem_cons, List.not_mem_nil, or_false] at hφ
      rcases hφ with rfl | rfl | rfl | rfl | rfl | rfl
      all_goals first | exact h | exact RdV.gr h hg
    · refine ⟨?_, ?_, ?_, ?_, ?_, ?_, trivial⟩
      · intro a1 w1 hG hF
        exact s_old rfl (wants0 rfl) (.tmp 1) (.inr rfl) (.slice A1 k c1) (hF.ol 1 (by kernel_rfl)) rfl
      · intro a1 w1 hG hF
        obtain ⟨_, e26, rfl⟩ := hF.dp 0 26 (by kernel_rfl)
        exact s_str rfl (wants0 rfl) 26 9 5 (.tmp 26) rfl Try.underlying26 Try.underlying5 Try.underlying9 _ _ _ (W) e26 (((Gr.drew w2).trans hG).rd hr1) rfl
      · intro a1 w1 hG hF
        exact s_old rfl (wants0 rfl) (.tmp 2) (.inr rfl) (.slice A2 j c2) (hF.ol 2 (by kernel_rfl)) rfl
      · intro a1 w1 hG hF
        obtain ⟨_, e28, rfl⟩ := hF.dp 2 28 (by kernel_rfl)
        exact s_str rfl (wants0 rfl) 26 9 5 (.tmp 28) rfl Try.underlying26 Try.underlying5 Try.underlying9 _ _ _ (b) e28 (((Gr.drew w2).trans hG).rd hr2) rfl
      · intro a1 w1 hG hF
        exact s_same rfl (wants0 rfl) (.tmp 27) (.inl rfl) (hF.dp 1 27 (by kernel_rfl))
      · intro a1 w1 hG hF
        exact s_same rfl (wants0 rfl) (.tmp 29) (.inl rfl) (hF.dp 3 29 (by kernel_rfl))
    · intro vs w1 hG hf
      have z7 : vs 4 = .string ⟨(W).toArray⟩ := hf.2.2.2.2.1
      have z8 : vs 5 = .string ⟨(b).toArray⟩ := hf.2.2.2.2.2.1
      clear hf
      simp only [putAll, Nat.zero_add, Nat.reduceAdd, z7, z8]
      have hG2 := (Gr.drew w2).trans hG
      have hr12 := hG2.rd hr1
      have hr22 := hG2.rd hr2
      have h32 := h31.gr hG2
      have hB2 := hB1.trans (hG2.mono hB1.size)
      clear hG2 hG hr1 hr2 h31 hB1
      have hrgK := h32.rangeL
      have hrgN := h32.rangeR hK
      go_simp
      go_wp2_with first
        | (refine wpList_load_mid rfl 22 (.tmp 30) rfl g3 0 rfl (u8s K) _ hrgK Try.underlying22 rfl iK ?_)
        | (refine wpList_load_mid rfl 23 (.tmp 32) rfl g3 32 rfl (u8s N) _ hrgN Try.underlying23 rfl iN ?_)
      refine (HS.out w1 A1 c1 A2 c2 hc2 hr12 hr22).mono ?_
      rintro e w3 ⟨v3, rfl, ho3, hB3⟩
      obtain ⟨A9, c9, rfl, hc9, _, hr9⟩ := own_form3 ho3
      have hr13 : Rd w3 A1 k (u8s W) := hr12.below hB3
      have hr23 : Rd w3 A2 j (u8s b) := hr22.below hB3
      have h33 := h32.gr hB3
      have hB4 := hB2.trans (hB3.mono hB2.size)
      clear hB3 hr12 hr22 h32 hrgK hrgN ho3 hB2
      have hrgK := h33.rangeL
      have hrgN := h33.rangeR hK
      go_wp2_with first
        | (refine wpList_load_mid rfl 22 (.tmp 38) rfl g3 0 rfl (u8s K) _ hrgK Try.underlying22 rfl iK ?_)
        | (refine wpList_load_mid rfl 23 (.tmp 40) rfl g3 32 rfl (u8s N) _ hrgN Try.underlying23 rfl iN ?_)
      refine (HO.out w3 A1 c1 A9 c9 hc9 hr13 hr9).mono ?_
      rintro e w4 ⟨⟨A10, c10, rfl, hr10⟩, hB5⟩
      have hr14 : Rd w4 A1 k (u8s W) := hr13.below hB5
      have hr24 : Rd w4 A2 j (u8s b) := hr23.below hB5
      have hr94 : Rd w4 A9 (j + 16) (u8s S) := hr9.below hB5
      have h34 := h33.gr hB5
      have hB6 := hB4.trans (hB5.mono hB4.size)
      have hrK := h34.rdL hK
      have hrN := h34.rdR hK hN
      clear hB5 hr13 hr23 hr9 h33 hrgK hrgN hB4
      go_wp2_with fail
      refine wp_region_ssaL (by kernel_rfl) [IsV (.bool true), IsV (.bool true), IsV (.slice A9 (j + 16) c9), IsV (.string ⟨(S).toArray⟩), IsV (.pointer (some ⟨g3, 0, none⟩)), IsV (.slice (some ⟨g3, 0, none⟩) 32 32), IsV (.string ⟨(K).toArray⟩), IsV (.pointer (some ⟨g3, 32, none⟩)), IsV (.slice (some ⟨g3, 32, none⟩) 12 12), IsV (.string ⟨(N).toArray⟩), IsV (.string ⟨(W).toArray⟩), IsV (.string ⟨(b).toArray⟩), IsV (.string ⟨(S).toArray⟩), IsV (.bool true), IsV (.bool true), IsV (.bool true), IsV (.int .i64 ((0 : Nat) : Int)), IsV (.bool true), IsV (.bool true), IsV (.bool true), IsV (.slice A10 j c10), IsV (.string ⟨(b).toArray⟩), IsV (.string ⟨(b).toArray⟩), IsV (.bool true), IsV (.bool true), IsV (.bool true), IsV (.slice A1 k c1), IsV (.string ⟨(W).toArray⟩), IsV (.string ⟨(W).toArray⟩), IsV (.bool true), IsV (.bool true), IsV (.bool true), IsV (.slice A2 j c2), IsV (.string ⟨(b).toArray⟩), IsV (.string ⟨(b).toArray⟩), IsV (.bool true), IsV (.bool true), IsV (.bool true)] (by kernel_rfl) ?_ ?_ ?_
      · intro φ hφ v w1 w2 h hg
        simp only [List.mem_cons, List.not_mem_nil, or_false] at hφ
        rcases hφ with rfl | rfl | rfl | rfl | rfl | rfl | rfl | rfl | rfl | rfl | rfl | rfl | rfl | rfl | rfl | rfl | rfl | rfl | rfl | rfl | rfl | rfl | rfl | rfl | rfl | rfl | rfl | rfl | rfl | rfl | rfl | rfl | rfl | rfl | rfl | rfl | rfl | rfl
        all_goals first | exact h | exact RdV.gr h hg
      · refine ⟨?_, ?_, ?_, ?_, ?_, ?_, ?_, ?_, ?_, ?_, ?_, ?_, ?_, ?_, ?_, ?_, ?_, ?_, ?_, ?_, ?_, ?_, ?_, ?_, ?_, ?_, ?_, ?_, ?_, ?_, ?_, ?_, ?_, ?_, ?_, ?_, ?_, ?_, trivial⟩
        · intro a1 w1 hG hF
          exact s_call rfl (wants0 rfl) _ rfl _ _ (by simp only [execOp, resolve, invoke, List.map_toArray, List.map_nil]; go_simp) ((seals_any w1).mono fun e w2 ⟨he, hb⟩ => ⟨_, he, rfl, hb⟩)
        · intro a1 w1 hG hF
          exact s_same rfl (wants0 rfl) (.tmp 47) (.inr rfl) (hF.dp 0 47 (by kernel_rfl))
        · intro a1 w1 hG hF
          exact s_old rfl (wantsG hF 1 48 true rfl (by kernel_rfl) rfl) (.tmp 9) (.inr rfl) (.slice A9 (j + 16) c9) (hF.ol 9 (by kernel_rfl)) rfl
        · intro a1 w1 hG hF
          obtain ⟨_, e49, rfl⟩ := hF.dp 2 49 (by kernel_rfl)
          exact s_str rfl (wantsG hF 1 48 true rfl (by kernel_rfl) rfl) 26 9 5 (.tmp 49) rfl Try.underlying26 Try.underlying5 Try.underlying9 _ _ _ (S) e49 (((Gr.drew w4).trans hG).rd hr94) rfl
        · intro a1 w1 hG hF
          have e3 : a1.eval (.tmp 3) = .pointer (some ⟨g3, 0, none⟩) := hF.ol 3 (by kernel_rfl)
          exact s_is rfl (wantsG hF 1 48 true rfl (by kernel_rfl) rfl) _ rfl (run_field (o := 0) (k := 31) Try.underlying25 rfl rfl (by kernel_rfl) e3)
        · intro a1 w1 hG hF
          obtain ⟨_, e51, rfl⟩ := hF.dp 4 51 (by kernel_rfl)
          exact s_is rfl (wantsG hF 1 48 true rfl (by kernel_rfl) rfl) _ rfl (by simp only [execOp, e51, Option.map, Sem.run_bind, run_cutAllO (P := Try.prog) Try.underlying22 (by kernel_rfl), Result.andThen_ok, Sem.run_pure])
        · intro a1 w1 hG hF
          obtain ⟨_, e52, rfl⟩ := hF.dp 5 52 (by kernel_rfl)
          exact s_str rfl (wantsG hF 1 48 true rfl (by kernel_rfl) rfl) 26 9 5 (.tmp 52) rfl Try.underlying26 Try.underlying5 Try.underlying9 _ _ _ (K) e52 (((Gr.drew w4).trans hG).rd hrK) rfl
        · intro a1 w1 hG hF
          have e3 : a1.eval (.tmp 3) = .pointer (some ⟨g3, 0, none⟩) := hF.ol 3 (by kernel_rfl)
          exact s_is rfl (wantsG hF 1 48 true rfl (by kernel_rfl) rfl) _ rfl (run_field (o := 32) (k := 11) Try.underlying25 rfl rfl (by kernel_rfl) e3)
        · intro a1 w1 hG hF
          obtain ⟨_, e54, rfl⟩ := hF.dp 7 54 (by kernel_rfl)
          exact s_is rfl (wantsG hF 1 48 true rfl (by kernel_rfl) rfl) _ rfl (by simp only [execOp, e54, Option.map, Sem.run_bind, run_cutAllO (P := Try.prog) Try.underlying23 (by kernel_rfl), Result.andThen_ok, Sem.run_pure])
        · intro a1 w1 hG hF
          obtain ⟨_, e55, rfl⟩ := hF.dp 8 55 (by kernel_rfl)
          exact s_str rfl (wantsG hF 1 48 true rfl (by kernel_rfl) rfl) 26 9 5 (.tmp 55) rfl Try.underlying26 Try.underlying5 Try.underlying9 _ _ _ (N) e55 (((Gr.drew w4).trans hG).rd hrN) rfl
        · intro a1 w1 hG hF
          exact s_old rfl (wantsG hF 1 48 true rfl (by kernel_rfl) rfl) (.tmp 7) (.inr rfl) (.string ⟨(W).toArray⟩) (hF.ol 7 (by kernel_rfl)) rfl
        · intro a1 w1 hG hF
          exact s_old rfl (wantsG hF 1 48 true rfl (by kernel_rfl) rfl) (.tmp 8) (.inr rfl) (.string ⟨(b).toArray⟩) (hF.ol 8 (by kernel_rfl)) rfl
        · intro a1 w1 hG hF
          obtain ⟨_, e53, rfl⟩ := hF.dp 6 53 (by kernel_rfl)
          obtain ⟨_, e56, rfl⟩ := hF.dp 9 56 (by kernel_rfl)
          obtain ⟨_, e57, rfl⟩ := hF.dp 10 57 (by kernel_rfl)
          obtain ⟨_, e58, rfl⟩ := hF.dp 11 58 (by kernel_rfl)
          exact s_call rfl (wantsG hF 1 48 true rfl (by kernel_rfl) rfl) _ rfl _ _ (by simp only [execOp, resolve, invoke, List.map_toArray, List.map_cons, List.map_nil, e53, e56, e57, e58]; go_simp) ((HR.out w1).mono fun e w2 ⟨he, hb⟩ => ⟨_, he, rfl, hb⟩)
        · intro a1 w1 hG hF
          obtain ⟨_, e50, rfl⟩ := hF.dp 3 50 (by kernel_rfl)
          obtain ⟨_, e59, rfl⟩ := hF.dp 12 59 (by kernel_rfl)
          exact s_is rfl (wantsG hF 1 48 true rfl (by kernel_rfl) rfl) _ rfl (by simp only [execOp, e50, e59]; go_simp)
        · intro a1 w1 hG hF
          obtain ⟨_, e48, rfl⟩ := hF.dp 1 48 (by kernel_rfl)
          obtain ⟨_, e60, rfl⟩ := hF.dp 13 60 (by kernel_rfl)
          exact s_pick rfl (wants0 rfl) (.tmp 48) (.tmp 60) _ rfl e48 _ e60 rfl
        · intro a1 w1 hG hF
          exact s_same rfl (wants0 rfl) (.tmp 61) (.inr rfl) (hF.dp 14 61 (by kernel_rfl))
        · intro a1 w1 hG hF
          exact s_old rfl (wantsG hF 15 62 true rfl (by kernel_rfl) rfl) (.tmp 11) (.inr rfl) (.int .i64 ((0 : Nat) : Int)) (hF.ol 11 (by kernel_rfl)) rfl
        · intro a1 w1 hG hF
          obtain ⟨_, e63, rfl⟩ := hF.dp 16 63 (by kernel_rfl)
          exact s_is rfl (wantsG hF 15 62 true rfl (by kernel_rfl) rfl) _ rfl (by simp only [execOp, e63]; go_simp)
        · intro a1 w1 hG hF
          obtain ⟨_, e62, rfl⟩ := hF.dp 15 62 (by kernel_rfl)
          obtain ⟨_, e64, rfl⟩ := hF.dp 17 64 (by kernel_rfl)
          exact s_pick rfl (wants0 rfl) (.tmp 62) (.tmp 64) _ rfl e62 _ e64 rfl
        · intro a1 w1 hG hF
          exact s_same rfl (wants0 rfl) (.tmp 65) (.inr rfl) (hF.dp 18 65 (by kernel_rfl))
        · intro a1 w1 hG hF
          exact s_old rfl (wantsG hF 19 66 true rfl (by kernel_rfl) rfl) (.tmp 10) (.inr rfl) (.slice A10 j c10) (hF.ol 10 (by kernel_rfl)) rfl
        · intro a1 w1 hG hF
          obtain ⟨_, e67, rfl⟩ := hF.dp 20 67 (by kernel_rfl)
          exact s_str rfl (wantsG hF 19 66 true rfl (by kernel_rfl) rfl) 26 9 5 (.tmp 67) rfl Try.underlying26 Try.underlying5 Try.underlying9 _ _ _ (b) e67 (((Gr.drew w4).trans hG).rd hr10) rfl
        · intro a1 w1 hG hF
          exact s_old rfl (wantsG hF 19 66 true rfl (by kernel_rfl) rfl) (.tmp 8) (.inr rfl) (.string ⟨(b).toArray⟩) (hF.ol 8 (by kernel_rfl)) rfl
        · intro a1 w1 hG hF
          obtain ⟨_, e68, rfl⟩ := hF.dp 21 68 (by kernel_rfl)
          obtain ⟨_, e69, rfl⟩ := hF.dp 22 69 (by kernel_rfl)
          exact s_is rfl (wantsG hF 19 66 true rfl (by kernel_rfl) rfl) _ rfl (by simp only [execOp, e68, e69]; go_simp)
        · intro a1 w1 hG hF
          obtain ⟨_, e66, rfl⟩ := hF.dp 19 66 (by kernel_rfl)
          obtain ⟨_, e70, rfl⟩ := hF.dp 23 70 (by kernel_rfl)
          exact s_pick rfl (wants0 rfl) (.tmp 66) (.tmp 70) _ rfl e66 _ e70 rfl
        · intro a1 w1 hG hF
          exact s_same rfl (wants0 rfl) (.tmp 71) (.inr rfl) (hF.dp 24 71 (by kernel_rfl))
        · intro a1 w1 hG hF
          exact s_old rfl (wantsG hF 25 72 true rfl (by kernel_rfl) rfl) (.tmp 1) (.inr rfl) (.slice A1 k c1) (hF.ol 1 (by kernel_rfl)) rfl
        · intro a1 w1 hG hF
          obtain ⟨_, e73, rfl⟩ := hF.dp 26 73 (by kernel_rfl)
          exact s_str rfl (wantsG hF 25 72 true rfl (by kernel_rfl) rfl) 26 9 5 (.tmp 73) rfl Try.underlying26 Try.underlying5 Try.underlying9 _ _ _ (W) e73 (((Gr.drew w4).trans hG).rd hr14) rfl
        · intro a1 w1 hG hF
          exact s_old rfl (wantsG hF 25 72 true rfl (by kernel_rfl) rfl) (.tmp 7) (.inr rfl) (.string ⟨(W).toArray⟩) (hF.ol 7 (by kernel_rfl)) rfl
        · intro a1 w1 hG hF
          obtain ⟨_, e74, rfl⟩ := hF.dp 27 74 (by kernel_rfl)
          obtain ⟨_, e75, rfl⟩ := hF.dp 28 75 (by kernel_rfl)
          exact s_is rfl (wantsG hF 25 72 true rfl (by kernel_rfl) rfl) _ rfl (by simp only [execOp, e74, e75]; go_simp)
        · intro a1 w1 hG hF
          obtain ⟨_, e72, rfl⟩ := hF.dp 25 72 (by kernel_rfl)
          obtain ⟨_, e76, rfl⟩ := hF.dp 29 76 (by kernel_rfl)
          exact s_pick rfl (wants0 rfl) (.tmp 72) (.tmp 76) _ rfl e72 _ e76 rfl
        · intro a1 w1 hG hF
          exact s_same rfl (wants0 rfl) (.tmp 77) (.inr rfl) (hF.dp 30 77 (by kernel_rfl))
        · intro a1 w1 hG hF
          exact s_old rfl (wantsG hF 31 78 true rfl (by kernel_rfl) rfl) (.tmp 2) (.inr rfl) (.slice A2 j c2) (hF.ol 2 (by kernel_rfl)) rfl
        · intro a1 w1 hG hF
          obtain ⟨_, e79, rfl⟩ := hF.dp 32 79 (by kernel_rfl)
          exact s_str rfl (wantsG hF 31 78 true rfl (by kernel_rfl) rfl) 26 9 5 (.tmp 79) rfl Try.underlying26 Try.underlying5 Try.underlying9 _ _ _ (b) e79 (((Gr.drew w4).trans hG).rd hr24) rfl
        · intro a1 w1 hG hF
          exact s_old rfl (wantsG hF 31 78 true rfl (by kernel_rfl) rfl) (.tmp 8) (.inr rfl) (.string ⟨(b).toArray⟩) (hF.ol 8 (by kernel_rfl)) rfl
        · intro a1 w1 hG hF
          obtain ⟨_, e80, rfl⟩ := hF.dp 33 80 (by kernel_rfl)
          obtain ⟨_, e81, rfl⟩ := hF.dp 34 81 (by kernel_rfl)
          exact s_is rfl (wantsG hF 31 78 true rfl (by kernel_rfl) rfl) _ rfl (by simp only [execOp, e80, e81]; go_simp)
        · intro a1 w1 hG hF
          obtain ⟨_, e78, rfl⟩ := hF.dp 31 78 (by kernel_rfl)
          obtain ⟨_, e82, rfl⟩ := hF.dp 35 82 (by kernel_rfl)
          exact s_pick rfl (wants0 rfl) (.tmp 78) (.tmp 82) _ rfl e78 _ e82 rfl
        · intro a1 w1 hG hF
          exact s_same rfl (wants0 rfl) (.tmp 83) (.inl rfl) (hF.dp 36 83 (by kernel_rfl))
      · intro vs w1 hG hf
        have z6 : vs 37 = .bool true := hf.2.2.2.2.2.2.2.2.2.2.2.2.2.2.2.2.2.2.2.2.2.2.2.2.2.2.2.2.2.2.2.2.2.2.2.2.2.1
        clear hf
        simp only [putAll, Nat.zero_add, Nat.reduceAdd, z6]
        go_simp
        go_wp2_with fail
        go_ret
        exact ⟨rfl, hB6.trans (((Gr.drew w4).trans hG).mono hB6.size)⟩
end Go.Proofs.Ythffodfnnjejnaa

