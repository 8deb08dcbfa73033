/- The walk of the law HkdfBegins. No condition. -/
import Derived.Test.YtmmjjjdocanmfaaDoorExpands
import Derived.Test.YtmmjjjdocanmfaaDoorRem
import Derived.Test.YtmmjjjdocanmfaaDoorMade
namespace Go.Proofs.YtmmjjjdocanmfaaDoor
open Go.RowKit
theorem two_of {zs : List Int} (h : zs.length = 2) : ∃ a b, zs = [a, b] := by
  match zs, h with
  | [a, b], _ => exact ⟨a, b, rfl⟩
theorem cut_at (n : Nat) (N : Nat) : ∃ k : Nat, min (n : Int) (N : Int) = (k : Int) ∧ k ≤ n ∧ k ≤ N := ⟨min n N, by omega, by omega, by omega⟩
set_option maxRecDepth 100000 in
set_option maxHeartbeats 8000000 in
theorem law_hbegins (A : Option Addr) (n c : Nat) (K0 : List UInt8) (B : Option Addr) (m d : Nat) (l0 : List UInt8) (za zb : Int) (w : World) (hnc : n ≤ c) (hr0 : Rd w A n (u8s K0)) (hA0 : A = none → n = 0 ∧ c = 0)
    (hmd : m ≤ d) (hb0 : Rd w B m (u8s l0)) (gw : Glob w) :
    Calls Tryd.prog 3 #[.slice A n c, .slice B m d, .agg #[.int .i64 za, .int .i64 zb]] w fun e w' => e = .returned (.bool true) ∧ Below w.heap.size w w' := by
  obtain ⟨k, hki, hkn, hk2⟩ := cut_at n 100
  obtain ⟨j, hji, hjm, hj2⟩ := cut_at m 100
  have hrk : Rd w A k (u8s (K0.take k)) := by rw [← u8s_take]; exact hr0.take hkn
  have hrj : Rd w B j (u8s (l0.take j)) := by rw [← u8s_take]; exact hb0.take hjm
  obtain ⟨K, hK⟩ : ∃ K, K = K0.take k := ⟨_, rfl⟩
  obtain ⟨l, hl⟩ : ∃ l, l = l0.take j := ⟨_, rfl⟩
  rw [← hK] at hrk
  rw [← hl] at hrj
  have hAk : A = none → k = 0 ∧ c = 0 := fun h => ⟨by have := (hA0 h).1; omega, (hA0 h).2⟩
  have HC1 := Lib.hid fun w1 => run_cut_h (P := Tryd.prog) Tryd.underlying22 (by kernel_rfl) (A := A) (n := n) (c := c) (hi := k) (h := (k : Int)) rfl (by omega) w1
  have HC2 := Lib.hid fun w1 => run_cut_h (P := Tryd.prog) Tryd.underlying22 (by kernel_rfl) (A := B) (n := m) (c := d) (hi := j) (h := (j : Int)) rfl (by omega) w1
  have HM1 := Lib.hid hki
  have HM2 := Lib.hid hji
  obtain ⟨a, ha, hae⟩ := wrap_remN za 200 (by omega) (by omega)
  obtain ⟨b, hb, hbe⟩ := wrap_remN zb 200 (by omega) (by omega)
  obtain ⟨t, ht⟩ : ∃ t : Nat, t = a + b := ⟨_, rfl⟩
  have HAE : Hid (wrap64 ((IntKind.u64.wrap za).tmod 200) = (a : Int)) := hae
  have HBE : Hid (wrap64 ((IntKind.u64.wrap zb).tmod 200) = (b : Int)) := hbe
  have HT : Hid ((a : Int) + (b : Int) = (t : Int)) := by show _ = _; omega
  obtain ⟨X, hX⟩ : ∃ X, X = expandL K l a := ⟨_, rfl⟩
  obtain ⟨Y, hY⟩ : ∃ Y, Y = expandL K l t := ⟨_, rfl⟩
  have hYX : Y.take a = X := by rw [hX, hY]; exact expandL_take K l (by omega)
  have HE1 : Hid (∀ w, Rd w A k (u8s K) → Rd w B j (u8s l) → Glob w → Calls Tryd.prog 6 #[.slice A k c, .slice B j d, .int .i64 (a : Int)] w fun e w' => ∃ A', e = .returned (.tuple #[.slice A' a a, .int .i64 0]) ∧ Rd w' A' a (u8s X) ∧ Below w.heap.size w w') := by
    intro w h1 h2 h3
    rw [hX]
    exact expand_any A k c K B j d l a (by omega) (by omega) (by omega) (by omega) (by omega) w h1 hAk h2 h3
  have HE2 : Hid (∀ w, Rd w A k (u8s K) → Rd w B j (u8s l) → Glob w → Calls Tryd.prog 6 #[.slice A k c, .slice B j d, .int .i64 (t : Int)] w fun e w' => ∃ A', e = .returned (.tuple #[.slice A' t t, .int .i64 0]) ∧ Rd w' A' t (u8s Y) ∧ Below w.heap.size w w') := by
    intro w h1 h2 h3
    rw [hY]
    exact expand_any A k c K B j d l t (by omega) (by omega) (by omega) (by omega) (by omega) w h1 hAk h2 h3
  have HYX := Lib.hid hYX
  have hat : a ≤ t := by omega
  have hcut := fun (A : Option Addr) w1 => run_cut_h (P := Tryd.prog) Tryd.underlying22 (by kernel_rfl) (A := A) (n := t) (c := t) (hi := a) (h := (a : Int)) rfl hat w1
  have HCUT := Lib.hid hcut
  have h5 : Arr (w.alloc (.cells #[.int .i64 za, .int .i64 zb] 23)) w.heap.size 23 [.int .i64 za, .int .i64 zb] := Arr.newAt rfl rfl
  have G0 : Gr w (w.alloc (.cells #[.int .i64 za, .int .i64 zb] 23)) := Gr.alloc _ _
  have ht400 : t ≤ 400 := by omega
  have ha200 : a ≤ 400 := by omega
  clear hcut hX hY hYX ht hae hbe hK hl hki hji hr0 hb0 hA0
  go_enter Tryd.func3, Tryd.ntmps3
  go_upto_region 1 with fail
  generalize w.alloc (.cells #[.int .i64 za, .int .i64 zb] 23) = w0 at h5 G0 ⊢
  have hrk0 := G0.rd hrk
  have hrj0 := G0.rd hrj
  have gw0 := gw.gr G0
  obtain ⟨g5, hg5⟩ : ∃ g, g = w.heap.size := ⟨_, rfl⟩
  rw [← hg5] at h5
  simp only [← hg5]
  have HG5 := Lib.hid hg5
  clear hg5
  refine wp_region_ssaL (by kernel_rfl) [IsV (.slice A n c), IsV (.slice A n c), IsV (.int .i64 ((n : Nat) : Int)), IsV (.int .i64 ((k : Nat) : Int)), IsV (.slice A k c), IsV (.slice B m d), IsV (.slice B m d), IsV (.int .i64 ((m : Nat) : Int)), IsV (.int .i64 ((j : Nat) : Int)), IsV (.slice B j d), IsV (.slice A k c), IsV (.slice B j d)] (by kernel_rfl) ?_ ?_ ?_
  · intro φ hφ v w1 w2 h hg
    simp only [List.mem_cons, List.not_mem_nil, or_false] at hφ
    rcases hφ with rfl | rfl | rfl | rfl | rfl | rfl | rfl | rfl | rfl | rfl | rfl | rfl
    all_goals first | exact h | exact RdV.gr h hg
  · refine ⟨?_, ?_, ?_, ?_, ?_, ?_, ?_, ?_, ?_, ?_, ?_, ?_, trivial⟩
    · intro a1 w1 hG hF
      exact s_old rfl (wants0 rfl) (.tmp 0) (.inr rfl) (.slice A n c) (hF.ol 0 (by kernel_rfl)) rfl
    · intro a1 w1 hG hF
      exact s_old rfl (wants0 rfl) (.tmp 0) (.inr rfl) (.slice A n c) (hF.ol 0 (by kernel_rfl)) rfl
    · intro a1 w1 hG hF
      obtain ⟨_, e14, rfl⟩ := hF.dp 1 14 (by kernel_rfl)
      exact s_is rfl (wants0 rfl) _ rfl (run_len_slice Tryd.underlying22 e14)
    · intro a1 w1 hG hF
      obtain ⟨_, e15, rfl⟩ := hF.dp 2 15 (by kernel_rfl)
      exact s_is rfl (wants0 rfl) _ rfl (run_min_ e15 rfl HM1.out)
    · intro a1 w1 hG hF
      obtain ⟨_, e13, rfl⟩ := hF.dp 0 13 (by kernel_rfl)
      obtain ⟨_, e16, rfl⟩ := hF.dp 3 16 (by kernel_rfl)
      exact s_is rfl (wants0 rfl) _ rfl (by simp only [execOp, e13, e16, Option.map, Sem.run_bind, HC1.out, Result.andThen_ok, Sem.run_pure])
    · intro a1 w1 hG hF
      exact s_old rfl (wants0 rfl) (.tmp 1) (.inr rfl) (.slice B m d) (hF.ol 1 (by kernel_rfl)) rfl
    · intro a1 w1 hG hF
      exact s_old rfl (wants0 rfl) (.tmp 1) (.inr rfl) (.slice B m d) (hF.ol 1 (by kernel_rfl)) rfl
    · intro a1 w1 hG hF
      obtain ⟨_, e19, rfl⟩ := hF.dp 6 19 (by kernel_rfl)
      exact s_is rfl (wants0 rfl) _ rfl (run_len_slice Tryd.underlying22 e19)
    · intro a1 w1 hG hF
      obtain ⟨_, e20, rfl⟩ := hF.dp 7 20 (by kernel_rfl)
      exact s_is rfl (wants0 rfl) _ rfl (run_min_ e20 rfl HM2.out)
    · intro a1 w1 hG hF
      obtain ⟨_, e18, rfl⟩ := hF.dp 5 18 (by kernel_rfl)
      obtain ⟨_, e21, rfl⟩ := hF.dp 8 21 (by kernel_rfl)
      exact s_is rfl (wants0 rfl) _ rfl (by simp only [execOp, e18, e21, Option.map, Sem.run_bind, HC2.out, Result.andThen_ok, Sem.run_pure])
    · intro a1 w1 hG hF
      exact s_same rfl (wants0 rfl) (.tmp 17) (.inl rfl) (hF.dp 4 17 (by kernel_rfl))
    · intro a1 w1 hG hF
      exact s_same rfl (wants0 rfl) (.tmp 22) (.inl rfl) (hF.dp 9 22 (by kernel_rfl))
  · intro vs w1 hG hf
    have z0 : vs 10 = .slice A k c := hf.2.2.2.2.2.2.2.2.2.2.1
    have z1 : vs 11 = .slice B j d := hf.2.2.2.2.2.2.2.2.2.2.2.1
    clear hf
    simp only [putAll, Nat.zero_add, Nat.reduceAdd, z0, z1]
    have hG1 := (Gr.drew w0).trans hG
    have hr1 := hG1.rd hrk0
    have hb1 := hG1.rd hrj0
    have gw1 := gw0.gr hG1
    have h51 := h5.gr hG1
    have hB1 : Below w.heap.size w w1 := Below.trans G0 (Below.mono hG1 G0.size)
    have c0 := h51.cell (i := 0) (v := .int .i64 za) rfl
    have c1 := h51.cell (i := 1) (v := .int .i64 zb) rfl
    clear hG1 hG h5 G0 hrk0 hrj0 hrk hrj gw0 gw h51
    go_simp
    go_upto_region 3 with fail
    simp only [HAE.out]
    go_upto_region 4 with fail
    simp only [HBE.out]
    have hsum : wrap64 ((a : Int) + (b : Int)) = (t : Int) := by rw [HT.out]; exact IntWalk.wrap64_in _ (by omega)
    simp only [hsum]
    clear hsum c0 c1
    go_wp2_with fail
    refine (HE1.out w1 hr1 hb1 gw1).mono ?_
    rintro e w2 ⟨A9, rfl, hr92, hB2⟩
    have hr2 := hr1.below hB2
    have hb2 := hb1.below hB2
    have gw2 := gw1.gr hB2
    have hB3 := hB1.trans (hB2.mono hB1.size)
    clear hr1 hb1 gw1 hB1 hB2 HE1
    go_wp2_with fail
    refine (HE2.out w2 hr2 hb2 gw2).mono ?_
    rintro e w3 ⟨A11, rfl, hr11, hB4⟩
    have hr9 : Rd w3 A9 a (u8s X) := hr92.below hB4
    have gw3 := gw2.gr hB4
    have hB5 := hB3.trans (hB4.mono hB3.size)
    have hr11a : Rd w3 A11 a (u8s X) := by rw [← HYX.out, ← u8s_take]; exact hr11.take hat
    clear hr2 hb2 gw2 hB3 hB4 HE2 hr92
    go_wp2_with fail
    refine wp_region_ssaL (by kernel_rfl) [IsV (.bool true), IsV (.bool true), IsV (.int .i64 ((0 : Nat) : Int)), IsV (.bool true), IsV (.bool true), IsV (.bool true), IsV (.int .i64 ((0 : Nat) : Int)), IsV (.bool true), IsV (.bool true), IsV (.bool true), IsV (.slice A9 a a), IsV (.int .i64 ((a : Nat) : Int)), IsV (.int .i64 ((a : Nat) : Int)), IsV (.bool true), IsV (.bool true), IsV (.bool true), IsV (.slice A11 t t), IsV (.int .i64 ((t : Nat) : Int)), IsV (.int .i64 ((t : Nat) : Int)), IsV (.bool true), IsV (.bool true), IsV (.bool true), IsV (.slice A11 t t), IsV (.int .i64 ((a : Nat) : Int)), IsV (.slice A11 a t), IsV (.string ⟨(X).toArray⟩), IsV (.slice A9 a a), IsV (.string ⟨(X).toArray⟩), IsV (.bool true), IsV (.bool true), IsV (.bool true)] (by kernel_rfl) ?_ ?_ ?_
    · intro φ hφ v w1 w2 h hg
      simp only [List.mem_cons, List.not_mem_nil, or_false] at hφ
      rcases hφ with rfl | rfl | rfl | rfl | rfl | rfl | rfl | rfl | rfl | rfl | rfl | rfl | rfl | rfl | rfl | rfl | rfl | rfl | rfl | rfl | rfl | rfl | rfl | rfl | rfl | rfl | rfl | rfl | rfl | rfl | rfl
      all_goals first | exact h | exact RdV.gr h hg
    · refine ⟨?_, ?_, ?_, ?_, ?_, ?_, ?_, ?_, ?_, ?_, ?_, ?_, ?_, ?_, ?_, ?_, ?_, ?_, ?_, ?_, ?_, ?_, ?_, ?_, ?_, ?_, ?_, ?_, ?_, ?_, ?_, trivial⟩
      · intro a1 w1 hG hF
        exact s_call rfl (wants0 rfl) _ rfl _ _ (by simp only [execOp, resolve, invoke, List.map_toArray, List.map_nil]; go_simp) ((expands_any w1 (gw3.gr ((Gr.drew w3).trans hG))).mono fun e w2 ⟨he, hb⟩ => ⟨_, he, rfl, hb⟩)
      · intro a1 w1 hG hF
        exact s_same rfl (wants0 rfl) (.tmp 49) (.inr rfl) (hF.dp 0 49 (by kernel_rfl))
      · intro a1 w1 hG hF
        exact s_old rfl (wantsG hF 1 50 true rfl (by kernel_rfl) rfl) (.tmp 10) (.inr rfl) (.int .i64 ((0 : Nat) : Int)) (hF.ol 10 (by kernel_rfl)) rfl
      · intro a1 w1 hG hF
        obtain ⟨_, e51, rfl⟩ := hF.dp 2 51 (by kernel_rfl)
        exact s_is rfl (wantsG hF 1 50 true rfl (by kernel_rfl) rfl) _ rfl (by simp only [execOp, e51]; go_simp)
      · intro a1 w1 hG hF
        obtain ⟨_, e50, rfl⟩ := hF.dp 1 50 (by kernel_rfl)
        obtain ⟨_, e52, rfl⟩ := hF.dp 3 52 (by kernel_rfl)
        exact s_pick rfl (wants0 rfl) (.tmp 50) (.tmp 52) _ rfl e50 _ e52 rfl
      · intro a1 w1 hG hF
        exact s_same rfl (wants0 rfl) (.tmp 53) (.inr rfl) (hF.dp 4 53 (by kernel_rfl))
      · intro a1 w1 hG hF
        exact s_old rfl (wantsG hF 5 54 true rfl (by kernel_rfl) rfl) (.tmp 12) (.inr rfl) (.int .i64 ((0 : Nat) : Int)) (hF.ol 12 (by kernel_rfl)) rfl
      · intro a1 w1 hG hF
        obtain ⟨_, e55, rfl⟩ := hF.dp 6 55 (by kernel_rfl)
        exact s_is rfl (wantsG hF 5 54 true rfl (by kernel_rfl) rfl) _ rfl (by simp only [execOp, e55]; go_simp)
      · intro a1 w1 hG hF
        obtain ⟨_, e54, rfl⟩ := hF.dp 5 54 (by kernel_rfl)
        obtain ⟨_, e56, rfl⟩ := hF.dp 7 56 (by kernel_rfl)
        exact s_pick rfl (wants0 rfl) (.tmp 54) (.tmp 56) _ rfl e54 _ e56 rfl
      · intro a1 w1 hG hF
        exact s_same rfl (wants0 rfl) (.tmp 57) (.inr rfl) (hF.dp 8 57 (by kernel_rfl))
      · intro a1 w1 hG hF
        exact s_old rfl (wantsG hF 9 58 true rfl (by kernel_rfl) rfl) (.tmp 9) (.inr rfl) (.slice A9 a a) (hF.ol 9 (by kernel_rfl)) rfl
      · intro a1 w1 hG hF
        obtain ⟨_, e59, rfl⟩ := hF.dp 10 59 (by kernel_rfl)
        exact s_is rfl (wantsG hF 9 58 true rfl (by kernel_rfl) rfl) _ rfl (run_len_slice Tryd.underlying22 e59)
      · intro a1 w1 hG hF
        exact s_old rfl (wantsG hF 9 58 true rfl (by kernel_rfl) rfl) (.tmp 7) (.inr rfl) (.int .i64 ((a : Nat) : Int)) (hF.ol 7 (by kernel_rfl)) rfl
      · intro a1 w1 hG hF
        obtain ⟨_, e60, rfl⟩ := hF.dp 11 60 (by kernel_rfl)
        obtain ⟨_, e61, rfl⟩ := hF.dp 12 61 (by kernel_rfl)
        exact s_is rfl (wantsG hF 9 58 true rfl (by kernel_rfl) rfl) _ rfl (by simp only [execOp, e60, e61]; go_simp)
      · intro a1 w1 hG hF
        obtain ⟨_, e58, rfl⟩ := hF.dp 9 58 (by kernel_rfl)
        obtain ⟨_, e62, rfl⟩ := hF.dp 13 62 (by kernel_rfl)
        exact s_pick rfl (wants0 rfl) (.tmp 58) (.tmp 62) _ rfl e58 _ e62 rfl
      · intro a1 w1 hG hF
        exact s_same rfl (wants0 rfl) (.tmp 63) (.inr rfl) (hF.dp 14 63 (by kernel_rfl))
      · intro a1 w1 hG hF
        exact s_old rfl (wantsG hF 15 64 true rfl (by kernel_rfl) rfl) (.tmp 11) (.inr rfl) (.slice A11 t t) (hF.ol 11 (by kernel_rfl)) rfl
      · intro a1 w1 hG hF
        obtain ⟨_, e65, rfl⟩ := hF.dp 16 65 (by kernel_rfl)
        exact s_is rfl (wantsG hF 15 64 true rfl (by kernel_rfl) rfl) _ rfl (run_len_slice Tryd.underlying22 e65)
      · intro a1 w1 hG hF
        exact s_old rfl (wantsG hF 15 64 true rfl (by kernel_rfl) rfl) (.tmp 8) (.inr rfl) (.int .i64 ((t : Nat) : Int)) (hF.ol 8 (by kernel_rfl)) rfl
      · intro a1 w1 hG hF
        obtain ⟨_, e66, rfl⟩ := hF.dp 17 66 (by kernel_rfl)
        obtain ⟨_, e67, rfl⟩ := hF.dp 18 67 (by kernel_rfl)
        exact s_is rfl (wantsG hF 15 64 true rfl (by kernel_rfl) rfl) _ rfl (by simp only [execOp, e66, e67]; go_simp)
      · intro a1 w1 hG hF
        obtain ⟨_, e64, rfl⟩ := hF.dp 15 64 (by kernel_rfl)
        obtain ⟨_, e68, rfl⟩ := hF.dp 19 68 (by kernel_rfl)
        exact s_pick rfl (wants0 rfl) (.tmp 64) (.tmp 68) _ rfl e64 _ e68 rfl
      · intro a1 w1 hG hF
        exact s_same rfl (wants0 rfl) (.tmp 69) (.inr rfl) (hF.dp 20 69 (by kernel_rfl))
      · intro a1 w1 hG hF
        exact s_old rfl (wantsG hF 21 70 true rfl (by kernel_rfl) rfl) (.tmp 11) (.inr rfl) (.slice A11 t t) (hF.ol 11 (by kernel_rfl)) rfl
      · intro a1 w1 hG hF
        exact s_old rfl (wantsG hF 21 70 true rfl (by kernel_rfl) rfl) (.tmp 7) (.inr rfl) (.int .i64 ((a : Nat) : Int)) (hF.ol 7 (by kernel_rfl)) rfl
      · intro a1 w1 hG hF
        obtain ⟨_, e71, rfl⟩ := hF.dp 22 71 (by kernel_rfl)
        obtain ⟨_, e72, rfl⟩ := hF.dp 23 72 (by kernel_rfl)
        exact s_is rfl (wantsG hF 21 70 true rfl (by kernel_rfl) rfl) _ rfl (by simp only [execOp, e71, e72, Option.map, Sem.run_bind, HCUT.out, Result.andThen_ok, Sem.run_pure])
      · intro a1 w1 hG hF
        obtain ⟨_, e73, rfl⟩ := hF.dp 24 73 (by kernel_rfl)
        exact s_str rfl (wantsG hF 21 70 true rfl (by kernel_rfl) rfl) 22 9 5 (.tmp 73) rfl Tryd.underlying22 Tryd.underlying5 Tryd.underlying9 _ _ _ (X) e73 (((Gr.drew w3).trans hG).rd hr11a) rfl
      · intro a1 w1 hG hF
        exact s_old rfl (wantsG hF 21 70 true rfl (by kernel_rfl) rfl) (.tmp 9) (.inr rfl) (.slice A9 a a) (hF.ol 9 (by kernel_rfl)) rfl
      · intro a1 w1 hG hF
        obtain ⟨_, e75, rfl⟩ := hF.dp 26 75 (by kernel_rfl)
        exact s_str rfl (wantsG hF 21 70 true rfl (by kernel_rfl) rfl) 22 9 5 (.tmp 75) rfl Tryd.underlying22 Tryd.underlying5 Tryd.underlying9 _ _ _ (X) e75 (((Gr.drew w3).trans hG).rd hr9) rfl
      · intro a1 w1 hG hF
        obtain ⟨_, e74, rfl⟩ := hF.dp 25 74 (by kernel_rfl)
        obtain ⟨_, e76, rfl⟩ := hF.dp 27 76 (by kernel_rfl)
        exact s_is rfl (wantsG hF 21 70 true rfl (by kernel_rfl) rfl) _ rfl (by simp only [execOp, e74, e76]; go_simp)
      · intro a1 w1 hG hF
        obtain ⟨_, e70, rfl⟩ := hF.dp 21 70 (by kernel_rfl)
        obtain ⟨_, e77, rfl⟩ := hF.dp 28 77 (by kernel_rfl)
        exact s_pick rfl (wants0 rfl) (.tmp 70) (.tmp 77) _ rfl e70 _ e77 rfl
      · intro a1 w1 hG hF
        exact s_same rfl (wants0 rfl) (.tmp 78) (.inl rfl) (hF.dp 29 78 (by kernel_rfl))
    · intro vs w1 hG hf
      have z6 : vs 30 = .bool true := hf.2.2.2.2.2.2.2.2.2.2.2.2.2.2.2.2.2.2.2.2.2.2.2.2.2.2.2.2.2.2.1
      clear hf
      simp only [putAll, Nat.zero_add, Nat.reduceAdd, z6]
      go_simp
      go_wp2_with fail
      go_ret
      exact ⟨rfl, hB5.trans (((Gr.drew w3).trans hG).mono hB5.size)⟩
end Go.Proofs.YtmmjjjdocanmfaaDoor

