/- The walk of the law HmacParts. No condition. -/
import Derived.Test.YtbpgodkdbbiadaaDoorHKeys
namespace Go.Proofs.YtbpgodkdbbiadaaDoor
open Go.RowKit
set_option maxRecDepth 100000 in
set_option maxHeartbeats 8000000 in
theorem law_hparts (A : Option Addr) (n c : Nat) (K0 : List UInt8) (B : Option Addr) (m d : Nat) (l0 : List UInt8) (z : Int) (w : World) (hnc : n ≤ c) (hr0 : Rd w A n (u8s K0)) (hA0 : A = none → n = 0 ∧ c = 0)
    (hmd : m ≤ d) (hb0 : Rd w B m (u8s l0)) (gw : Glob w) :
    Calls Tryd.prog 5 #[.slice A n c, .slice B m d, .int .i64 z] w fun e w' => e = .returned (.bool true) ∧ Below w.heap.size w w' := by
  obtain ⟨k, hki, hkn, hk2⟩ := cut_at n 100
  obtain ⟨j, hji, hjm, hj2⟩ := cut_at m 200
  have hrk : Rd w A k (u8s (K0.take k)) := by rw [← u8s_take]; exact hr0.take hkn
  have hrj : Rd w B j (u8s (l0.take j)) := by rw [← u8s_take]; exact hb0.take hjm
  obtain ⟨K, hK⟩ : ∃ K, K = K0.take k := ⟨_, rfl⟩
  obtain ⟨l, hl⟩ : ∃ l, l = l0.take j := ⟨_, rfl⟩
  rw [← hK] at hrk
  rw [← hl] at hrj
  have hAk : A = none → k = 0 ∧ c = 0 := fun h => ⟨by have := (hA0 h).1; omega, (hA0 h).2⟩
  have HC1 := Lib.hid fun w1 => run_cut_h (P := Tryd.prog) Tryd.underlying22 (by kernel_rfl) (A := A) (n := n) (c := c) (hi := k) (h := (k : Int)) rfl (by omega) w1
  have HC2 := Lib.hid fun w1 => run_cut_h (P := Tryd.prog) Tryd.underlying22 (by kernel_rfl) (A := B) (n := m) (c := d) (hi := j) (h := (j : Int)) rfl (by omega) w1
  have HM1 := Lib.hid hki
  have HM2 := Lib.hid hji
  obtain ⟨D, hD⟩ : ∃ D, D = hmacL K l := ⟨_, rfl⟩
  have hDl : D.length = 32 := by rw [hD]; simp
  have hll : l.length = j := by simpa using hrj.1
  have HS : Hid (∀ w B1 n1 ps, n1 ≤ 3 → Rd w A k (u8s K) → Parts w B1 n1 ps → allP ps = l → Glob w → Calls Tryd.prog 8 #[.slice A k c, .slice B1 n1 n1] w fun e w' => e = .returned (.agg (u8s D).toArray) ∧ Below w.heap.size w w') := by
    intro w B1 n1 ps h1 h4 h5 h6 h8
    rw [hD]
    exact hmacSum_any A k c K B1 n1 n1 ps l (by omega) (by omega) (by omega) h6 (by omega) w h4 hAk h5 h8
  clear hD hK hl hr0 hb0 hki hji hA0
  go_enter Tryd.func5, Tryd.ntmps5
  go_wp2_with fail
  refine wp_region_ssaL (by kernel_rfl) [IsV (.slice A n c), IsV (.slice A n c), IsV (.int .i64 ((n : Nat) : Int)), IsV (.int .i64 ((k : Nat) : Int)), IsV (.slice A k c), IsV (.slice B m d), IsV (.slice B m d), IsV (.int .i64 ((m : Nat) : Int)), IsV (.int .i64 ((j : Nat) : Int)), IsV (.slice B j d), IsV (.slice A k c), IsV (.slice B j d)] (by kernel_rfl) ?_ ?_ ?_
  · intro φ hφ v w1 w2 h hg
    simp only [List.mem_cons, List.not_mem_nil, or_false] at hφ
    rcases hφ with rfl | rfl | rfl | rfl | rfl | rfl | rfl | rfl | rfl | rfl | rfl | rfl
    all_goals first | exact h | exact RdV.gr h hg
  · refine ⟨?_, ?_, ?_, ?_, ?_, ?_, ?_, ?_, ?_, ?_, ?_, ?_, trivial⟩
    · intro a1 w1 hG hF
      exact s_old rfl (wants0 rfl) (.tmp 0) (.inr rfl) (.slice A n c) (hF.ol 0 (by kernel_rfl)) rfl
    · intro a1 w1 hG hF
      exact s_old rfl (wants0 rfl) (.tmp 0) (.inr rfl) (.slice A n c) (hF.ol 0 (by kernel_rfl)) rfl
    · intro a1 w1 hG hF
      obtain ⟨_, e9, rfl⟩ := hF.dp 1 9 (by kernel_rfl)
      exact s_is rfl (wants0 rfl) _ rfl (run_len_slice Tryd.underlying22 e9)
    · intro a1 w1 hG hF
      obtain ⟨_, e10, rfl⟩ := hF.dp 2 10 (by kernel_rfl)
      exact s_is rfl (wants0 rfl) _ rfl (run_min_ e10 rfl HM1.out)
    · intro a1 w1 hG hF
      obtain ⟨_, e8, rfl⟩ := hF.dp 0 8 (by kernel_rfl)
      obtain ⟨_, e11, rfl⟩ := hF.dp 3 11 (by kernel_rfl)
      exact s_is rfl (wants0 rfl) _ rfl (by simp only [execOp, e8, e11, Option.map, Sem.run_bind, HC1.out, Result.andThen_ok, Sem.run_pure])
    · intro a1 w1 hG hF
      exact s_old rfl (wants0 rfl) (.tmp 1) (.inr rfl) (.slice B m d) (hF.ol 1 (by kernel_rfl)) rfl
    · intro a1 w1 hG hF
      exact s_old rfl (wants0 rfl) (.tmp 1) (.inr rfl) (.slice B m d) (hF.ol 1 (by kernel_rfl)) rfl
    · intro a1 w1 hG hF
      obtain ⟨_, e14, rfl⟩ := hF.dp 6 14 (by kernel_rfl)
      exact s_is rfl (wants0 rfl) _ rfl (run_len_slice Tryd.underlying22 e14)
    · intro a1 w1 hG hF
      obtain ⟨_, e15, rfl⟩ := hF.dp 7 15 (by kernel_rfl)
      exact s_is rfl (wants0 rfl) _ rfl (run_min_ e15 rfl HM2.out)
    · intro a1 w1 hG hF
      obtain ⟨_, e13, rfl⟩ := hF.dp 5 13 (by kernel_rfl)
      obtain ⟨_, e16, rfl⟩ := hF.dp 8 16 (by kernel_rfl)
      exact s_is rfl (wants0 rfl) _ rfl (by simp only [execOp, e13, e16, Option.map, Sem.run_bind, HC2.out, Result.andThen_ok, Sem.run_pure])
    · intro a1 w1 hG hF
      exact s_same rfl (wants0 rfl) (.tmp 12) (.inl rfl) (hF.dp 4 12 (by kernel_rfl))
    · intro a1 w1 hG hF
      exact s_same rfl (wants0 rfl) (.tmp 17) (.inl rfl) (hF.dp 9 17 (by kernel_rfl))
  · intro vs w1 hG hf
    have z0 : vs 10 = .slice A k c := hf.2.2.2.2.2.2.2.2.2.2.1
    have z1 : vs 11 = .slice B j d := hf.2.2.2.2.2.2.2.2.2.2.2.1
    clear hf
    simp only [putAll, Nat.zero_add, Nat.reduceAdd, z0, z1]
    have hG1 := (Gr.drew w).trans hG
    have hr1 := hG1.rd hrk
    have hb1 := hG1.rd hrj
    have gw1 := gw.gr hG1
    have hB1 : Below w.heap.size w w1 := hG1
    clear hG hrk hrj gw hG1
    obtain ⟨q, hq, hqe⟩ := wrap_remN z (j + 1) (by omega) (by omega)
    rw [show ((j + 1 : Nat) : Int) = (j : Int) + 1 by omega] at hqe
    have HC3 := Lib.hid fun w1 => run_cut_h (P := Tryd.prog) Tryd.underlying22 (by kernel_rfl) (A := B) (n := j) (c := d) (hi := q) (h := (q : Int)) rfl (by omega) w1
    have HC4 := Lib.hid fun w1 => run_cut_l (P := Tryd.prog) Tryd.underlying22 (by kernel_rfl) (A := B) (n := j) (c := d) (lo := q) (l := (q : Int)) rfl (by omega) w1
    have hrp : Rd w1 B q (u8s (l.take q)) := by rw [← u8s_take]; exact hb1.take (by omega)
    have hrq : Rd w1 (cutA B d q) (j - q) (u8s (l.drop q)) := by rw [← u8s_drop]; exact hb1.cutL (by omega) (by omega)
    go_simp
    go_upto_region 3 with fail
    simp only [hqe]
    clear hqe
    obtain ⟨w2, hw2⟩ : ∃ w2, w2 = w1 := ⟨_, rfl⟩
    rw [← hw2] at hr1 hb1 gw1 hB1 hrp hrq ⊢
    clear hw2
    refine wp_region_ssaL (by kernel_rfl) [IsV (.bool true), IsV (.bool true), IsV (.slice A k c), IsV (.slice B j d), IsV (.int .i64 ((q : Nat) : Int)), IsV (.slice B q d), IsV (.slice B j d), IsV (.int .i64 ((q : Nat) : Int)), IsV (.slice (cutA B d q) (j - q) (d - q)), PartsV 3 3 l, IsV (.agg (u8s D).toArray), IsV (.slice A k c), IsV (.slice B j d), PartsV 1 1 l, IsV (.agg (u8s D).toArray), IsV (.bool true), IsV (.bool true), IsV (.bool true)] (by kernel_rfl) ?_ ?_ ?_
    · intro φ hφ v w1 w2 h hg
      simp only [List.mem_cons, List.not_mem_nil, or_false] at hφ
      rcases hφ with rfl | rfl | rfl | rfl | rfl | rfl | rfl | rfl | rfl | rfl | rfl | rfl | rfl | rfl | rfl | rfl | rfl | rfl
      all_goals first | exact h | exact RdV.gr h hg | exact PartsV.gr h hg
    · refine ⟨?_, ?_, ?_, ?_, ?_, ?_, ?_, ?_, ?_, ?_, ?_, ?_, ?_, ?_, ?_, ?_, ?_, ?_, trivial⟩
      · intro a1 w1 hG hF
        exact s_call rfl (wants0 rfl) _ rfl _ _ (by simp only [execOp, resolve, invoke, List.map_toArray, List.map_nil]; go_simp) ((keyed_any w1 (gw1.gr ((Gr.drew w2).trans hG))).mono fun e w2 ⟨he, hb⟩ => ⟨_, he, rfl, hb⟩)
      · intro a1 w1 hG hF
        exact s_same rfl (wants0 rfl) (.tmp 26) (.inr rfl) (hF.dp 0 26 (by kernel_rfl))
      · intro a1 w1 hG hF
        exact s_old rfl (wantsG hF 1 27 true rfl (by kernel_rfl) rfl) (.tmp 0) (.inr rfl) (.slice A k c) (hF.ol 0 (by kernel_rfl)) rfl
      · intro a1 w1 hG hF
        exact s_old rfl (wantsG hF 1 27 true rfl (by kernel_rfl) rfl) (.tmp 1) (.inr rfl) (.slice B j d) (hF.ol 1 (by kernel_rfl)) rfl
      · intro a1 w1 hG hF
        exact s_old rfl (wantsG hF 1 27 true rfl (by kernel_rfl) rfl) (.tmp 7) (.inr rfl) (.int .i64 ((q : Nat) : Int)) (hF.ol 7 (by kernel_rfl)) rfl
      · intro a1 w1 hG hF
        obtain ⟨_, e29, rfl⟩ := hF.dp 3 29 (by kernel_rfl)
        obtain ⟨_, e30, rfl⟩ := hF.dp 4 30 (by kernel_rfl)
        exact s_is rfl (wantsG hF 1 27 true rfl (by kernel_rfl) rfl) _ rfl (by simp only [execOp, e29, e30, Option.map, Sem.run_bind, HC3.out, Result.andThen_ok, Sem.run_pure])
      · intro a1 w1 hG hF
        exact s_old rfl (wantsG hF 1 27 true rfl (by kernel_rfl) rfl) (.tmp 1) (.inr rfl) (.slice B j d) (hF.ol 1 (by kernel_rfl)) rfl
      · intro a1 w1 hG hF
        exact s_old rfl (wantsG hF 1 27 true rfl (by kernel_rfl) rfl) (.tmp 7) (.inr rfl) (.int .i64 ((q : Nat) : Int)) (hF.ol 7 (by kernel_rfl)) rfl
      · intro a1 w1 hG hF
        obtain ⟨_, e32, rfl⟩ := hF.dp 6 32 (by kernel_rfl)
        obtain ⟨_, e33, rfl⟩ := hF.dp 7 33 (by kernel_rfl)
        exact s_is rfl (wantsG hF 1 27 true rfl (by kernel_rfl) rfl) _ rfl (by simp only [execOp, e32, e33, Option.map, Sem.run_bind, HC4.out, Result.andThen_ok, Sem.run_pure])
      · intro a1 w1 hG hF
        obtain ⟨_, e31, rfl⟩ := hF.dp 5 31 (by kernel_rfl)
        obtain ⟨_, e34, rfl⟩ := hF.dp 8 34 (by kernel_rfl)
        exact s_val rfl (wantsG hF 1 27 true rfl (by kernel_rfl) rfl) _ rfl (.slice (some ⟨w1.heap.size, 0, none⟩) 3 3) (w1.alloc (.cells #[.slice B q d, .slice none 0 0, .slice (cutA B d q) (j - q) (d - q)] 22)) (run_build3S e31 rfl e34) ⟨_, [⟨B, q, d, l.take q⟩, ⟨none, 0, 0, []⟩, ⟨cutA B d q, j - q, d - q, l.drop q⟩], rfl, partsN rfl _ _ _ 3 rfl rfl (by
          intro p hp
          simp only [List.mem_cons, List.not_mem_nil, or_false] at hp
          rcases hp with rfl | rfl | rfl
          · exact ⟨((Gr.drew w2).trans hG).rd hrp, by show q ≤ d; omega⟩
          · exact ⟨Rd.nil _ _, Nat.le_refl _⟩
          · exact ⟨((Gr.drew w2).trans hG).rd hrq, by show j - q ≤ d - q; omega⟩), by simp [allP]⟩ (Gr.alloc _ _)
      · intro a1 w1 hG hF
        obtain ⟨_, e28, rfl⟩ := hF.dp 2 28 (by kernel_rfl)
        obtain ⟨x35, e35, f35⟩ := hF.dp 9 35 (by kernel_rfl)
        obtain ⟨A35, p35, rfl, h35, l35⟩ := f35
        exact s_call rfl (wantsG hF 1 27 true rfl (by kernel_rfl) rfl) _ rfl _ _ (by simp only [execOp, resolve, invoke, List.map_toArray, List.map_cons, List.map_nil, e28, e35]; go_simp) ((HS.out w1 A35 3 p35 (by omega) (((Gr.drew w2).trans hG).rd hr1) h35 l35 (gw1.gr ((Gr.drew w2).trans hG))).mono fun e w2 ⟨he, hb⟩ => ⟨_, he, rfl, hb⟩)
      · intro a1 w1 hG hF
        exact s_old rfl (wantsG hF 1 27 true rfl (by kernel_rfl) rfl) (.tmp 0) (.inr rfl) (.slice A k c) (hF.ol 0 (by kernel_rfl)) rfl
      · intro a1 w1 hG hF
        exact s_old rfl (wantsG hF 1 27 true rfl (by kernel_rfl) rfl) (.tmp 1) (.inr rfl) (.slice B j d) (hF.ol 1 (by kernel_rfl)) rfl
      · intro a1 w1 hG hF
        obtain ⟨_, e38, rfl⟩ := hF.dp 12 38 (by kernel_rfl)
        exact s_val rfl (wantsG hF 1 27 true rfl (by kernel_rfl) rfl) _ rfl (.slice (some ⟨w1.heap.size, 0, none⟩) 1 1) (w1.alloc (.cells #[.slice B j d] 22)) (run_build1S e38) ⟨_, [⟨B, j, d, l⟩], rfl, parts1 rfl _ ⟨B, j, d, l⟩ (((Gr.drew w2).trans hG).rd hb1) (by show j ≤ d; omega), by simp [allP]⟩ (Gr.alloc _ _)
      · intro a1 w1 hG hF
        obtain ⟨_, e37, rfl⟩ := hF.dp 11 37 (by kernel_rfl)
        obtain ⟨x39, e39, f39⟩ := hF.dp 13 39 (by kernel_rfl)
        obtain ⟨A39, p39, rfl, h39, l39⟩ := f39
        exact s_call rfl (wantsG hF 1 27 true rfl (by kernel_rfl) rfl) _ rfl _ _ (by simp only [execOp, resolve, invoke, List.map_toArray, List.map_cons, List.map_nil, e37, e39]; go_simp) ((HS.out w1 A39 1 p39 (by omega) (((Gr.drew w2).trans hG).rd hr1) h39 l39 (gw1.gr ((Gr.drew w2).trans hG))).mono fun e w2 ⟨he, hb⟩ => ⟨_, he, rfl, hb⟩)
      · intro a1 w1 hG hF
        obtain ⟨_, e36, rfl⟩ := hF.dp 10 36 (by kernel_rfl)
        obtain ⟨_, e40, rfl⟩ := hF.dp 14 40 (by kernel_rfl)
        exact s_is rfl (wantsG hF 1 27 true rfl (by kernel_rfl) rfl) _ rfl (run_eqA32 hDl e36 e40)
      · intro a1 w1 hG hF
        obtain ⟨_, e27, rfl⟩ := hF.dp 1 27 (by kernel_rfl)
        obtain ⟨_, e41, rfl⟩ := hF.dp 15 41 (by kernel_rfl)
        exact s_pick rfl (wants0 rfl) (.tmp 27) (.tmp 41) _ rfl e27 _ e41 rfl
      · intro a1 w1 hG hF
        exact s_same rfl (wants0 rfl) (.tmp 42) (.inl rfl) (hF.dp 16 42 (by kernel_rfl))
    · intro vs w1 hG hf
      have z6 : vs 17 = .bool true := hf.2.2.2.2.2.2.2.2.2.2.2.2.2.2.2.2.2.1
      clear hf
      simp only [putAll, Nat.zero_add, Nat.reduceAdd, z6]
      go_simp
      go_wp2_with fail
      go_ret
      exact ⟨rfl, hB1.trans (((Gr.drew w2).trans hG).mono hB1.size)⟩
end Go.Proofs.YtbpgodkdbbiadaaDoor

