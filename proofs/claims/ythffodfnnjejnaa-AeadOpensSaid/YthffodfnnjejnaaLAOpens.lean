/- The walk of the law AeadOpens. No condition. -/
import Derived.Test.YthffodfnnjejnaaLASeals
namespace Go.Proofs.Ythffodfnnjejnaa
open Go.RowKit
set_option maxRecDepth 100000 in
set_option maxHeartbeats 8000000 in
theorem law_aopens (K : List UInt8) (hK : K.length = 32) (N : List UInt8) (hN : N.length = 12) (A : Option Addr) (n c : Nat) (W0 : List UInt8) (B : Option Addr) (m d : Nat) (b0 : List UInt8) (w : World) (hnc : n ≤ c) (hmd : m ≤ d) (hr : Rd w A n (u8s W0)) (hb : Rd w B m (u8s b0)) :
    Calls Try.prog 4 #[.agg (u8s K ++ u8s N).toArray, .slice A n c, .slice B m d] w fun e w' => e = .returned (.bool true) ∧ Below w.heap.size w w' := by
  obtain ⟨k, hki, hkn, hk2⟩ := cut_at n 60
  obtain ⟨j, hji, hjm, hj2⟩ := cut_at m 150
  have hrk : Rd w A k (u8s (W0.take k)) := by rw [← u8s_take]; exact hr.take hkn
  have hrj : Rd w B j (u8s (b0.take j)) := by rw [← u8s_take]; exact hb.take hjm
  obtain ⟨W, hW⟩ : ∃ W, W = W0.take k := ⟨_, rfl⟩
  obtain ⟨S, hS⟩ : ∃ b, b = b0.take j := ⟨_, rfl⟩
  rw [← hW] at hrk
  rw [← hS] at hrj
  have hWl : W.length = k := by simpa using hrk.1
  have hSl : S.length = j := by simpa using hrj.1
  have HC1 := Lib.hid fun w1 => run_cut_h (P := Try.prog) Try.underlying26 (by kernel_rfl) (A := A) (n := n) (c := c) (hi := k) (h := (k : Int)) rfl (by omega) w1
  have HC2 := Lib.hid fun w1 => run_cut_h (P := Try.prog) Try.underlying26 (by kernel_rfl) (A := B) (n := m) (c := d) (hi := j) (h := (j : Int)) rfl (by omega) w1
  have HM1 := Lib.hid hki
  have HM2 := Lib.hid hji
  have HO : Hid (∀ w, Rd w A k (u8s W) → Rd w B j (u8s S) → Calls Try.prog 9 #[.agg (u8s K).toArray, .agg (u8s N).toArray, .slice A k c, .slice B j d] w fun e w' => OpenQ K N W S e w' ∧ Below w.heap.size w w') := by
    intro w h1 h2
    exact open_any K hK N hN A k c W B j d S (by omega) (by omega) (by omega) w h1 h2
  have HRQ : Hid (∀ w, Calls Try.prog 12 #[.string ⟨K.toArray⟩, .string ⟨N.toArray⟩, .string ⟨W.toArray⟩, .string ⟨S.toArray⟩] w fun e w' => ROpenQ K N W S e ∧ Below w.heap.size w w') := by
    intro w
    exact rOpen_any K hK N hN W S (by omega) (by omega) w
  have h3 : Arr (w.alloc (.cells (u8s K ++ u8s N).toArray 25)) w.heap.size 25 (u8s K ++ u8s N) := Arr.newAt rfl rfl
  have G0 : Gr w (w.alloc (.cells (u8s K ++ u8s N).toArray 25)) := Gr.alloc _ _
  have iK := info22 K hK
  have iN := info24 N hN
  have hj9 : (j : Int) ≤ 150 := by omega
  have HSL := Lib.hid hSl
  clear hS hW hki hji hSl hWl
  go_enter Try.func4, Try.ntmps4
  go_upto_region 1 with fail
  generalize w.alloc (.cells (u8s K ++ u8s N).toArray 25) = w0 at h3 G0 ⊢
  obtain ⟨g3, hg3⟩ : ∃ g, g = w.heap.size := ⟨_, rfl⟩
  rw [← hg3] at h3
  simp only [← hg3]
  have HG3 := Lib.hid hg3
  clear hg3
  have hrk0 := G0.rd hrk
  have hrj0 := G0.rd hrj
  refine wp_region_ssaL (by kernel_rfl) [IsV (.slice A n c), IsV (.slice A n c), IsV (.int .i64 ((n : Nat) : Int)), IsV (.int .i64 ((k : Nat) : Int)), IsV (.slice A k c), IsV (.slice B m d), IsV (.slice B m d), IsV (.int .i64 ((m : Nat) : Int)), IsV (.int .i64 ((j : Nat) : Int)), IsV (.slice B j d), IsV (.slice A k c), IsV (.slice B j d)] (by kernel_rfl) ?_ ?_ ?_
  · intro φ hφ v w1 w2 h hg
    simp only [List.mem_cons, List.not_mem_nil, or_false] at hφ
    rcases hφ with rfl | rfl | rfl | rfl | rfl | rfl | rfl | rfl | rfl | rfl | rfl | rfl
    all_goals first | exact h | exact RdV.gr h hg
  · refine ⟨?_, ?_, ?_, ?_, ?_, ?_, ?_, ?_, ?_, ?_, ?_, ?_, trivial⟩
    · intro a1 w1 hG hF
      exact s_old rfl (wants0 rfl) (.tmp 1) (.inr rfl) (.slice A n c) (hF.ol 1 (by kernel_rfl)) rfl
    · intro a1 w1 hG hF
      exact s_old rfl (wants0 rfl) (.tmp 1) (.inr rfl) (.slice A n c) (hF.ol 1 (by kernel_rfl)) rfl
    · intro a1 w1 hG hF
      obtain ⟨_, e12, rfl⟩ := hF.dp 1 12 (by kernel_rfl)
      exact s_is rfl (wants0 rfl) _ rfl (run_len_slice Try.underlying26 e12)
    · intro a1 w1 hG hF
      obtain ⟨_, e13, rfl⟩ := hF.dp 2 13 (by kernel_rfl)
      exact s_is rfl (wants0 rfl) _ rfl (run_min_ e13 rfl HM1.out)
    · intro a1 w1 hG hF
      obtain ⟨_, e11, rfl⟩ := hF.dp 0 11 (by kernel_rfl)
      obtain ⟨_, e14, rfl⟩ := hF.dp 3 14 (by kernel_rfl)
      exact s_is rfl (wants0 rfl) _ rfl (by simp only [execOp, e11, e14, Option.map, Sem.run_bind, HC1.out, Result.andThen_ok, Sem.run_pure])
    · intro a1 w1 hG hF
      exact s_old rfl (wants0 rfl) (.tmp 2) (.inr rfl) (.slice B m d) (hF.ol 2 (by kernel_rfl)) rfl
    · intro a1 w1 hG hF
      exact s_old rfl (wants0 rfl) (.tmp 2) (.inr rfl) (.slice B m d) (hF.ol 2 (by kernel_rfl)) rfl
    · intro a1 w1 hG hF
      obtain ⟨_, e17, rfl⟩ := hF.dp 6 17 (by kernel_rfl)
      exact s_is rfl (wants0 rfl) _ rfl (run_len_slice Try.underlying26 e17)
    · intro a1 w1 hG hF
      obtain ⟨_, e18, rfl⟩ := hF.dp 7 18 (by kernel_rfl)
      exact s_is rfl (wants0 rfl) _ rfl (run_min_ e18 rfl HM2.out)
    · intro a1 w1 hG hF
      obtain ⟨_, e16, rfl⟩ := hF.dp 5 16 (by kernel_rfl)
      obtain ⟨_, e19, rfl⟩ := hF.dp 8 19 (by kernel_rfl)
      exact s_is rfl (wants0 rfl) _ rfl (by simp only [execOp, e16, e19, Option.map, Sem.run_bind, HC2.out, Result.andThen_ok, Sem.run_pure])
    · intro a1 w1 hG hF
      exact s_same rfl (wants0 rfl) (.tmp 15) (.inl rfl) (hF.dp 4 15 (by kernel_rfl))
    · intro a1 w1 hG hF
      exact s_same rfl (wants0 rfl) (.tmp 20) (.inl rfl) (hF.dp 9 20 (by kernel_rfl))
  · intro vs w1 hG hf
    have z1 : vs 10 = .slice A k c := hf.2.2.2.2.2.2.2.2.2.2.1
    have z2 : vs 11 = .slice B j d := hf.2.2.2.2.2.2.2.2.2.2.2.1
    clear hf
    simp only [putAll, Nat.zero_add, Nat.reduceAdd, z1, z2]
    have hG1 := (Gr.drew w0).trans hG
    have hr1 := hG1.rd hrk0
    have hb1 := hG1.rd hrj0
    have h31 := h3.gr hG1
    have hB1 : Below w.heap.size w w1 := Below.trans G0 (Below.mono hG1 G0.size)
    have hrgK := h31.rangeL
    have hrgN := h31.rangeR hK
    clear hG1 hG h3 G0 hrk0 hrj0 hrk hrj hr hb
    go_simp
    go_wp2_with first
      | (refine wpList_load_mid rfl 22 (.tmp 22) rfl g3 0 rfl (u8s K) _ hrgK Try.underlying22 rfl iK ?_)
      | (refine wpList_load_mid rfl 23 (.tmp 24) rfl g3 32 rfl (u8s N) _ hrgN Try.underlying23 rfl iN ?_)
    refine (HO.out w1 hr1 hb1).mono ?_
    rintro e w2 ⟨hQ, hB2⟩
    have hr2 := hr1.below hB2
    have hb2 := hb1.below hB2
    have h32 := h31.gr hB2
    have hB3 := hB1.trans (hB2.mono hB1.size)
    have hrK := h32.rdL hK
    have hrN := h32.rdR hK hN
    clear hB2 hr1 hb1 h31 hB1 hrgK hrgN HO h32
    rcases hQ with ⟨q1, rfl⟩ | ⟨q1, q2, rfl⟩ | ⟨q1, q2, A7, c7, rfl, hc7, hr7⟩
    · have HR : Hid (∀ w, Calls Try.prog 12 #[.string ⟨K.toArray⟩, .string ⟨N.toArray⟩, .string ⟨W.toArray⟩, .string ⟨S.toArray⟩] w fun e w' => e = .returned (.tuple #[.string ⟨#[]⟩, .bool false]) ∧ Below w.heap.size w w') := by
        intro w
        refine (HRQ.out w).mono ?_
        rintro e w' ⟨hq, hb⟩
        rcases hq with ⟨_, he⟩ | ⟨h1, _⟩ | ⟨h1, _⟩
        · exact ⟨he, hb⟩
        · omega
        · omega
      have hj16 : (j : Int) < 16 := by have := HSL.out; omega
      clear HRQ q1
      go_wp2_with fail
      refine wp_region_ssaL (by kernel_rfl) [IsV (.pointer (some ⟨g3, 0, none⟩)), IsV (.slice (some ⟨g3, 0, none⟩) 32 32), IsV (.string ⟨(K).toArray⟩), IsV (.pointer (some ⟨g3, 32, none⟩)), IsV (.slice (some ⟨g3, 32, none⟩) 12 12), IsV (.string ⟨(N).toArray⟩), IsV (.slice A k c), IsV (.string ⟨(W).toArray⟩), IsV (.slice B j d), IsV (.string ⟨(S).toArray⟩), IsV (.tuple #[.string ⟨#[]⟩, .bool false]), IsV (.tuple #[.string ⟨#[]⟩, .bool false]), IsV (.string ⟨#[]⟩), IsV (.bool false), IsV (.string ⟨#[]⟩), IsV (.bool false)] (by kernel_rfl) ?_ ?_ ?_
      · intro φ hφ v w1 w2 h hg
        simp only [List.mem_cons, List.not_mem_nil, or_false] at hφ
        rcases hφ with rfl | rfl | rfl | rfl | rfl | rfl | rfl | rfl | rfl | rfl | rfl | rfl | rfl | rfl | rfl | rfl
        all_goals first | exact h | exact RdV.gr h hg
      · refine ⟨?_, ?_, ?_, ?_, ?_, ?_, ?_, ?_, ?_, ?_, ?_, ?_, ?_, ?_, ?_, ?_, trivial⟩
        · intro a1 w1 hG hF
          have e3 : a1.eval (.tmp 3) = .pointer (some ⟨g3, 0, none⟩) := hF.ol 3 (by kernel_rfl)
          exact s_is rfl (wants0 rfl) _ rfl (run_field (o := 0) (k := 31) Try.underlying25 rfl rfl (by kernel_rfl) e3)
        · intro a1 w1 hG hF
          obtain ⟨_, e32, rfl⟩ := hF.dp 0 32 (by kernel_rfl)
          exact s_is rfl (wants0 rfl) _ rfl (by simp only [execOp, e32, Option.map, Sem.run_bind, run_cutAllO (P := Try.prog) Try.underlying22 (by kernel_rfl), Result.andThen_ok, Sem.run_pure])
        · intro a1 w1 hG hF
          obtain ⟨_, e33, rfl⟩ := hF.dp 1 33 (by kernel_rfl)
          exact s_str rfl (wants0 rfl) 26 9 5 (.tmp 33) rfl Try.underlying26 Try.underlying5 Try.underlying9 _ _ _ (K) e33 (((Gr.drew w2).trans hG).rd hrK) rfl
        · intro a1 w1 hG hF
          have e3 : a1.eval (.tmp 3) = .pointer (some ⟨g3, 0, none⟩) := hF.ol 3 (by kernel_rfl)
          exact s_is rfl (wants0 rfl) _ rfl (run_field (o := 32) (k := 11) Try.underlying25 rfl rfl (by kernel_rfl) e3)
        · intro a1 w1 hG hF
          obtain ⟨_, e35, rfl⟩ := hF.dp 3 35 (by kernel_rfl)
          exact s_is rfl (wants0 rfl) _ rfl (by simp only [execOp, e35, Option.map, Sem.run_bind, run_cutAllO (P := Try.prog) Try.underlying23 (by kernel_rfl), Result.andThen_ok, Sem.run_pure])
        · intro a1 w1 hG hF
          obtain ⟨_, e36, rfl⟩ := hF.dp 4 36 (by kernel_rfl)
          exact s_str rfl (wants0 rfl) 26 9 5 (.tmp 36) rfl Try.underlying26 Try.underlying5 Try.underlying9 _ _ _ (N) e36 (((Gr.drew w2).trans hG).rd hrN) rfl
        · intro a1 w1 hG hF
          exact s_old rfl (wants0 rfl) (.tmp 1) (.inr rfl) (.slice A k c) (hF.ol 1 (by kernel_rfl)) rfl
        · intro a1 w1 hG hF
          obtain ⟨_, e38, rfl⟩ := hF.dp 6 38 (by kernel_rfl)
          exact s_str rfl (wants0 rfl) 26 9 5 (.tmp 38) rfl Try.underlying26 Try.underlying5 Try.underlying9 _ _ _ (W) e38 (((Gr.drew w2).trans hG).rd hr2) rfl
        · intro a1 w1 hG hF
          exact s_old rfl (wants0 rfl) (.tmp 2) (.inr rfl) (.slice B j d) (hF.ol 2 (by kernel_rfl)) rfl
        · intro a1 w1 hG hF
          obtain ⟨_, e40, rfl⟩ := hF.dp 8 40 (by kernel_rfl)
          exact s_str rfl (wants0 rfl) 26 9 5 (.tmp 40) rfl Try.underlying26 Try.underlying5 Try.underlying9 _ _ _ (S) e40 (((Gr.drew w2).trans hG).rd hb2) rfl
        · intro a1 w1 hG hF
          obtain ⟨_, e34, rfl⟩ := hF.dp 2 34 (by kernel_rfl)
          obtain ⟨_, e37, rfl⟩ := hF.dp 5 37 (by kernel_rfl)
          obtain ⟨_, e39, rfl⟩ := hF.dp 7 39 (by kernel_rfl)
          obtain ⟨_, e41, rfl⟩ := hF.dp 9 41 (by kernel_rfl)
          exact s_call rfl (wants0 rfl) _ rfl _ _ (by simp only [execOp, resolve, invoke, List.map_toArray, List.map_cons, List.map_nil, e34, e37, e39, e41]; go_simp) ((HR.out w1).mono fun e w2 ⟨he, hb⟩ => ⟨_, he, rfl, hb⟩)
        · intro a1 w1 hG hF
          exact s_same rfl (wants0 rfl) (.tmp 42) (.inr rfl) (hF.dp 10 42 (by kernel_rfl))
        · intro a1 w1 hG hF
          obtain ⟨_, e31, rfl⟩ := hF.dp 11 31 (by kernel_rfl)
          exact s_is rfl (wants0 rfl) _ rfl (by simp only [execOp, e31]; go_simp)
        · intro a1 w1 hG hF
          obtain ⟨_, e31, rfl⟩ := hF.dp 11 31 (by kernel_rfl)
          exact s_is rfl (wants0 rfl) _ rfl (by simp only [execOp, e31]; go_simp)
        · intro a1 w1 hG hF
          exact s_same rfl (wants0 rfl) (.tmp 43) (.inl rfl) (hF.dp 12 43 (by kernel_rfl))
        · intro a1 w1 hG hF
          exact s_same rfl (wants0 rfl) (.tmp 44) (.inl rfl) (hF.dp 13 44 (by kernel_rfl))
      · intro vs w1 hG hf
        have z9 : vs 14 = .string ⟨#[]⟩ := hf.2.2.2.2.2.2.2.2.2.2.2.2.2.2.1
        have z10 : vs 15 = .bool false := hf.2.2.2.2.2.2.2.2.2.2.2.2.2.2.2.1
        clear hf
        simp only [putAll, Nat.zero_add, Nat.reduceAdd, z9, z10]
        have hG2 := (Gr.drew w2).trans hG
        have hB4 := hB3.trans (hG2.mono hB3.size)
        have hcv : (convert 26 9 (.slice none 0 0)).run Try.prog w1 = .ok (.string ⟨#[]⟩) w1 := run_str (P := Try.prog) (c := 0) (l := []) w1 Try.underlying26 Try.underlying5 Try.underlying9 (Rd.nil _ _)
        go_simp
        go_wp2_with fail
        refine (seals_any w1).mono ?_
        rintro e w3 ⟨rfl, hB5⟩
        have hB6 := hB4.trans (hB5.mono hB4.size)
        have hcv : (convert 26 9 (.slice none 0 0)).run Try.prog w3 = .ok (.string ⟨#[]⟩) w3 := run_str (P := Try.prog) (c := 0) (l := []) w3 Try.underlying26 Try.underlying5 Try.underlying9 (Rd.nil _ _)
        go_wp2_with fail
        go_ret
        exact ⟨rfl, hB6⟩
    · have HR : Hid (∀ w, Calls Try.prog 12 #[.string ⟨K.toArray⟩, .string ⟨N.toArray⟩, .string ⟨W.toArray⟩, .string ⟨S.toArray⟩] w fun e w' => e = .returned (.tuple #[.string ⟨#[]⟩, .bool false]) ∧ Below w.heap.size w w') := by
        intro w
        refine (HRQ.out w).mono ?_
        rintro e w' ⟨hq, hb⟩
        rcases hq with ⟨h1, _⟩ | ⟨_, _, he⟩ | ⟨_, h2, _⟩
        · omega
        · exact ⟨he, hb⟩
        · exact absurd h2 q2
      have hj16 : ¬ (j : Int) < 16 := by have := HSL.out; omega
      clear HRQ q1 q2
      go_wp2_with fail
      refine wp_region_ssaL (by kernel_rfl) [IsV (.pointer (some ⟨g3, 0, none⟩)), IsV (.slice (some ⟨g3, 0, none⟩) 32 32), IsV (.string ⟨(K).toArray⟩), IsV (.pointer (some ⟨g3, 32, none⟩)), IsV (.slice (some ⟨g3, 32, none⟩) 12 12), IsV (.string ⟨(N).toArray⟩), IsV (.slice A k c), IsV (.string ⟨(W).toArray⟩), IsV (.slice B j d), IsV (.string ⟨(S).toArray⟩), IsV (.tuple #[.string ⟨#[]⟩, .bool false]), IsV (.tuple #[.string ⟨#[]⟩, .bool false]), IsV (.string ⟨#[]⟩), IsV (.bool false), IsV (.string ⟨#[]⟩), IsV (.bool false)] (by kernel_rfl) ?_ ?_ ?_
      · intro φ hφ v w1 w2 h hg
        simp only [List.mem_cons, List.not_mem_nil, or_false] at hφ
        rcases hφ with rfl | rfl | rfl | rfl | rfl | rfl | rfl | rfl | rfl | rfl | rfl | rfl | rfl | rfl | rfl | rfl
        all_goals first | exact h | exact RdV.gr h hg
      · refine ⟨?_, ?_, ?_, ?_, ?_, ?_, ?_, ?_, ?_, ?_, ?_, ?_, ?_, ?_, ?_, ?_, trivial⟩
        · intro a1 w1 hG hF
          have e3 : a1.eval (.tmp 3) = .pointer (some ⟨g3, 0, none⟩) := hF.ol 3 (by kernel_rfl)
          exact s_is rfl (wants0 rfl) _ rfl (run_field (o := 0) (k := 31) Try.underlying25 rfl rfl (by kernel_rfl) e3)
        · intro a1 w1 hG hF
          obtain ⟨_, e32, rfl⟩ := hF.dp 0 32 (by kernel_rfl)
          exact s_is rfl (wants0 rfl) _ rfl (by simp only [execOp, e32, Option.map, Sem.run_bind, run_cutAllO (P := Try.prog) Try.underlying22 (by kernel_rfl), Result.andThen_ok, Sem.run_pure])
        · intro a1 w1 hG hF
          obtain ⟨_, e33, rfl⟩ := hF.dp 1 33 (by kernel_rfl)
          exact s_str rfl (wants0 rfl) 26 9 5 (.tmp 33) rfl Try.underlying26 Try.underlying5 Try.underlying9 _ _ _ (K) e33 (((Gr.drew w2).trans hG).rd hrK) rfl
        · intro a1 w1 hG hF
          have e3 : a1.eval (.tmp 3) = .pointer (some ⟨g3, 0, none⟩) := hF.ol 3 (by kernel_rfl)
          exact s_is rfl (wants0 rfl) _ rfl (run_field (o := 32) (k := 11) Try.underlying25 rfl rfl (by kernel_rfl) e3)
        · intro a1 w1 hG hF
          obtain ⟨_, e35, rfl⟩ := hF.dp 3 35 (by kernel_rfl)
          exact s_is rfl (wants0 rfl) _ rfl (by simp only [execOp, e35, Option.map, Sem.run_bind, run_cutAllO (P := Try.prog) Try.underlying23 (by kernel_rfl), Result.andThen_ok, Sem.run_pure])
        · intro a1 w1 hG hF
          obtain ⟨_, e36, rfl⟩ := hF.dp 4 36 (by kernel_rfl)
          exact s_str rfl (wants0 rfl) 26 9 5 (.tmp 36) rfl Try.underlying26 Try.underlying5 Try.underlying9 _ _ _ (N) e36 (((Gr.drew w2).trans hG).rd hrN) rfl
        · intro a1 w1 hG hF
          exact s_old rfl (wants0 rfl) (.tmp 1) (.inr rfl) (.slice A k c) (hF.ol 1 (by kernel_rfl)) rfl
        · intro a1 w1 hG hF
          obtain ⟨_, e38, rfl⟩ := hF.dp 6 38 (by kernel_rfl)
          exact s_str rfl (wants0 rfl) 26 9 5 (.tmp 38) rfl Try.underlying26 Try.underlying5 Try.underlying9 _ _ _ (W) e38 (((Gr.drew w2).trans hG).rd hr2) rfl
        · intro a1 w1 hG hF
          exact s_old rfl (wants0 rfl) (.tmp 2) (.inr rfl) (.slice B j d) (hF.ol 2 (by kernel_rfl)) rfl
        · intro a1 w1 hG hF
          obtain ⟨_, e40, rfl⟩ := hF.dp 8 40 (by kernel_rfl)
          exact s_str rfl (wants0 rfl) 26 9 5 (.tmp 40) rfl Try.underlying26 Try.underlying5 Try.underlying9 _ _ _ (S) e40 (((Gr.drew w2).trans hG).rd hb2) rfl
        · intro a1 w1 hG hF
          obtain ⟨_, e34, rfl⟩ := hF.dp 2 34 (by kernel_rfl)
          obtain ⟨_, e37, rfl⟩ := hF.dp 5 37 (by kernel_rfl)
          obtain ⟨_, e39, rfl⟩ := hF.dp 7 39 (by kernel_rfl)
          obtain ⟨_, e41, rfl⟩ := hF.dp 9 41 (by kernel_rfl)
          exact s_call rfl (wants0 rfl) _ rfl _ _ (by simp only [execOp, resolve, invoke, List.map_toArray, List.map_cons, List.map_nil, e34, e37, e39, e41]; go_simp) ((HR.out w1).mono fun e w2 ⟨he, hb⟩ => ⟨_, he, rfl, hb⟩)
        · intro a1 w1 hG hF
          exact s_same rfl (wants0 rfl) (.tmp 42) (.inr rfl) (hF.dp 10 42 (by kernel_rfl))
        · intro a1 w1 hG hF
          obtain ⟨_, e31, rfl⟩ := hF.dp 11 31 (by kernel_rfl)
          exact s_is rfl (wants0 rfl) _ rfl (by simp only [execOp, e31]; go_simp)
        · intro a1 w1 hG hF
          obtain ⟨_, e31, rfl⟩ := hF.dp 11 31 (by kernel_rfl)
          exact s_is rfl (wants0 rfl) _ rfl (by simp only [execOp, e31]; go_simp)
        · intro a1 w1 hG hF
          exact s_same rfl (wants0 rfl) (.tmp 43) (.inl rfl) (hF.dp 12 43 (by kernel_rfl))
        · intro a1 w1 hG hF
          exact s_same rfl (wants0 rfl) (.tmp 44) (.inl rfl) (hF.dp 13 44 (by kernel_rfl))
      · intro vs w1 hG hf
        have z9 : vs 14 = .string ⟨#[]⟩ := hf.2.2.2.2.2.2.2.2.2.2.2.2.2.2.1
        have z10 : vs 15 = .bool false := hf.2.2.2.2.2.2.2.2.2.2.2.2.2.2.2.1
        clear hf
        simp only [putAll, Nat.zero_add, Nat.reduceAdd, z9, z10]
        have hG2 := (Gr.drew w2).trans hG
        have hB4 := hB3.trans (hG2.mono hB3.size)
        go_simp
        go_wp2_with fail
        refine (seals_any w1).mono ?_
        rintro e w3 ⟨rfl, hB5⟩
        have hB6 := hB4.trans (hB5.mono hB4.size)
        have hcv : (convert 26 9 (.slice none 0 0)).run Try.prog w3 = .ok (.string ⟨#[]⟩) w3 := run_str (P := Try.prog) (c := 0) (l := []) w3 Try.underlying26 Try.underlying5 Try.underlying9 (Rd.nil _ _)
        go_wp2_with fail
        go_ret
        exact ⟨rfl, hB6⟩
    · obtain ⟨r, hrr⟩ : ∃ r : ByteArray, r = ⟨(hideL K N (S.take (S.length - 16))).toArray⟩ := ⟨_, rfl⟩
      have HR : Hid (∀ w, Calls Try.prog 12 #[.string ⟨K.toArray⟩, .string ⟨N.toArray⟩, .string ⟨W.toArray⟩, .string ⟨S.toArray⟩] w fun e w' => e = .returned (.tuple #[.string r, .bool true]) ∧ Below w.heap.size w w') := by
        intro w
        rw [hrr]
        refine (HRQ.out w).mono ?_
        rintro e w' ⟨hq, hb⟩
        rcases hq with ⟨h1, _⟩ | ⟨_, h2, _⟩ | ⟨_, _, he⟩
        · omega
        · exact absurd q2 h2
        · exact ⟨he, hb⟩
      have HCV : Hid (∀ w, Rd w A7 (S.length - 16) (u8s (hideL K N (S.take (S.length - 16)))) → (convert 26 9 (.slice A7 (S.length - 16) c7)).run Try.prog w = .ok (.string r) w) := by
        intro w h
        rw [hrr]
        exact run_str (P := Try.prog) (c := c7) w Try.underlying26 Try.underlying5 Try.underlying9 h
      generalize S.length - 16 = j7 at hr7 hc7 HCV ⊢
      clear HRQ q1 q2 hrr
      go_wp2_with fail
      refine wp_region_ssaL (by kernel_rfl) [IsV (.pointer (some ⟨g3, 0, none⟩)), IsV (.slice (some ⟨g3, 0, none⟩) 32 32), IsV (.string ⟨(K).toArray⟩), IsV (.pointer (some ⟨g3, 32, none⟩)), IsV (.slice (some ⟨g3, 32, none⟩) 12 12), IsV (.string ⟨(N).toArray⟩), IsV (.slice A k c), IsV (.string ⟨(W).toArray⟩), IsV (.slice B j d), IsV (.string ⟨(S).toArray⟩), IsV (.tuple #[.string r, .bool true]), IsV (.tuple #[.string r, .bool true]), IsV (.string r), IsV (.bool true), IsV (.string r), IsV (.bool true)] (by kernel_rfl) ?_ ?_ ?_
      · intro φ hφ v w1 w2 h hg
        simp only [List.mem_cons, List.not_mem_nil, or_false] at hφ
        rcases hφ with rfl | rfl | rfl | rfl | rfl | rfl | rfl | rfl | rfl | rfl | rfl | rfl | rfl | rfl | rfl | rfl
        all_goals first | exact h | exact RdV.gr h hg
      · refine ⟨?_, ?_, ?_, ?_, ?_, ?_, ?_, ?_, ?_, ?_, ?_, ?_, ?_, ?_, ?_, ?_, trivial⟩
        · intro a1 w1 hG hF
          have e3 : a1.eval (.tmp 3) = .pointer (some ⟨g3, 0, none⟩) := hF.ol 3 (by kernel_rfl)
          exact s_is rfl (wants0 rfl) _ rfl (run_field (o := 0) (k := 31) Try.underlying25 rfl rfl (by kernel_rfl) e3)
        · intro a1 w1 hG hF
          obtain ⟨_, e32, rfl⟩ := hF.dp 0 32 (by kernel_rfl)
          exact s_is rfl (wants0 rfl) _ rfl (by simp only [execOp, e32, Option.map, Sem.run_bind, run_cutAllO (P := Try.prog) Try.underlying22 (by kernel_rfl), Result.andThen_ok, Sem.run_pure])
        · intro a1 w1 hG hF
          obtain ⟨_, e33, rfl⟩ := hF.dp 1 33 (by kernel_rfl)
          exact s_str rfl (wants0 rfl) 26 9 5 (.tmp 33) rfl Try.underlying26 Try.underlying5 Try.underlying9 _ _ _ (K) e33 (((Gr.drew w2).trans hG).rd hrK) rfl
        · intro a1 w1 hG hF
          have e3 : a1.eval (.tmp 3) = .pointer (some ⟨g3, 0, none⟩) := hF.ol 3 (by kernel_rfl)
          exact s_is rfl (wants0 rfl) _ rfl (run_field (o := 32) (k := 11) Try.underlying25 rfl rfl (by kernel_rfl) e3)
        · intro a1 w1 hG hF
          obtain ⟨_, e35, rfl⟩ := hF.dp 3 35 (by kernel_rfl)
          exact s_is rfl (wants0 rfl) _ rfl (by simp only [execOp, e35, Option.map, Sem.run_bind, run_cutAllO (P := Try.prog) Try.underlying23 (by kernel_rfl), Result.andThen_ok, Sem.run_pure])
        · intro a1 w1 hG hF
          obtain ⟨_, e36, rfl⟩ := hF.dp 4 36 (by kernel_rfl)
          exact s_str rfl (wants0 rfl) 26 9 5 (.tmp 36) rfl Try.underlying26 Try.underlying5 Try.underlying9 _ _ _ (N) e36 (((Gr.drew w2).trans hG).rd hrN) rfl
        · intro a1 w1 hG hF
          exact s_old rfl (wants0 rfl) (.tmp 1) (.inr rfl) (.slice A k c) (hF.ol 1 (by kernel_rfl)) rfl
        · intro a1 w1 hG hF
          obtain ⟨_, e38, rfl⟩ := hF.dp 6 38 (by kernel_rfl)
          exact s_str rfl (wants0 rfl) 26 9 5 (.tmp 38) rfl Try.underlying26 Try.underlying5 Try.underlying9 _ _ _ (W) e38 (((Gr.drew w2).trans hG).rd hr2) rfl
        · intro a1 w1 hG hF
          exact s_old rfl (wants0 rfl) (.tmp 2) (.inr rfl) (.slice B j d) (hF.ol 2 (by kernel_rfl)) rfl
        · intro a1 w1 hG hF
          obtain ⟨_, e40, rfl⟩ := hF.dp 8 40 (by kernel_rfl)
          exact s_str rfl (wants0 rfl) 26 9 5 (.tmp 40) rfl Try.underlying26 Try.underlying5 Try.underlying9 _ _ _ (S) e40 (((Gr.drew w2).trans hG).rd hb2) rfl
        · intro a1 w1 hG hF
          obtain ⟨_, e34, rfl⟩ := hF.dp 2 34 (by kernel_rfl)
          obtain ⟨_, e37, rfl⟩ := hF.dp 5 37 (by kernel_rfl)
          obtain ⟨_, e39, rfl⟩ := hF.dp 7 39 (by kernel_rfl)
          obtain ⟨_, e41, rfl⟩ := hF.dp 9 41 (by kernel_rfl)
          exact s_call rfl (wants0 rfl) _ rfl _ _ (by simp only [execOp, resolve, invoke, List.map_toArray, List.map_cons, List.map_nil, e34, e37, e39, e41]; go_simp) ((HR.out w1).mono fun e w2 ⟨he, hb⟩ => ⟨_, he, rfl, hb⟩)
        · intro a1 w1 hG hF
          exact s_same rfl (wants0 rfl) (.tmp 42) (.inr rfl) (hF.dp 10 42 (by kernel_rfl))
        · intro a1 w1 hG hF
          obtain ⟨_, e31, rfl⟩ := hF.dp 11 31 (by kernel_rfl)
          exact s_is rfl (wants0 rfl) _ rfl (by simp only [execOp, e31]; go_simp)
        · intro a1 w1 hG hF
          obtain ⟨_, e31, rfl⟩ := hF.dp 11 31 (by kernel_rfl)
          exact s_is rfl (wants0 rfl) _ rfl (by simp only [execOp, e31]; go_simp)
        · intro a1 w1 hG hF
          exact s_same rfl (wants0 rfl) (.tmp 43) (.inl rfl) (hF.dp 12 43 (by kernel_rfl))
        · intro a1 w1 hG hF
          exact s_same rfl (wants0 rfl) (.tmp 44) (.inl rfl) (hF.dp 13 44 (by kernel_rfl))
      · intro vs w1 hG hf
        have z9 : vs 14 = .string r := hf.2.2.2.2.2.2.2.2.2.2.2.2.2.2.1
        have z10 : vs 15 = .bool true := hf.2.2.2.2.2.2.2.2.2.2.2.2.2.2.2.1
        clear hf
        simp only [putAll, Nat.zero_add, Nat.reduceAdd, z9, z10]
        have hG2 := (Gr.drew w2).trans hG
        have hB4 := hB3.trans (hG2.mono hB3.size)
        have hr71 := hG2.rd hr7
        go_simp
        go_wp2_with fail
        refine (seals_any w1).mono ?_
        rintro e w3 ⟨rfl, hB5⟩
        have hB6 := hB4.trans (hB5.mono hB4.size)
        have hcv := HCV.out w3 (hr71.below hB5)
        go_wp2_with fail
        go_ret
        exact ⟨rfl, hB6⟩
end Go.Proofs.Ythffodfnnjejnaa

