/- The walk of the law AeadStreams. No condition. -/
import Derived.Test.YthffodfnnjejnaaLASeals
import Derived.Test.YthffodfnnjejnaaIdx
namespace Go.Proofs.Ythffodfnnjejnaa
open Go.RowKit
theorem run_quo2 {ev : Operand → Value} {d : Option Tmp} {t : TypeId} {p : String} {af : Array Edge} {gd : Option (Nat × Bool)} {w : World} {x : Operand} {m : Nat} (h1 : ev x = .int .i64 (m : Int)) (hm : m ≤ 150) (h3 : ev (.const (.int .i64 2)) = .int .i64 2) :
    (execOp ev ⟨d, .binOp .quo 3 x (.const (.int .i64 2)) 3, t, p, af, gd⟩).run Try.prog w = .ok (.value (.int .i64 ((m / 2 : Nat) : Int))) w := by
  simp only [execOp, h1, h3]
  go_simp
  exact IntWalk.i64_in _ (by omega)
theorem run_idx2 {ev : Operand → Value} {d : Option Tmp} {t : TypeId} {p : String} {af : Array Edge} {gd : Option (Nat × Bool)} {w : World} {x y : Operand} {g i : Nat} (h1 : ev x = .pointer (some ⟨g, 0, none⟩)) (h2 : ev y = .int .i64 (i : Int)) (hi : i < 2) :
    (execOp ev ⟨d, .indexAddr 40 x y, t, p, af, gd⟩).run Try.prog w = .ok (.value (.pointer (some ⟨g, i, none⟩))) w := by
  have : i = 0 ∨ i = 1 := by omega
  simp only [execOp, h1, h2]
  rcases this with rfl | rfl <;> go_simp <;> rfl
theorem run_geqT {P : Program} {ev : Operand → Value} {d : Option Tmp} {t T U : TypeId} {p : String} {af : Array Edge} {gd : Option (Nat × Bool)} {w : World} {x y : Operand} {a b : Nat} (h1 : ev x = .int .i64 a) (h2 : ev y = .int .i64 b) (h : b ≤ a) :
    (execOp ev ⟨d, .binOp .geq T x y U, t, p, af, gd⟩).run P w = .ok (.value (.bool true)) w := by
  have hab : (b : Int) ≤ (a : Int) := by omega
  simp only [execOp, h1, h2]
  go_simp
/-- The beginning of what is sealed. -/
theorem seal_begin (K N W b : List UInt8) (m : Nat) (h : m ≤ b.length) : (sealL K N W b).take m = hideL K N (b.take m) := by
  rw [sealL, List.take_append_of_le_length (by simpa using h), hideL_take K N b m h]
set_option maxRecDepth 100000 in
set_option maxHeartbeats 16000000 in
theorem law_astr (K : List UInt8) (hK : K.length = 32) (N : List UInt8) (hN : N.length = 12) (A : Option Addr) (n c : Nat) (X0 : List UInt8) (C : Option Addr) (n2 c2 : Nat) (Y0 : List UInt8) (B : Option Addr) (m d : Nat) (b0 : List UInt8) (w : World) (hnc : n ≤ c) (hnc2 : n2 ≤ c2) (hmd : m ≤ d) (hr : Rd w A n (u8s X0)) (hs : Rd w C n2 (u8s Y0)) (hb : Rd w B m (u8s b0)) :
    Calls Try.prog 7 #[.agg (u8s K ++ u8s N).toArray, .agg #[.slice A n c, .slice C n2 c2], .slice B m d] w fun e w' => e = .returned (.bool true) ∧ Below w.heap.size w w' := by
  obtain ⟨k, hki, hkn, hk2⟩ := cut_at n 60
  obtain ⟨k2, hki2, hkn2, hk22⟩ := cut_at n2 60
  obtain ⟨j, hji, hjm, hj2⟩ := cut_at m 150
  replace hji : min (m : Int) 150 = (j : Int) := hji
  have hrX : Rd w A k (u8s (X0.take k)) := by rw [← u8s_take]; exact hr.take hkn
  have hrY : Rd w C k2 (u8s (Y0.take k2)) := by rw [← u8s_take]; exact hs.take hkn2
  have hrj : Rd w B j (u8s (b0.take j)) := by rw [← u8s_take]; exact hb.take hjm
  obtain ⟨X, hX⟩ : ∃ W, W = X0.take k := ⟨_, rfl⟩
  obtain ⟨Y, hY⟩ : ∃ W, W = Y0.take k2 := ⟨_, rfl⟩
  obtain ⟨b, hbb⟩ : ∃ b, b = b0.take j := ⟨_, rfl⟩
  rw [← hX] at hrX
  rw [← hY] at hrY
  rw [← hbb] at hrj
  have hbl : b.length = j := by simpa using hrj.1
  have HC1 := Lib.hid fun w1 => run_cut_h (P := Try.prog) Try.underlying26 (by kernel_rfl) (A := A) (n := n) (c := c) (hi := k) (h := (k : Int)) rfl (by omega) w1
  have HC2 := Lib.hid fun w1 => run_cut_h (P := Try.prog) Try.underlying26 (by kernel_rfl) (A := C) (n := n2) (c := c2) (hi := k2) (h := (k2 : Int)) rfl (by omega) w1
  have hcut := fun w1 => run_cut_h (P := Try.prog) Try.underlying26 (by kernel_rfl) (A := B) (n := m) (c := d) (hi := j) (h := (j : Int)) rfl (by omega) w1
  have HC4 := Lib.hid fun w1 => run_cut_h (P := Try.prog) Try.underlying26 (by kernel_rfl) (A := B) (n := j) (c := d) (hi := j / 2) (h := ((j / 2 : Nat) : Int)) rfl (by omega) w1
  have HCA := Lib.hid fun (A : Option Addr) (n c hi : Nat) (hh : hi ≤ c) w1 => run_cut_h (P := Try.prog) Try.underlying26 (by kernel_rfl) (A := A) (n := n) (c := c) (hi := hi) (h := (hi : Int)) rfl hh w1
  have HM1 := Lib.hid hki
  have HM2 := Lib.hid hki2
  obtain ⟨h, hh⟩ : ∃ h, h = j / 2 := ⟨_, rfl⟩
  obtain ⟨bh, hbh⟩ : ∃ x, x = b.take h := ⟨_, rfl⟩
  have hbhl : bh.length = h := by rw [hbh, List.length_take, hbl]; omega
  have hrh : Rd w B h (u8s bh) := by rw [hbh, ← u8s_take]; exact hrj.take (by omega)
  obtain ⟨S, hS⟩ : ∃ S, S = sealL K N X b := ⟨_, rfl⟩
  obtain ⟨T, hT⟩ : ∃ S, S = sealL K N Y b := ⟨_, rfl⟩
  obtain ⟨H, hH⟩ : ∃ S, S = sealL K N X bh := ⟨_, rfl⟩
  have hTS : T.take j = S.take j := by rw [hT, hS, seal_begin _ _ _ _ _ (by omega), seal_begin _ _ _ _ _ (by omega)]
  have hHS : H.take h = S.take h := by
    rw [hH, hS, seal_begin _ _ _ _ _ (by omega), seal_begin _ _ _ _ _ (by omega), ← hbh, List.take_of_length_le (by omega)]
  have HS : Hid (∀ w, Rd w A k (u8s X) → Rd w B j (u8s b) → Calls Try.prog 8 #[.agg (u8s K).toArray, .agg (u8s N).toArray, .slice A k c, .slice B j d] w fun e w' => ∃ v, e = .returned v ∧ w'.ownsRow w.heap.size 5 1 v (j + 16) (u8s S) ∧ Below w.heap.size w w') := by
    intro w h1 h2
    rw [hS]
    exact seal_any K hK N hN A k c X B j d b (by omega) (by omega) (by omega) w h1 h2
  have HT : Hid (∀ w, Rd w C k2 (u8s Y) → Rd w B j (u8s b) → Calls Try.prog 8 #[.agg (u8s K).toArray, .agg (u8s N).toArray, .slice C k2 c2, .slice B j d] w fun e w' => ∃ v, e = .returned v ∧ w'.ownsRow w.heap.size 5 1 v (j + 16) (u8s T) ∧ Below w.heap.size w w') := by
    intro w h1 h2
    rw [hT]
    exact seal_any K hK N hN C k2 c2 Y B j d b (by omega) (by omega) (by omega) w h1 h2
  have HH : Hid (∀ w, Rd w A k (u8s X) → Rd w B h (u8s bh) → Calls Try.prog 8 #[.agg (u8s K).toArray, .agg (u8s N).toArray, .slice A k c, .slice B h d] w fun e w' => ∃ v, e = .returned v ∧ w'.ownsRow w.heap.size 5 1 v (h + 16) (u8s H) ∧ Below w.heap.size w w') := by
    intro w h1 h2
    rw [hH]
    exact seal_any K hK N hN A k c X B h d bh (by omega) (by omega) (by omega) w h1 h2
  have HHJ := Lib.hid hh
  have HTS := Lib.hid hTS
  have HHS := Lib.hid hHS
  have h3 : Arr ((w.alloc (.cells (u8s K ++ u8s N).toArray 25)).alloc (.cells #[.slice A n c, .slice C n2 c2] 40)) w.heap.size 25 (u8s K ++ u8s N) := Arr.alloc (Arr.newAt rfl rfl) _
  have h4 : Arr ((w.alloc (.cells (u8s K ++ u8s N).toArray 25)).alloc (.cells #[.slice A n c, .slice C n2 c2] 40)) (w.heap.size + 1) 40 [.slice A n c, .slice C n2 c2] := Arr.newAt (asz _ _) rfl
  have G0 : Gr w ((w.alloc (.cells (u8s K ++ u8s N).toArray 25)).alloc (.cells #[.slice A n c, .slice C n2 c2] 40)) := (Gr.alloc _ _).trans (Gr.alloc _ _)
  have iK := info22 K hK
  have iN := info24 N hN
  have hhj : h ≤ j := by omega
  have hj9 : j ≤ 150 := hj2
  clear hS hT hH hX hY hbb hki hki2 hh hbh hTS hHS hr hs hb
  go_enter Try.func7, Try.ntmps7
  go_upto_region 1 with fail
  generalize (w.alloc (.cells (u8s K ++ u8s N).toArray 25)).alloc (.cells #[.slice A n c, .slice C n2 c2] 40) = w0 at h3 h4 G0 ⊢
  generalize w.heap.size + 1 = g4 at h4 ⊢
  obtain ⟨g3, hg3⟩ : ∃ g, g = w.heap.size := ⟨_, rfl⟩
  rw [← hg3] at h3
  simp only [← hg3]
  have HG3 := Lib.hid hg3
  clear hg3
  have hrX0 := G0.rd hrX
  have hrY0 := G0.rd hrY
  have hrj0 := G0.rd hrj
  have hrh0 := G0.rd hrh
  have hc40 := h4.cell (i := 0) (v := .slice A n c) rfl
  have hc41 := h4.cell (i := 1) (v := .slice C n2 c2) rfl
  refine wp_region_ssaL (by kernel_rfl) [IsV (.pointer (some ⟨g4, 0, none⟩)), IsV (.slice A n c), IsV (.pointer (some ⟨g4, 0, none⟩)), IsV (.slice A n c), IsV (.int .i64 ((n : Nat) : Int)), IsV (.int .i64 ((k : Nat) : Int)), IsV (.slice A k c), IsV (.pointer (some ⟨g4, 1, none⟩)), IsV (.slice C n2 c2), IsV (.pointer (some ⟨g4, 1, none⟩)), IsV (.slice C n2 c2), IsV (.int .i64 ((n2 : Nat) : Int)), IsV (.int .i64 ((k2 : Nat) : Int)), IsV (.slice C k2 c2), IsV (.slice A k c), IsV (.slice C k2 c2)] (by kernel_rfl) ?_ ?_ ?_
  · intro φ hφ v w1 w2 h hg
    simp only [List.mem_cons, List.not_mem_nil, or_false] at hφ
    rcases hφ with rfl | rfl | rfl | rfl | rfl | rfl | rfl | rfl | rfl | rfl | rfl | rfl | rfl | rfl | rfl | rfl
    all_goals first | exact h | exact RdV.gr h hg
  · refine ⟨?_, ?_, ?_, ?_, ?_, ?_, ?_, ?_, ?_, ?_, ?_, ?_, ?_, ?_, ?_, ?_, trivial⟩
    · intro a1 w1 hG hF
      have e4 : a1.eval (.tmp 4) = .pointer (some ⟨g4, 0, none⟩) := hF.ol 4 (by kernel_rfl)
      exact s_is rfl (wants0 rfl) _ rfl (run_idx2 (i := 0) e4 rfl (by omega))
    · intro a1 w1 hG hF
      obtain ⟨_, e12, rfl⟩ := hF.dp 0 12 (by kernel_rfl)
      exact s_is rfl (wants0 rfl) _ rfl (run_loadSl Try.underlying26 e12 (Gr.cell ((Gr.drew w0).trans hG) hc40))
    · intro a1 w1 hG hF
      have e4 : a1.eval (.tmp 4) = .pointer (some ⟨g4, 0, none⟩) := hF.ol 4 (by kernel_rfl)
      exact s_is rfl (wants0 rfl) _ rfl (run_idx2 (i := 0) e4 rfl (by omega))
    · intro a1 w1 hG hF
      obtain ⟨_, e14, rfl⟩ := hF.dp 2 14 (by kernel_rfl)
      exact s_is rfl (wants0 rfl) _ rfl (run_loadSl Try.underlying26 e14 (Gr.cell ((Gr.drew w0).trans hG) hc40))
    · intro a1 w1 hG hF
      obtain ⟨_, e15, rfl⟩ := hF.dp 3 15 (by kernel_rfl)
      exact s_is rfl (wants0 rfl) _ rfl (run_len_slice Try.underlying26 e15)
    · intro a1 w1 hG hF
      obtain ⟨_, e16, rfl⟩ := hF.dp 4 16 (by kernel_rfl)
      exact s_is rfl (wants0 rfl) _ rfl (run_min_ e16 rfl HM1.out)
    · intro a1 w1 hG hF
      obtain ⟨_, e13, rfl⟩ := hF.dp 1 13 (by kernel_rfl)
      obtain ⟨_, e17, rfl⟩ := hF.dp 5 17 (by kernel_rfl)
      exact s_is rfl (wants0 rfl) _ rfl (by simp only [execOp, e13, e17, Option.map, Sem.run_bind, HC1.out, Result.andThen_ok, Sem.run_pure])
    · intro a1 w1 hG hF
      have e4 : a1.eval (.tmp 4) = .pointer (some ⟨g4, 0, none⟩) := hF.ol 4 (by kernel_rfl)
      exact s_is rfl (wants0 rfl) _ rfl (run_idx2 (i := 1) e4 rfl (by omega))
    · intro a1 w1 hG hF
      obtain ⟨_, e19, rfl⟩ := hF.dp 7 19 (by kernel_rfl)
      exact s_is rfl (wants0 rfl) _ rfl (run_loadSl Try.underlying26 e19 (Gr.cell ((Gr.drew w0).trans hG) hc41))
    · intro a1 w1 hG hF
      have e4 : a1.eval (.tmp 4) = .pointer (some ⟨g4, 0, none⟩) := hF.ol 4 (by kernel_rfl)
      exact s_is rfl (wants0 rfl) _ rfl (run_idx2 (i := 1) e4 rfl (by omega))
    · intro a1 w1 hG hF
      obtain ⟨_, e21, rfl⟩ := hF.dp 9 21 (by kernel_rfl)
      exact s_is rfl (wants0 rfl) _ rfl (run_loadSl Try.underlying26 e21 (Gr.cell ((Gr.drew w0).trans hG) hc41))
    · intro a1 w1 hG hF
      obtain ⟨_, e22, rfl⟩ := hF.dp 10 22 (by kernel_rfl)
      exact s_is rfl (wants0 rfl) _ rfl (run_len_slice Try.underlying26 e22)
    · intro a1 w1 hG hF
      obtain ⟨_, e23, rfl⟩ := hF.dp 11 23 (by kernel_rfl)
      exact s_is rfl (wants0 rfl) _ rfl (run_min_ e23 rfl HM2.out)
    · intro a1 w1 hG hF
      obtain ⟨_, e20, rfl⟩ := hF.dp 8 20 (by kernel_rfl)
      obtain ⟨_, e24, rfl⟩ := hF.dp 12 24 (by kernel_rfl)
      exact s_is rfl (wants0 rfl) _ rfl (by simp only [execOp, e20, e24, Option.map, Sem.run_bind, HC2.out, Result.andThen_ok, Sem.run_pure])
    · intro a1 w1 hG hF
      exact s_same rfl (wants0 rfl) (.tmp 18) (.inl rfl) (hF.dp 6 18 (by kernel_rfl))
    · intro a1 w1 hG hF
      exact s_same rfl (wants0 rfl) (.tmp 25) (.inl rfl) (hF.dp 13 25 (by kernel_rfl))
  · intro vs w1 hG hf
    have z7 : vs 14 = .slice A k c := hf.2.2.2.2.2.2.2.2.2.2.2.2.2.2.1
    have z8 : vs 15 = .slice C k2 c2 := hf.2.2.2.2.2.2.2.2.2.2.2.2.2.2.2.1
    clear hf
    simp only [putAll, Nat.zero_add, Nat.reduceAdd, z7, z8]
    have hG1 := (Gr.drew w0).trans hG
    have hX1 := hG1.rd hrX0
    have hY1 := hG1.rd hrY0
    have hj1 := hG1.rd hrj0
    have hh1 := hG1.rd hrh0
    have h31 := h3.gr hG1
    have hB1 : Below w.heap.size w w1 := Below.trans G0 (Below.mono hG1 G0.size)
    generalize w1 = w2 at hX1 hY1 hj1 hh1 h31 hB1 ⊢
    clear hG1 hG h3 h4 G0 hrX0 hrY0 hrj0 hrh0 hrX hrY hrj hrh hc40 hc41
    go_simp
    go_upto_region 3 with fail
    clear hcut hji
    refine wp_region_ssaL (by kernel_rfl) [IsV (.pointer (some ⟨g3, 0, none⟩)), IsV (.agg (u8s K).toArray), IsV (.pointer (some ⟨g3, 32, none⟩)), IsV (.agg (u8s N).toArray), IsV (.slice A k c), IsV (.slice B j d), RdV ((j + 16)) (S), IsV (.pointer (some ⟨g3, 0, none⟩)), IsV (.agg (u8s K).toArray), IsV (.pointer (some ⟨g3, 32, none⟩)), IsV (.agg (u8s N).toArray), IsV (.slice C k2 c2), IsV (.slice B j d), RdV ((j + 16)) (T), RdV ((j + 16)) (S), RdV ((j + 16)) (T)] (by kernel_rfl) ?_ ?_ ?_
    · intro φ hφ v w1 w2 h hg
      simp only [List.mem_cons, List.not_mem_nil, or_false] at hφ
      rcases hφ with rfl | rfl | rfl | rfl | rfl | rfl | rfl | rfl | rfl | rfl | rfl | rfl | rfl | rfl | rfl | rfl
      all_goals first | exact h | exact RdV.gr h hg
    · refine ⟨?_, ?_, ?_, ?_, ?_, ?_, ?_, ?_, ?_, ?_, ?_, ?_, ?_, ?_, ?_, ?_, trivial⟩
      · intro a1 w1 hG hF
        have e3 : a1.eval (.tmp 3) = .pointer (some ⟨g3, 0, none⟩) := hF.ol 3 (by kernel_rfl)
        exact s_is rfl (wants0 rfl) _ rfl (run_field (o := 0) (k := 31) Try.underlying25 rfl rfl (by kernel_rfl) e3)
      · intro a1 w1 hG hF
        obtain ⟨_, e31, rfl⟩ := hF.dp 0 31 (by kernel_rfl)
        exact s_wp rfl (wants0 rfl) (wp_load_mid _ _ rfl g3 0 e31 (u8s K) _ (Arr.rangeL (Arr.gr h31 ((Gr.drew w2).trans hG))) Try.underlying22 rfl iK ⟨_, rfl, rfl, Gr.refl _⟩)
      · intro a1 w1 hG hF
        have e3 : a1.eval (.tmp 3) = .pointer (some ⟨g3, 0, none⟩) := hF.ol 3 (by kernel_rfl)
        exact s_is rfl (wants0 rfl) _ rfl (run_field (o := 32) (k := 11) Try.underlying25 rfl rfl (by kernel_rfl) e3)
      · intro a1 w1 hG hF
        obtain ⟨_, e33, rfl⟩ := hF.dp 2 33 (by kernel_rfl)
        exact s_wp rfl (wants0 rfl) (wp_load_mid _ _ rfl g3 32 e33 (u8s N) _ (Arr.rangeR (Arr.gr h31 ((Gr.drew w2).trans hG)) hK) Try.underlying23 rfl iN ⟨_, rfl, rfl, Gr.refl _⟩)
      · intro a1 w1 hG hF
        exact s_old rfl (wants0 rfl) (.tmp 7) (.inr rfl) (.slice A k c) (hF.ol 7 (by kernel_rfl)) rfl
      · intro a1 w1 hG hF
        exact s_old rfl (wants0 rfl) (.tmp 2) (.inr rfl) (.slice B j d) (hF.ol 2 (by kernel_rfl)) rfl
      · intro a1 w1 hG hF
        obtain ⟨_, e32, rfl⟩ := hF.dp 1 32 (by kernel_rfl)
        obtain ⟨_, e34, rfl⟩ := hF.dp 3 34 (by kernel_rfl)
        obtain ⟨_, e35, rfl⟩ := hF.dp 4 35 (by kernel_rfl)
        obtain ⟨_, e36, rfl⟩ := hF.dp 5 36 (by kernel_rfl)
        exact s_call rfl (wants0 rfl) _ rfl _ _ (by simp only [execOp, resolve, invoke, List.map_toArray, List.map_cons, List.map_nil, e32, e34, e35, e36]; go_simp) ((HS.out w1 (((Gr.drew w2).trans hG).rd hX1) (((Gr.drew w2).trans hG).rd hj1)).mono fun e w2 ⟨v, he, ho, hb⟩ => ⟨_, he, RdV.own ho, hb⟩)
      · intro a1 w1 hG hF
        have e3 : a1.eval (.tmp 3) = .pointer (some ⟨g3, 0, none⟩) := hF.ol 3 (by kernel_rfl)
        exact s_is rfl (wants0 rfl) _ rfl (run_field (o := 0) (k := 31) Try.underlying25 rfl rfl (by kernel_rfl) e3)
      · intro a1 w1 hG hF
        obtain ⟨_, e38, rfl⟩ := hF.dp 7 38 (by kernel_rfl)
        exact s_wp rfl (wants0 rfl) (wp_load_mid _ _ rfl g3 0 e38 (u8s K) _ (Arr.rangeL (Arr.gr h31 ((Gr.drew w2).trans hG))) Try.underlying22 rfl iK ⟨_, rfl, rfl, Gr.refl _⟩)
      · intro a1 w1 hG hF
        have e3 : a1.eval (.tmp 3) = .pointer (some ⟨g3, 0, none⟩) := hF.ol 3 (by kernel_rfl)
        exact s_is rfl (wants0 rfl) _ rfl (run_field (o := 32) (k := 11) Try.underlying25 rfl rfl (by kernel_rfl) e3)
      · intro a1 w1 hG hF
        obtain ⟨_, e40, rfl⟩ := hF.dp 9 40 (by kernel_rfl)
        exact s_wp rfl (wants0 rfl) (wp_load_mid _ _ rfl g3 32 e40 (u8s N) _ (Arr.rangeR (Arr.gr h31 ((Gr.drew w2).trans hG)) hK) Try.underlying23 rfl iN ⟨_, rfl, rfl, Gr.refl _⟩)
      · intro a1 w1 hG hF
        exact s_old rfl (wants0 rfl) (.tmp 8) (.inr rfl) (.slice C k2 c2) (hF.ol 8 (by kernel_rfl)) rfl
      · intro a1 w1 hG hF
        exact s_old rfl (wants0 rfl) (.tmp 2) (.inr rfl) (.slice B j d) (hF.ol 2 (by kernel_rfl)) rfl
      · intro a1 w1 hG hF
        obtain ⟨_, e39, rfl⟩ := hF.dp 8 39 (by kernel_rfl)
        obtain ⟨_, e41, rfl⟩ := hF.dp 10 41 (by kernel_rfl)
        obtain ⟨_, e42, rfl⟩ := hF.dp 11 42 (by kernel_rfl)
        obtain ⟨_, e43, rfl⟩ := hF.dp 12 43 (by kernel_rfl)
        exact s_call rfl (wants0 rfl) _ rfl _ _ (by simp only [execOp, resolve, invoke, List.map_toArray, List.map_cons, List.map_nil, e39, e41, e42, e43]; go_simp) ((HT.out w1 (((Gr.drew w2).trans hG).rd hY1) (((Gr.drew w2).trans hG).rd hj1)).mono fun e w2 ⟨v, he, ho, hb⟩ => ⟨_, he, RdV.own ho, hb⟩)
      · intro a1 w1 hG hF
        exact s_same rfl (wants0 rfl) (.tmp 37) (.inl rfl) (hF.dp 6 37 (by kernel_rfl))
      · intro a1 w1 hG hF
        exact s_same rfl (wants0 rfl) (.tmp 44) (.inl rfl) (hF.dp 13 44 (by kernel_rfl))
    · intro vs w1 hG hf
      obtain ⟨A9, c9, z9, hc9, r9⟩ : RdV ((j + 16)) (S) (vs 14) w1 := hf.2.2.2.2.2.2.2.2.2.2.2.2.2.2.1
      obtain ⟨A10, c10, z10, hc10, r10⟩ : RdV ((j + 16)) (T) (vs 15) w1 := hf.2.2.2.2.2.2.2.2.2.2.2.2.2.2.2.1
      clear hf
      simp only [putAll, Nat.zero_add, Nat.reduceAdd, z9, z10]
      have hG3 := (Gr.drew w2).trans hG
      have hX3 := hG3.rd hX1
      have hh3 := hG3.rd hh1
      have hj3 := hG3.rd hj1
      have h33 := h31.gr hG3
      have hB3 := hB1.trans (hG3.mono hB1.size)
      generalize w1 = w3 at hX3 hh3 hj3 h33 hB3 r9 r10 ⊢
      clear hG3 hG hX1 hY1 hj1 hh1 h31 hB1 HS HT
      go_simp
      go_wp2_with fail
      refine wp_region_ssaL (by kernel_rfl) [IsV (.pointer (some ⟨g3, 0, none⟩)), IsV (.agg (u8s K).toArray), IsV (.pointer (some ⟨g3, 32, none⟩)), IsV (.agg (u8s N).toArray), IsV (.slice A k c), IsV (.slice B j d), IsV (.slice B j d), IsV (.int .i64 ((j : Nat) : Int)), IsV (.int .i64 ((h : Nat) : Int)), IsV (.slice B h d), RdV ((h + 16)) (H), RdV ((h + 16)) (H)] (by kernel_rfl) ?_ ?_ ?_
      · intro φ hφ v w1 w2 h hg
        simp only [List.mem_cons, List.not_mem_nil, or_false] at hφ
        rcases hφ with rfl | rfl | rfl | rfl | rfl | rfl | rfl | rfl | rfl | rfl | rfl | rfl
        all_goals first | exact h | exact RdV.gr h hg
      · refine ⟨?_, ?_, ?_, ?_, ?_, ?_, ?_, ?_, ?_, ?_, ?_, ?_, trivial⟩
        · intro a1 w1 hG hF
          have e3 : a1.eval (.tmp 3) = .pointer (some ⟨g3, 0, none⟩) := hF.ol 3 (by kernel_rfl)
          exact s_is rfl (wants0 rfl) _ rfl (run_field (o := 0) (k := 31) Try.underlying25 rfl rfl (by kernel_rfl) e3)
        · intro a1 w1 hG hF
          obtain ⟨_, e45, rfl⟩ := hF.dp 0 45 (by kernel_rfl)
          exact s_wp rfl (wants0 rfl) (wp_load_mid _ _ rfl g3 0 e45 (u8s K) _ (Arr.rangeL (Arr.gr h33 ((Gr.drew w3).trans hG))) Try.underlying22 rfl iK ⟨_, rfl, rfl, Gr.refl _⟩)
        · intro a1 w1 hG hF
          have e3 : a1.eval (.tmp 3) = .pointer (some ⟨g3, 0, none⟩) := hF.ol 3 (by kernel_rfl)
          exact s_is rfl (wants0 rfl) _ rfl (run_field (o := 32) (k := 11) Try.underlying25 rfl rfl (by kernel_rfl) e3)
        · intro a1 w1 hG hF
          obtain ⟨_, e47, rfl⟩ := hF.dp 2 47 (by kernel_rfl)
          exact s_wp rfl (wants0 rfl) (wp_load_mid _ _ rfl g3 32 e47 (u8s N) _ (Arr.rangeR (Arr.gr h33 ((Gr.drew w3).trans hG)) hK) Try.underlying23 rfl iN ⟨_, rfl, rfl, Gr.refl _⟩)
        · intro a1 w1 hG hF
          exact s_old rfl (wants0 rfl) (.tmp 7) (.inr rfl) (.slice A k c) (hF.ol 7 (by kernel_rfl)) rfl
        · intro a1 w1 hG hF
          exact s_old rfl (wants0 rfl) (.tmp 2) (.inr rfl) (.slice B j d) (hF.ol 2 (by kernel_rfl)) rfl
        · intro a1 w1 hG hF
          exact s_old rfl (wants0 rfl) (.tmp 2) (.inr rfl) (.slice B j d) (hF.ol 2 (by kernel_rfl)) rfl
        · intro a1 w1 hG hF
          obtain ⟨_, e51, rfl⟩ := hF.dp 6 51 (by kernel_rfl)
          exact s_is rfl (wants0 rfl) _ rfl (run_len_slice Try.underlying26 e51)
        · intro a1 w1 hG hF
          obtain ⟨_, e52, rfl⟩ := hF.dp 7 52 (by kernel_rfl)
          exact s_is rfl (wants0 rfl) _ rfl (by rw [HHJ.out]; exact run_quo2 e52 hj9 rfl)
        · intro a1 w1 hG hF
          obtain ⟨_, e50, rfl⟩ := hF.dp 5 50 (by kernel_rfl)
          obtain ⟨_, e53, rfl⟩ := hF.dp 8 53 (by kernel_rfl)
          exact s_is rfl (wants0 rfl) _ rfl (by simp only [execOp, e50, e53, Option.map, Sem.run_bind, HCA.out B j d h (by omega), Result.andThen_ok, Sem.run_pure])
        · intro a1 w1 hG hF
          obtain ⟨_, e46, rfl⟩ := hF.dp 1 46 (by kernel_rfl)
          obtain ⟨_, e48, rfl⟩ := hF.dp 3 48 (by kernel_rfl)
          obtain ⟨_, e49, rfl⟩ := hF.dp 4 49 (by kernel_rfl)
          obtain ⟨_, e54, rfl⟩ := hF.dp 9 54 (by kernel_rfl)
          exact s_call rfl (wants0 rfl) _ rfl _ _ (by simp only [execOp, resolve, invoke, List.map_toArray, List.map_cons, List.map_nil, e46, e48, e49, e54]; go_simp) ((HH.out w1 (((Gr.drew w3).trans hG).rd hX3) (((Gr.drew w3).trans hG).rd hh3)).mono fun e w2 ⟨v, he, ho, hb⟩ => ⟨_, he, RdV.own ho, hb⟩)
        · intro a1 w1 hG hF
          exact s_same rfl (wants0 rfl) (.tmp 55) (.inl rfl) (hF.dp 10 55 (by kernel_rfl))
      · intro vs w1 hG hf
        obtain ⟨A11, c11, z11, hc11, r11⟩ : RdV ((h + 16)) (H) (vs 11) w1 := hf.2.2.2.2.2.2.2.2.2.2.2.1
        clear hf
        simp only [putAll, Nat.zero_add, Nat.reduceAdd, z11]
        have hG4 := (Gr.drew w3).trans hG
        have r94 := hG4.rd r9
        have r104 := hG4.rd r10
        have hj4 := hG4.rd hj3
        have hB4 := hB3.trans (hG4.mono hB3.size)
        have r94j : Rd w1 A9 j (u8s (S.take j)) := by rw [← u8s_take]; exact r94.take (by omega)
        have r94h : Rd w1 A9 h (u8s (S.take h)) := by rw [← u8s_take]; exact r94.take (by omega)
        have r104j : Rd w1 A10 j (u8s (S.take j)) := by rw [← HTS.out, ← u8s_take]; exact r104.take (by omega)
        have r11h : Rd w1 A11 h (u8s (S.take h)) := by rw [← HHS.out, ← u8s_take]; exact r11.take (by omega)
        generalize w1 = w4 at r94 r104 r11 hj4 hB4 r94j r94h r104j r11h ⊢
        clear hG4 hG hX3 hh3 hj3 h33 hB3 HH
        go_simp
        go_wp2_with fail
        refine wp_region_ssaL (by kernel_rfl) [IsV (.bool true), IsV (.bool true), IsV (.slice A9 (j + 16) c9), IsV (.int .i64 (((j + 16) : Nat) : Int)), IsV (.slice B j d), IsV (.int .i64 ((j : Nat) : Int)), IsV (.int .i64 (((j + 16) : Nat) : Int)), IsV (.bool true), IsV (.bool true), IsV (.bool true), IsV (.slice A10 (j + 16) c10), IsV (.int .i64 (((j + 16) : Nat) : Int)), IsV (.slice A9 (j + 16) c9), IsV (.int .i64 (((j + 16) : Nat) : Int)), IsV (.bool true), IsV (.bool true), IsV (.bool true), IsV (.slice A9 (j + 16) c9), IsV (.slice B j d), IsV (.int .i64 ((j : Nat) : Int)), IsV (.slice A9 j c9), IsV (.string ⟨(S.take j).toArray⟩), IsV (.slice A10 (j + 16) c10), IsV (.slice B j d), IsV (.int .i64 ((j : Nat) : Int)), IsV (.slice A10 j c10), IsV (.string ⟨(S.take j).toArray⟩), IsV (.bool true), IsV (.bool true), IsV (.bool true), IsV (.slice A11 (h + 16) c11), IsV (.int .i64 (((h + 16) : Nat) : Int)), IsV (.slice B j d), IsV (.int .i64 ((j : Nat) : Int)), IsV (.int .i64 ((h : Nat) : Int)), IsV (.bool true), IsV (.bool true), IsV (.bool true), IsV (.slice A11 (h + 16) c11), IsV (.slice B j d), IsV (.int .i64 ((j : Nat) : Int)), IsV (.int .i64 ((h : Nat) : Int)), IsV (.slice A11 h c11), IsV (.string ⟨(S.take h).toArray⟩), IsV (.slice A9 (j + 16) c9), IsV (.slice B j d), IsV (.int .i64 ((j : Nat) : Int)), IsV (.int .i64 ((h : Nat) : Int)), IsV (.slice A9 h c9), IsV (.string ⟨(S.take h).toArray⟩), IsV (.bool true), IsV (.bool true), IsV (.bool true)] (by kernel_rfl) ?_ ?_ ?_
        · intro φ hφ v w1 w2 h hg
          simp only [List.mem_cons, List.not_mem_nil, or_false] at hφ
          rcases hφ with rfl | rfl | rfl | rfl | rfl | rfl | rfl | rfl | rfl | rfl | rfl | rfl | rfl | rfl | rfl | rfl | rfl | rfl | rfl | rfl | rfl | rfl | rfl | rfl | rfl | rfl | rfl | rfl | rfl | rfl | rfl | rfl | rfl | rfl | rfl | rfl | rfl | rfl | rfl | rfl | rfl | rfl | rfl | rfl | rfl | rfl | rfl | rfl | rfl | rfl | rfl | rfl | rfl
          all_goals first | exact h | exact RdV.gr h hg
        · refine ⟨?_, ?_, ?_, ?_, ?_, ?_, ?_, ?_, ?_, ?_, ?_, ?_, ?_, ?_, ?_, ?_, ?_, ?_, ?_, ?_, ?_, ?_, ?_, ?_, ?_, ?_, ?_, ?_, ?_, ?_, ?_, ?_, ?_, ?_, ?_, ?_, ?_, ?_, ?_, ?_, ?_, ?_, ?_, ?_, ?_, ?_, ?_, ?_, ?_, ?_, ?_, ?_, ?_, trivial⟩
          · intro a1 w1 hG hF
            exact s_call rfl (wants0 rfl) _ rfl _ _ (by simp only [execOp, resolve, invoke, List.map_toArray, List.map_nil]; go_simp) ((seals_any w1).mono fun e w2 ⟨he, hb⟩ => ⟨_, he, rfl, hb⟩)
          · intro a1 w1 hG hF
            exact s_same rfl (wants0 rfl) (.tmp 56) (.inr rfl) (hF.dp 0 56 (by kernel_rfl))
          · intro a1 w1 hG hF
            exact s_old rfl (wantsG hF 1 57 true rfl (by kernel_rfl) rfl) (.tmp 9) (.inr rfl) (.slice A9 (j + 16) c9) (hF.ol 9 (by kernel_rfl)) rfl
          · intro a1 w1 hG hF
            obtain ⟨_, e58, rfl⟩ := hF.dp 2 58 (by kernel_rfl)
            exact s_is rfl (wantsG hF 1 57 true rfl (by kernel_rfl) rfl) _ rfl (run_len_slice Try.underlying26 e58)
          · intro a1 w1 hG hF
            exact s_old rfl (wantsG hF 1 57 true rfl (by kernel_rfl) rfl) (.tmp 2) (.inr rfl) (.slice B j d) (hF.ol 2 (by kernel_rfl)) rfl
          · intro a1 w1 hG hF
            obtain ⟨_, e60, rfl⟩ := hF.dp 4 60 (by kernel_rfl)
            exact s_is rfl (wantsG hF 1 57 true rfl (by kernel_rfl) rfl) _ rfl (run_len_slice Try.underlying26 e60)
          · intro a1 w1 hG hF
            obtain ⟨_, e61, rfl⟩ := hF.dp 5 61 (by kernel_rfl)
            exact s_is rfl (wantsG hF 1 57 true rfl (by kernel_rfl) rfl) _ rfl (run_addN (a := j) (b := 16) e61 rfl (by omega))
          · intro a1 w1 hG hF
            obtain ⟨_, e59, rfl⟩ := hF.dp 3 59 (by kernel_rfl)
            obtain ⟨_, e62, rfl⟩ := hF.dp 6 62 (by kernel_rfl)
            exact s_is rfl (wantsG hF 1 57 true rfl (by kernel_rfl) rfl) _ rfl (by simp only [execOp, e59, e62]; go_simp)
          · intro a1 w1 hG hF
            obtain ⟨_, e57, rfl⟩ := hF.dp 1 57 (by kernel_rfl)
            obtain ⟨_, e63, rfl⟩ := hF.dp 7 63 (by kernel_rfl)
            exact s_pick rfl (wants0 rfl) (.tmp 57) (.tmp 63) _ rfl e57 _ e63 rfl
          · intro a1 w1 hG hF
            exact s_same rfl (wants0 rfl) (.tmp 64) (.inr rfl) (hF.dp 8 64 (by kernel_rfl))
          · intro a1 w1 hG hF
            exact s_old rfl (wantsG hF 9 65 true rfl (by kernel_rfl) rfl) (.tmp 10) (.inr rfl) (.slice A10 (j + 16) c10) (hF.ol 10 (by kernel_rfl)) rfl
          · intro a1 w1 hG hF
            obtain ⟨_, e66, rfl⟩ := hF.dp 10 66 (by kernel_rfl)
            exact s_is rfl (wantsG hF 9 65 true rfl (by kernel_rfl) rfl) _ rfl (run_len_slice Try.underlying26 e66)
          · intro a1 w1 hG hF
            exact s_old rfl (wantsG hF 9 65 true rfl (by kernel_rfl) rfl) (.tmp 9) (.inr rfl) (.slice A9 (j + 16) c9) (hF.ol 9 (by kernel_rfl)) rfl
          · intro a1 w1 hG hF
            obtain ⟨_, e68, rfl⟩ := hF.dp 12 68 (by kernel_rfl)
            exact s_is rfl (wantsG hF 9 65 true rfl (by kernel_rfl) rfl) _ rfl (run_len_slice Try.underlying26 e68)
          · intro a1 w1 hG hF
            obtain ⟨_, e67, rfl⟩ := hF.dp 11 67 (by kernel_rfl)
            obtain ⟨_, e69, rfl⟩ := hF.dp 13 69 (by kernel_rfl)
            exact s_is rfl (wantsG hF 9 65 true rfl (by kernel_rfl) rfl) _ rfl (by simp only [execOp, e67, e69]; go_simp)
          · intro a1 w1 hG hF
            obtain ⟨_, e65, rfl⟩ := hF.dp 9 65 (by kernel_rfl)
            obtain ⟨_, e70, rfl⟩ := hF.dp 14 70 (by kernel_rfl)
            exact s_pick rfl (wants0 rfl) (.tmp 65) (.tmp 70) _ rfl e65 _ e70 rfl
          · intro a1 w1 hG hF
            exact s_same rfl (wants0 rfl) (.tmp 71) (.inr rfl) (hF.dp 15 71 (by kernel_rfl))
          · intro a1 w1 hG hF
            exact s_old rfl (wantsG hF 16 72 true rfl (by kernel_rfl) rfl) (.tmp 9) (.inr rfl) (.slice A9 (j + 16) c9) (hF.ol 9 (by kernel_rfl)) rfl
          · intro a1 w1 hG hF
            exact s_old rfl (wantsG hF 16 72 true rfl (by kernel_rfl) rfl) (.tmp 2) (.inr rfl) (.slice B j d) (hF.ol 2 (by kernel_rfl)) rfl
          · intro a1 w1 hG hF
            obtain ⟨_, e74, rfl⟩ := hF.dp 18 74 (by kernel_rfl)
            exact s_is rfl (wantsG hF 16 72 true rfl (by kernel_rfl) rfl) _ rfl (run_len_slice Try.underlying26 e74)
          · intro a1 w1 hG hF
            obtain ⟨_, e73, rfl⟩ := hF.dp 17 73 (by kernel_rfl)
            obtain ⟨_, e75, rfl⟩ := hF.dp 19 75 (by kernel_rfl)
            exact s_is rfl (wantsG hF 16 72 true rfl (by kernel_rfl) rfl) _ rfl (by simp only [execOp, e73, e75, Option.map, Sem.run_bind, HCA.out A9 (j + 16) c9 j (by omega), Result.andThen_ok, Sem.run_pure])
          · intro a1 w1 hG hF
            obtain ⟨_, e76, rfl⟩ := hF.dp 20 76 (by kernel_rfl)
            exact s_str rfl (wantsG hF 16 72 true rfl (by kernel_rfl) rfl) 26 9 5 (.tmp 76) rfl Try.underlying26 Try.underlying5 Try.underlying9 _ _ _ (S.take j) e76 (((Gr.drew w4).trans hG).rd r94j) rfl
          · intro a1 w1 hG hF
            exact s_old rfl (wantsG hF 16 72 true rfl (by kernel_rfl) rfl) (.tmp 10) (.inr rfl) (.slice A10 (j + 16) c10) (hF.ol 10 (by kernel_rfl)) rfl
          · intro a1 w1 hG hF
            exact s_old rfl (wantsG hF 16 72 true rfl (by kernel_rfl) rfl) (.tmp 2) (.inr rfl) (.slice B j d) (hF.ol 2 (by kernel_rfl)) rfl
          · intro a1 w1 hG hF
            obtain ⟨_, e79, rfl⟩ := hF.dp 23 79 (by kernel_rfl)
            exact s_is rfl (wantsG hF 16 72 true rfl (by kernel_rfl) rfl) _ rfl (run_len_slice Try.underlying26 e79)
          · intro a1 w1 hG hF
            obtain ⟨_, e78, rfl⟩ := hF.dp 22 78 (by kernel_rfl)
            obtain ⟨_, e80, rfl⟩ := hF.dp 24 80 (by kernel_rfl)
            exact s_is rfl (wantsG hF 16 72 true rfl (by kernel_rfl) rfl) _ rfl (by simp only [execOp, e78, e80, Option.map, Sem.run_bind, HCA.out A10 (j + 16) c10 j (by omega), Result.andThen_ok, Sem.run_pure])
          · intro a1 w1 hG hF
            obtain ⟨_, e81, rfl⟩ := hF.dp 25 81 (by kernel_rfl)
            exact s_str rfl (wantsG hF 16 72 true rfl (by kernel_rfl) rfl) 26 9 5 (.tmp 81) rfl Try.underlying26 Try.underlying5 Try.underlying9 _ _ _ (S.take j) e81 (((Gr.drew w4).trans hG).rd r104j) rfl
          · intro a1 w1 hG hF
            obtain ⟨_, e77, rfl⟩ := hF.dp 21 77 (by kernel_rfl)
            obtain ⟨_, e82, rfl⟩ := hF.dp 26 82 (by kernel_rfl)
            exact s_is rfl (wantsG hF 16 72 true rfl (by kernel_rfl) rfl) _ rfl (by simp only [execOp, e77, e82]; go_simp)
          · intro a1 w1 hG hF
            obtain ⟨_, e72, rfl⟩ := hF.dp 16 72 (by kernel_rfl)
            obtain ⟨_, e83, rfl⟩ := hF.dp 27 83 (by kernel_rfl)
            exact s_pick rfl (wants0 rfl) (.tmp 72) (.tmp 83) _ rfl e72 _ e83 rfl
          · intro a1 w1 hG hF
            exact s_same rfl (wants0 rfl) (.tmp 84) (.inr rfl) (hF.dp 28 84 (by kernel_rfl))
          · intro a1 w1 hG hF
            exact s_old rfl (wantsG hF 29 85 true rfl (by kernel_rfl) rfl) (.tmp 11) (.inr rfl) (.slice A11 (h + 16) c11) (hF.ol 11 (by kernel_rfl)) rfl
          · intro a1 w1 hG hF
            obtain ⟨_, e86, rfl⟩ := hF.dp 30 86 (by kernel_rfl)
            exact s_is rfl (wantsG hF 29 85 true rfl (by kernel_rfl) rfl) _ rfl (run_len_slice Try.underlying26 e86)
          · intro a1 w1 hG hF
            exact s_old rfl (wantsG hF 29 85 true rfl (by kernel_rfl) rfl) (.tmp 2) (.inr rfl) (.slice B j d) (hF.ol 2 (by kernel_rfl)) rfl
          · intro a1 w1 hG hF
            obtain ⟨_, e88, rfl⟩ := hF.dp 32 88 (by kernel_rfl)
            exact s_is rfl (wantsG hF 29 85 true rfl (by kernel_rfl) rfl) _ rfl (run_len_slice Try.underlying26 e88)
          · intro a1 w1 hG hF
            obtain ⟨_, e89, rfl⟩ := hF.dp 33 89 (by kernel_rfl)
            exact s_is rfl (wantsG hF 29 85 true rfl (by kernel_rfl) rfl) _ rfl (by rw [HHJ.out]; exact run_quo2 e89 hj9 rfl)
          · intro a1 w1 hG hF
            obtain ⟨_, e87, rfl⟩ := hF.dp 31 87 (by kernel_rfl)
            obtain ⟨_, e90, rfl⟩ := hF.dp 34 90 (by kernel_rfl)
            exact s_is rfl (wantsG hF 29 85 true rfl (by kernel_rfl) rfl) _ rfl (run_geqT e87 e90 (by omega))
          · intro a1 w1 hG hF
            obtain ⟨_, e85, rfl⟩ := hF.dp 29 85 (by kernel_rfl)
            obtain ⟨_, e91, rfl⟩ := hF.dp 35 91 (by kernel_rfl)
            exact s_pick rfl (wants0 rfl) (.tmp 85) (.tmp 91) _ rfl e85 _ e91 rfl
          · intro a1 w1 hG hF
            exact s_same rfl (wants0 rfl) (.tmp 92) (.inr rfl) (hF.dp 36 92 (by kernel_rfl))
          · intro a1 w1 hG hF
            exact s_old rfl (wantsG hF 37 93 true rfl (by kernel_rfl) rfl) (.tmp 11) (.inr rfl) (.slice A11 (h + 16) c11) (hF.ol 11 (by kernel_rfl)) rfl
          · intro a1 w1 hG hF
            exact s_old rfl (wantsG hF 37 93 true rfl (by kernel_rfl) rfl) (.tmp 2) (.inr rfl) (.slice B j d) (hF.ol 2 (by kernel_rfl)) rfl
          · intro a1 w1 hG hF
            obtain ⟨_, e95, rfl⟩ := hF.dp 39 95 (by kernel_rfl)
            exact s_is rfl (wantsG hF 37 93 true rfl (by kernel_rfl) rfl) _ rfl (run_len_slice Try.underlying26 e95)
          · intro a1 w1 hG hF
            obtain ⟨_, e96, rfl⟩ := hF.dp 40 96 (by kernel_rfl)
            exact s_is rfl (wantsG hF 37 93 true rfl (by kernel_rfl) rfl) _ rfl (by rw [HHJ.out]; exact run_quo2 e96 hj9 rfl)
          · intro a1 w1 hG hF
            obtain ⟨_, e94, rfl⟩ := hF.dp 38 94 (by kernel_rfl)
            obtain ⟨_, e97, rfl⟩ := hF.dp 41 97 (by kernel_rfl)
            exact s_is rfl (wantsG hF 37 93 true rfl (by kernel_rfl) rfl) _ rfl (by simp only [execOp, e94, e97, Option.map, Sem.run_bind, HCA.out A11 (h + 16) c11 h (by omega), Result.andThen_ok, Sem.run_pure])
          · intro a1 w1 hG hF
            obtain ⟨_, e98, rfl⟩ := hF.dp 42 98 (by kernel_rfl)
            exact s_str rfl (wantsG hF 37 93 true rfl (by kernel_rfl) rfl) 26 9 5 (.tmp 98) rfl Try.underlying26 Try.underlying5 Try.underlying9 _ _ _ (S.take h) e98 (((Gr.drew w4).trans hG).rd r11h) rfl
          · intro a1 w1 hG hF
            exact s_old rfl (wantsG hF 37 93 true rfl (by kernel_rfl) rfl) (.tmp 9) (.inr rfl) (.slice A9 (j + 16) c9) (hF.ol 9 (by kernel_rfl)) rfl
          · intro a1 w1 hG hF
            exact s_old rfl (wantsG hF 37 93 true rfl (by kernel_rfl) rfl) (.tmp 2) (.inr rfl) (.slice B j d) (hF.ol 2 (by kernel_rfl)) rfl
          · intro a1 w1 hG hF
            obtain ⟨_, e101, rfl⟩ := hF.dp 45 101 (by kernel_rfl)
            exact s_is rfl (wantsG hF 37 93 true rfl (by kernel_rfl) rfl) _ rfl (run_len_slice Try.underlying26 e101)
          · intro a1 w1 hG hF
            obtain ⟨_, e102, rfl⟩ := hF.dp 46 102 (by kernel_rfl)
            exact s_is rfl (wantsG hF 37 93 true rfl (by kernel_rfl) rfl) _ rfl (by rw [HHJ.out]; exact run_quo2 e102 hj9 rfl)
          · intro a1 w1 hG hF
            obtain ⟨_, e100, rfl⟩ := hF.dp 44 100 (by kernel_rfl)
            obtain ⟨_, e103, rfl⟩ := hF.dp 47 103 (by kernel_rfl)
            exact s_is rfl (wantsG hF 37 93 true rfl (by kernel_rfl) rfl) _ rfl (by simp only [execOp, e100, e103, Option.map, Sem.run_bind, HCA.out A9 (j + 16) c9 h (by omega), Result.andThen_ok, Sem.run_pure])
          · intro a1 w1 hG hF
            obtain ⟨_, e104, rfl⟩ := hF.dp 48 104 (by kernel_rfl)
            exact s_str rfl (wantsG hF 37 93 true rfl (by kernel_rfl) rfl) 26 9 5 (.tmp 104) rfl Try.underlying26 Try.underlying5 Try.underlying9 _ _ _ (S.take h) e104 (((Gr.drew w4).trans hG).rd r94h) rfl
          · intro a1 w1 hG hF
            obtain ⟨_, e99, rfl⟩ := hF.dp 43 99 (by kernel_rfl)
            obtain ⟨_, e105, rfl⟩ := hF.dp 49 105 (by kernel_rfl)
            exact s_is rfl (wantsG hF 37 93 true rfl (by kernel_rfl) rfl) _ rfl (by simp only [execOp, e99, e105]; go_simp)
          · intro a1 w1 hG hF
            obtain ⟨_, e93, rfl⟩ := hF.dp 37 93 (by kernel_rfl)
            obtain ⟨_, e106, rfl⟩ := hF.dp 50 106 (by kernel_rfl)
            exact s_pick rfl (wants0 rfl) (.tmp 93) (.tmp 106) _ rfl e93 _ e106 rfl
          · intro a1 w1 hG hF
            exact s_same rfl (wants0 rfl) (.tmp 107) (.inl rfl) (hF.dp 51 107 (by kernel_rfl))
        · intro vs w1 hG hf
          have z6 : vs 52 = .bool true := hf.2.2.2.2.2.2.2.2.2.2.2.2.2.2.2.2.2.2.2.2.2.2.2.2.2.2.2.2.2.2.2.2.2.2.2.2.2.2.2.2.2.2.2.2.2.2.2.2.2.2.2.2.1
          clear hf
          simp only [putAll, Nat.zero_add, Nat.reduceAdd, z6]
          go_simp
          go_wp2_with fail
          go_ret
          exact ⟨rfl, hB4.trans (((Gr.drew w4).trans hG).mono hB4.size)⟩
end Go.Proofs.Ythffodfnnjejnaa

