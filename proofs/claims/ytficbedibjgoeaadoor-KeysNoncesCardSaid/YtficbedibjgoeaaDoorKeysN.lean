/- The walks of keys.Nonce and of the law's example. No condition. -/
import Derived.Test.YtficbedibjgoeaaDoorKeysQ
import Derived.Test.YtficbedibjgoeaaDoorResCT
import Derived.Deep.Cut
namespace Go.Proofs.YtficbedibjgoeaaDoor
open Go.RowKit
theorem own_rangeK {w : World} {base : Nat} {e : TypeId} {n : Nat} {v : Value} {l : List UInt8} (h : w.ownsRow base e 1 v n (u8s l)) (hn : 0 < n) :
    ∃ g c, v = .slice (some ⟨g, 0, none⟩) n c ∧ n ≤ c ∧ base ≤ g ∧ g < w.heap.size ∧ w.rangeAt g 0 (u8s l) := by
  obtain ⟨g, c, rfl, hc, hb, hl, _⟩ := own_at h hn
  exact ⟨g, c, rfl, hc, hb, hl, fun j v hv => by have := h.cells (g := g) rfl j v hv; rw [add_row] at this; exact this⟩
theorem info12 (l : List UInt8) (h : l.length = 12) : (Tryd.prog.info? 33).map (·.size) = some (u8s l).length := by simp only [u8s_length, h]; kernel_rfl
theorem infoBl (l : List UInt8) (h : l.length = 32) : (Tryd.prog.info? 24).map (·.size) = some (u8s l).length := by simp only [u8s_length, h]; kernel_rfl
set_option maxRecDepth 100000 in
set_option maxHeartbeats 4000000 in
theorem nonce_any (c k : Nat) (hc1 : 1 ≤ c) (hc2 : c ≤ 16) (hk1 : 1 ≤ k) (hk2 : k ≤ 4611686018427387904) (w : World) :
    Calls Tryd.prog 11 #[.int .i64 (c : Int), .int .i64 (k : Int)] w fun e w' => e = .returned (.tuple #[.agg (u8s (nonceL c k)).toArray, .int .i64 0]) ∧ Below w.heap.size w w' := by
  obtain ⟨i0, hi0, hz0, hz1, hz2⟩ := info_parts Tryd.info5
  obtain ⟨X, hX⟩ : ∃ X, X = nonceL c k := ⟨_, rfl⟩
  have hXl : X.length = 12 := by rw [hX]; simp
  have HX : Hid (u8s (beL 4 c) ++ u8s (beL 8 k) = u8s X) := by
    show _ = _
    rw [hX, nonceL, u8s_append]
  have HP4 : Hid (∀ w, Calls Tryd.prog 22 #[.int .u64 (c : Int), .int .i64 4] w fun e w' => ∃ v, e = .returned v ∧ w'.ownsRow w.heap.size 5 1 v 4 (u8s (beL 4 c)) ∧ Below w.heap.size w w') := fun w => putHigh_any c (by omega) 4 w
  have HP8 : Hid (∀ w, Calls Tryd.prog 22 #[.int .u64 (k : Int), .int .i64 8] w fun e w' => ∃ v, e = .returned v ∧ w'.ownsRow w.heap.size 5 1 v 8 (u8s (beL 8 k)) ∧ Below w.heap.size w w') := fun w => putHigh_any k (by omega) 8 w
  rw [← hX]
  clear hX
  have g1 : ¬ (c : Int) < 1 := by omega
  have g2 : ¬ (16 : Int) < (c : Int) := by omega
  have g3 : ¬ (k : Int) < 1 := by omega
  have g4' : ¬ (4611686018427387904 : Int) < (k : Int) := by omega
  have c16 : (c : Int) ≤ 16 := by omega
  have k62 : (k : Int) ≤ 4611686018427387904 := by omega
  have h4 : Arr (w.alloc (.cells (u8s (List.replicate 12 0)).toArray 33)) w.heap.size 33 (u8s (List.replicate 12 0)) := Arr.newAt rfl rfl
  have G0 : Gr w (w.alloc (.cells (u8s (List.replicate 12 0)).toArray 33)) := Gr.alloc _ _
  go_enter Tryd.func11, Tryd.ntmps11
  go_upto_region 1 with fail
  change Code.wp _ _ _ _ (w.alloc (.cells (u8s (List.replicate 12 0)).toArray 33))
  generalize w.alloc (.cells (u8s (List.replicate 12 0)).toArray 33) = w0 at h4 G0 ⊢
  obtain ⟨g4, hg4⟩ : ∃ g, g = w.heap.size := ⟨_, rfl⟩
  rw [← hg4] at h4
  simp only [← hg4]
  have HG4 := Lib.hid hg4
  clear hg4
  go_wp2_with fail
  refine (HP4.out w0).mono ?_
  rintro e w1 ⟨v1, rfl, ho1, hB1⟩
  go_wp2_with fail
  refine (HP8.out w1).mono ?_
  rintro e w2 ⟨v2, rfl, ho2, hB2⟩
  have ho12 := Gr.own hB2 ho1
  obtain ⟨A2, c2, rfl, _, _⟩ := own_form ho2
  have hr2 := Rd.of_own ho2
  have hB12 : Below w0.heap.size w0 w2 := hB1.trans (hB2.mono hB1.size)
  clear ho1 ho2 hB1 hB2
  go_wp2_with (at_builtin; go_must (refine wpList_app _ rfl (.tmp 24) (.tmp 27) 23 rfl w0.heap.size 5 i0 (.int .u8 0) 1 Tryd.underlying23 hi0 hz0 hz1 hz2 rfl v1 4 _ rfl ho12 A2 8 c2 _ rfl hr2 (u8s_oneCell _) (by omega) (by unfold maxLen; omega) hB12.size ?_))
  intro v3 w3 hA3
  have ho3 := hA3.own
  rw [HX.out] at ho3
  have hB3 := hB12.trans (hA3.below ho12 hB12.size)
  obtain ⟨g3, c3, rfl, hc3, _, _, hrg⟩ := own_rangeK ho3 (by omega)
  have h43 := h4.gr hB3
  have ha := fun w => run_arrAt (P := Tryd.prog) Tryd.underlying33 (A := some ⟨g3, 0, none⟩) (c := c3) (Nat.le_refl 12) w
  clear hA3 ho12 hB12 hr2 ho3 h4
  go_simp
  go_wp2_with first
    | (refine wpList_load_mid rfl 33 (.tmp 30) rfl g3 0 rfl (u8s X) _ hrg Tryd.underlying33 rfl (info12 X hXl) ?_)
    | (refine wpList_put h43 rfl 33 (.tmp 4) (.tmp 31) rfl (u8s X) rfl rfl (by simp [hXl]) (info12 X hXl) (u8s_oneCell _) ?_; intro w4 h44 hB4 _)
  refine bodyPost_ret (results_cell_tmp rfl _ _ g4 _ _ _ _ rfl h44 Tryd.underlying33 rfl (by have := info12 X hXl; simpa using this)) rfl ?_
  rw [HG4.out] at *
  exact ⟨rfl, Below.trans (Below.trans G0 (Below.mono hB3 G0.size)) hB4⟩
set_option maxRecDepth 100000 in
set_option maxHeartbeats 4000000 in
theorem nonce_no (a b : Int) (h : ¬ (1 ≤ a ∧ a ≤ 16 ∧ 1 ≤ b ∧ b ≤ 4611686018427387904)) (w : World) :
    Calls Tryd.prog 11 #[.int .i64 a, .int .i64 b] w fun e w' => e = .returned (.tuple #[.agg (u8s (List.replicate 12 0)).toArray, .int .i64 1]) ∧ Below w.heap.size w w' := by
  have h4 : Arr (w.alloc (.cells (u8s (List.replicate 12 0)).toArray 33)) w.heap.size 33 (u8s (List.replicate 12 0)) := Arr.newAt rfl rfl
  have G0 : Gr w (w.alloc (.cells (u8s (List.replicate 12 0)).toArray 33)) := Gr.alloc _ _
  by_cases h1 : a < 1
  · go_enter Tryd.func11, Tryd.ntmps11
    go_wp2_with (refine wpList_put h4 rfl 33 (.tmp 4) (.tmp 21) rfl (u8s (List.replicate 12 0)) rfl rfl rfl (info12 _ rfl) (u8s_oneCell _) ?_; intro w4 h44 hB4 _)
    refine bodyPost_ret (results_cell_tmp rfl _ _ w.heap.size _ _ _ _ rfl h44 Tryd.underlying33 rfl (by kernel_rfl)) rfl ?_
    exact ⟨rfl, Below.trans G0 hB4⟩
  · by_cases h2 : 16 < a
    · go_enter Tryd.func11, Tryd.ntmps11
      go_wp2_with (refine wpList_put h4 rfl 33 (.tmp 4) (.tmp 21) rfl (u8s (List.replicate 12 0)) rfl rfl rfl (info12 _ rfl) (u8s_oneCell _) ?_; intro w4 h44 hB4 _)
      refine bodyPost_ret (results_cell_tmp rfl _ _ w.heap.size _ _ _ _ rfl h44 Tryd.underlying33 rfl (by kernel_rfl)) rfl ?_
      exact ⟨rfl, Below.trans G0 hB4⟩
    · by_cases h3 : b < 1
      · go_enter Tryd.func11, Tryd.ntmps11
        go_wp2_with (refine wpList_put h4 rfl 33 (.tmp 4) (.tmp 21) rfl (u8s (List.replicate 12 0)) rfl rfl rfl (info12 _ rfl) (u8s_oneCell _) ?_; intro w4 h44 hB4 _)
        refine bodyPost_ret (results_cell_tmp rfl _ _ w.heap.size _ _ _ _ rfl h44 Tryd.underlying33 rfl (by kernel_rfl)) rfl ?_
        exact ⟨rfl, Below.trans G0 hB4⟩
      · have h5 : 4611686018427387904 < b := by omega
        go_enter Tryd.func11, Tryd.ntmps11
        go_wp2_with (refine wpList_put h4 rfl 33 (.tmp 4) (.tmp 21) rfl (u8s (List.replicate 12 0)) rfl rfl rfl (info12 _ rfl) (u8s_oneCell _) ?_; intro w4 h44 hB4 _)
        refine bodyPost_ret (results_cell_tmp rfl _ _ w.heap.size _ _ _ _ rfl h44 Tryd.underlying33 rfl (by kernel_rfl)) rfl ?_
        exact ⟨rfl, Below.trans G0 hB4⟩
set_option maxRecDepth 100000 in
set_option maxHeartbeats 4000000 in
theorem blind_no (M : List UInt8) (A : Option Addr) (n c : Nat) (h : n < 1 ∨ 64 < n) (w : World) :
    Calls Tryd.prog 7 #[.agg (u8s M).toArray, .slice A n c] w fun e w' => e = .returned (.tuple #[.agg (u8s (List.replicate 32 0)).toArray, .int .i64 1]) ∧ Below w.heap.size w w' := by
  have h4 : Arr ((w.alloc (.cells (u8s M).toArray 22)).alloc (.cells (u8s (List.replicate 32 0)).toArray 24)) (w.heap.size + 1) 24 (u8s (List.replicate 32 0)) := Arr.newAt (asz _ _) rfl
  have G0 : Gr w ((w.alloc (.cells (u8s M).toArray 22)).alloc (.cells (u8s (List.replicate 32 0)).toArray 24)) := (Gr.alloc _ _).trans (Gr.alloc _ _)
  by_cases h1 : n < 1
  · have g1 : (n : Int) < 1 := by omega
    go_enter Tryd.func7, Tryd.ntmps7
    go_wp2_with (refine wpList_put h4 rfl 24 (.tmp 4) (.tmp 16) rfl (u8s (List.replicate 32 0)) rfl rfl rfl (infoBl _ rfl) (u8s_oneCell _) ?_; intro w4 h44 hB4 _)
    refine bodyPost_ret (results_cell_tmp rfl _ _ (w.heap.size + 1) _ _ _ _ rfl h44 Tryd.underlying24 rfl (by kernel_rfl)) rfl ?_
    exact ⟨rfl, Below.trans G0 (hB4.mono (by omega))⟩
  · have g1 : ¬ (n : Int) < 1 := by omega
    have g2 : (64 : Int) < (n : Int) := by omega
    go_enter Tryd.func7, Tryd.ntmps7
    go_wp2_with (refine wpList_put h4 rfl 24 (.tmp 4) (.tmp 16) rfl (u8s (List.replicate 32 0)) rfl rfl rfl (infoBl _ rfl) (u8s_oneCell _) ?_; intro w4 h44 hB4 _)
    refine bodyPost_ret (results_cell_tmp rfl _ _ (w.heap.size + 1) _ _ _ _ rfl h44 Tryd.underlying24 rfl (by kernel_rfl)) rfl ?_
    exact ⟨rfl, Below.trans G0 (hB4.mono (by omega))⟩
set_option maxRecDepth 100000 in
set_option maxHeartbeats 4000000 in
theorem hides_any (w : World) : Calls Tryd.prog 8 #[] w fun e w' => e = .returned (.bool true) ∧ Below w.heap.size w w' := by
  obtain ⟨X, hX⟩ : ∃ X, X = nonceL 1 2 := ⟨_, rfl⟩
  have hXl : X.length = 12 := by rw [hX]; simp
  have hXs : (⟨X.toArray⟩ : ByteArray) = ⟨#[0, 0, 0, 1, 0, 0, 0, 0, 0, 0, 0, 2]⟩ := by rw [hX]; rfl
  have HN : Hid (∀ w, Calls Tryd.prog 11 #[.int .i64 1, .int .i64 2] w fun e w' => e = .returned (.tuple #[.agg (u8s X).toArray, .int .i64 0]) ∧ Below w.heap.size w w') := by
    intro w
    rw [hX]
    exact nonce_any 1 2 (by omega) (by omega) (by omega) (by omega) w
  have HS := Lib.hid hXs
  clear hX hXs
  go_enter Tryd.func8, Tryd.ntmps8
  go_wp2_with fail
  refine (HN.out w).mono ?_
  rintro e w1 ⟨rfl, hB1⟩
  clear HN
  go_wp2_with (refine wpList_new rfl 33 (.tmp 1) (.tmp 7) rfl _ (u8s X) rfl rfl rfl (by simp only [u8s_length, hXl]; rfl) (info12 X hXl) (u8s_oneCell _) ?_; intro w2 h1 hG2)
  have hB2 := hB1.trans (hG2.mono hB1.size)
  generalize w1.heap.size = g1 at h1 ⊢
  have hb := blind_no (List.replicate 32 0) none 0 0 (by omega) w2
  refine hb.mono ?_
  rintro e w3 ⟨rfl, hB3⟩
  have h13 := h1.gr hB3
  have hB4 := hB2.trans (hB3.mono hB2.size)
  clear hb h1 hB1 hG2 hB2 hB3
  go_upto_region 3 with (refine wpList_new rfl 24 (.tmp 3) (.tmp 12) rfl _ (u8s (List.replicate 32 0)) rfl rfl rfl rfl (infoBl _ rfl) (u8s_oneCell _) ?_; intro w4 h3 hG4)
  have h14 := h13.gr hG4
  have hB5 := hB4.trans (hG4.mono hB4.size)
  have hr1 := h14.rdAll hXl
  have hcut := fun w => run_cutAll (P := Tryd.prog) Tryd.underlying33 (by kernel_rfl) g1 w
  have hcv : (convert 23 9 (.slice (some ⟨g1, 0, none⟩) 12 12)).run Tryd.prog w4 = .ok (.string ⟨#[0, 0, 0, 1, 0, 0, 0, 0, 0, 0, 0, 2]⟩) w4 := by
    rw [← HS.out]
    exact run_str (P := Tryd.prog) (c := 12) w4 Tryd.underlying23 Tryd.underlying5 Tryd.underlying9 hr1
  clear h13 h14 hG4 hB4 h3
  go_wp2_with fail
  go_ret
  exact ⟨rfl, hB5⟩
end Go.Proofs.YtficbedibjgoeaaDoor

