/- The walk of the document's less. No condition. -/
import Derived.Test.YthffodfnnjejnaaPolU
namespace Go.Proofs.Ythffodfnnjejnaa
open Go.RowKit
theorem run_neI {P : Program} {ev : Operand → Value} {d : Option Tmp} {t T U : TypeId} {s : String} {af : Array Edge} {gd : Option (Nat × Bool)} {w : World} {x y : Operand} {a b : Nat} {c : Bool} (hc : c = !decide (a = b)) (h1 : ev x = .int .i64 a) (h2 : ev y = .int .i64 b) :
    (execOp ev ⟨d, .binOp .neq T x y U, t, s, af, gd⟩).run P w = .ok (.value (.bool c)) w := by
  subst hc
  simp only [execOp, h1, h2]
  go_simp
  by_cases h : a = b
  · simp [h]
  · simp [h]; omega
theorem run_ltI {P : Program} {ev : Operand → Value} {d : Option Tmp} {t T U : TypeId} {s : String} {af : Array Edge} {gd : Option (Nat × Bool)} {w : World} {x y : Operand} {a b : Nat} (h1 : ev x = .int .i64 a) (h2 : ev y = .int .i64 b) :
    (execOp ev ⟨d, .binOp .lss T x y U, t, s, af, gd⟩).run P w = .ok (.value (.bool (decide (a < b)))) w := by
  simp only [execOp, h1, h2]
  go_simp
set_option maxHeartbeats 4000000 in
theorem less_any (a b : List Nat) (ha : a.length = 34) (hb : b.length = 34) (hda : ∀ i, a.getD i 0 < 256) (hdb : ∀ i, b.getD i 0 < 256) (w : World) :
    Calls Try.prog 47 #[.agg (i64s a).toArray, .agg (i64s b).toArray] w fun e w' => e = .returned (.bool (decide (val256 a < val256 b))) ∧ Below w.heap.size w w' := by
  go_enter Try.func47, Try.ntmps47
  go_wp2_with fail
  generalize hW : (w.alloc _).alloc _ = W
  have h2 : Arr W w.heap.size 73 (i64s a) := by rw [← hW]; exact (Arr.newAt rfl rfl).alloc _
  have h3 : Arr W (w.heap.size + 1) 73 (i64s b) := by rw [← hW]; exact Arr.newAt (asz _ _) rfl
  have hB : Below w.heap.size w W := by rw [← hW]; exact ((Below.refl _ _).alloc (Nat.le_refl _) _).alloc (by rw [asz]; omega) _
  clear hW
  go_loopw [5] (fun i wr => ∃ r : Nat, r ≤ 34 ∧ i = .int .i64 ((r : Int) - 1) ∧ Hid (decide (val256 a < val256 b) = decide (val256 (a.take r) < val256 (b.take r))) ∧ Arr wr w.heap.size 73 (i64s a) ∧ Arr wr (w.heap.size + 1) 73 (i64s b) ∧ Below w.heap.size w wr) (fun i _ => (intOf i + 1).toNat)
  case atStart =>
    refine ⟨34, by omega, rfl, ?_, h2, h3, hB⟩
    show _ = _
    rw [List.take_of_length_le (by omega), List.take_of_length_le (by omega)]
  case round =>
    obtain ⟨r, hr, rfl, HD, h2, h3, hB⟩ := hrel
    rcases Nat.eq_zero_or_pos r with h0 | h0
    · subst h0
      have hf : decide (val256 a < val256 b) = false := by rw [HD.out]; rfl
      simp only [show ((0 : Nat) : Int) - 1 = -1 from rfl]
      have HF := Lib.hid hf
      clear hf
      go_wp2_with fail
      go_ret
      rw [HF.out]
      exact ⟨rfl, hB⟩
    · obtain ⟨k, rfl⟩ : ∃ k, r = k + 1 := ⟨r - 1, by omega⟩
      have hk : k < 34 := by omega
      rw [show ((k + 1 : Nat) : Int) - 1 = (k : Int) by omega]
      obtain ⟨x, hx⟩ : ∃ x, x = a.getD k 0 := ⟨_, rfl⟩
      obtain ⟨y, hy⟩ : ∃ y, y = b.getD k 0 := ⟨_, rfl⟩
      have c2 := fun (W : World) (h : Arr W w.heap.size 73 (i64s a)) => h.i64 (a := k) (by omega)
      have c3 := fun (W : World) (h : Arr W (w.heap.size + 1) 73 (i64s b)) => h.i64 (a := k) (by omega)
      rw [← hx] at c2
      rw [← hy] at c3
      by_cases hxy : x = y
      · have hs := less_same (a := a) (b := b) (k := k) (by omega) (by omega) (by rw [← hx, ← hy]; exact hxy)
        have HN : Hid (decide (val256 a < val256 b) = decide (val256 (a.take k) < val256 (b.take k))) := by show _ = _; rw [HD.out, hs]
        clear HD hs hx hy
        go_wp2_with fail
        refine wp_region_ssaL (by kernel_rfl) [IsV (.int .i64 (k : Nat)), IsV (.pointer (some ⟨w.heap.size, k, none⟩)), IsV (.int .i64 (x : Nat)), IsV (.int .i64 (k : Nat)), IsV (.pointer (some ⟨w.heap.size + 1, k, none⟩)), IsV (.int .i64 (y : Nat)), IsV (.bool false)] (by kernel_rfl) ?_ ?_ ?_
        · intro φ hφ v w1 w2 h hg
          simp only [List.mem_cons, List.not_mem_nil, or_false] at hφ
          rcases hφ with rfl | rfl | rfl | rfl | rfl | rfl | rfl
          all_goals first | exact h | exact RdV.gr h hg
        · refine ⟨?_, ?_, ?_, ?_, ?_, ?_, ?_, trivial⟩
          · intro a1 w1 hG hF
            exact s_old rfl (wants0 rfl) (.tmp 5) (.inr rfl) (.int .i64 (k : Nat)) (hF.ol 5 (by kernel_rfl)) rfl
          · intro a1 w1 hG hF
            have e2 : a1.eval (.tmp 2) = .pointer (some ⟨w.heap.size, 0, none⟩) := hF.ol 2 (by kernel_rfl)
            obtain ⟨_, e10, rfl⟩ := hF.dp 0 10 (by kernel_rfl)
            exact s_is rfl (wants0 rfl) _ rfl (run_idx Try.underlying73 (by kernel_rfl) e2 e10 (by omega))
          · intro a1 w1 hG hF
            obtain ⟨_, e11, rfl⟩ := hF.dp 1 11 (by kernel_rfl)
            exact s_is rfl (wants0 rfl) _ rfl (run_load1 Try.underlying3 e11 (c2 _ (h2.gr ((Gr.drew wr).trans hG))))
          · intro a1 w1 hG hF
            exact s_old rfl (wants0 rfl) (.tmp 5) (.inr rfl) (.int .i64 (k : Nat)) (hF.ol 5 (by kernel_rfl)) rfl
          · intro a1 w1 hG hF
            have e3 : a1.eval (.tmp 3) = .pointer (some ⟨w.heap.size + 1, 0, none⟩) := hF.ol 3 (by kernel_rfl)
            obtain ⟨_, e13, rfl⟩ := hF.dp 3 13 (by kernel_rfl)
            exact s_is rfl (wants0 rfl) _ rfl (run_idx Try.underlying73 (by kernel_rfl) e3 e13 (by omega))
          · intro a1 w1 hG hF
            obtain ⟨_, e14, rfl⟩ := hF.dp 4 14 (by kernel_rfl)
            exact s_is rfl (wants0 rfl) _ rfl (run_load1 Try.underlying3 e14 (c3 _ (h3.gr ((Gr.drew wr).trans hG))))
          · intro a1 w1 hG hF
            obtain ⟨_, e12, rfl⟩ := hF.dp 2 12 (by kernel_rfl)
            obtain ⟨_, e15, rfl⟩ := hF.dp 5 15 (by kernel_rfl)
            exact s_is rfl (wants0 rfl) _ rfl (run_neI (by simp [hxy]) e12 e15)
        · intro vs w1 hG hf
          have z16 : vs 6 = .bool false := hf.2.2.2.2.2.2.1
          clear hf
          simp only [putAll, Nat.zero_add, Nat.reduceAdd, z16]
          replace h2 := h2.gr ((Gr.drew wr).trans hG)
          replace h3 := h3.gr ((Gr.drew wr).trans hG)
          replace hB := hB.trans (((Gr.drew wr).trans hG).mono hB.size)
          clear hG z16 c2 c3 hxy
          go_simp
          go_wp2_with fail
          go_roundw
          case rel => exact ⟨k, by omega, rfl, HN, h2, h3, hB⟩
          case measure => simp [intOf]
      · have hs := less_step (a := a) (b := b) (k := k) (by omega) (by omega) hda hdb (by rw [← hx, ← hy]; exact hxy)
        rw [← hx, ← hy] at hs
        have HN : Hid (decide (val256 a < val256 b) = decide (x < y)) := by show _ = _; rw [HD.out, hs]
        clear HD hs hx hy
        go_wp2_with fail
        refine wp_region_ssaL (by kernel_rfl) [IsV (.int .i64 (k : Nat)), IsV (.pointer (some ⟨w.heap.size, k, none⟩)), IsV (.int .i64 (x : Nat)), IsV (.int .i64 (k : Nat)), IsV (.pointer (some ⟨w.heap.size + 1, k, none⟩)), IsV (.int .i64 (y : Nat)), IsV (.bool true)] (by kernel_rfl) ?_ ?_ ?_
        · intro φ hφ v w1 w2 h hg
          simp only [List.mem_cons, List.not_mem_nil, or_false] at hφ
          rcases hφ with rfl | rfl | rfl | rfl | rfl | rfl | rfl
          all_goals first | exact h | exact RdV.gr h hg
        · refine ⟨?_, ?_, ?_, ?_, ?_, ?_, ?_, trivial⟩
          · intro a1 w1 hG hF
            exact s_old rfl (wants0 rfl) (.tmp 5) (.inr rfl) (.int .i64 (k : Nat)) (hF.ol 5 (by kernel_rfl)) rfl
          · intro a1 w1 hG hF
            have e2 : a1.eval (.tmp 2) = .pointer (some ⟨w.heap.size, 0, none⟩) := hF.ol 2 (by kernel_rfl)
            obtain ⟨_, e10, rfl⟩ := hF.dp 0 10 (by kernel_rfl)
            exact s_is rfl (wants0 rfl) _ rfl (run_idx Try.underlying73 (by kernel_rfl) e2 e10 (by omega))
          · intro a1 w1 hG hF
            obtain ⟨_, e11, rfl⟩ := hF.dp 1 11 (by kernel_rfl)
            exact s_is rfl (wants0 rfl) _ rfl (run_load1 Try.underlying3 e11 (c2 _ (h2.gr ((Gr.drew wr).trans hG))))
          · intro a1 w1 hG hF
            exact s_old rfl (wants0 rfl) (.tmp 5) (.inr rfl) (.int .i64 (k : Nat)) (hF.ol 5 (by kernel_rfl)) rfl
          · intro a1 w1 hG hF
            have e3 : a1.eval (.tmp 3) = .pointer (some ⟨w.heap.size + 1, 0, none⟩) := hF.ol 3 (by kernel_rfl)
            obtain ⟨_, e13, rfl⟩ := hF.dp 3 13 (by kernel_rfl)
            exact s_is rfl (wants0 rfl) _ rfl (run_idx Try.underlying73 (by kernel_rfl) e3 e13 (by omega))
          · intro a1 w1 hG hF
            obtain ⟨_, e14, rfl⟩ := hF.dp 4 14 (by kernel_rfl)
            exact s_is rfl (wants0 rfl) _ rfl (run_load1 Try.underlying3 e14 (c3 _ (h3.gr ((Gr.drew wr).trans hG))))
          · intro a1 w1 hG hF
            obtain ⟨_, e12, rfl⟩ := hF.dp 2 12 (by kernel_rfl)
            obtain ⟨_, e15, rfl⟩ := hF.dp 5 15 (by kernel_rfl)
            exact s_is rfl (wants0 rfl) _ rfl (run_neI (by simp [hxy]) e12 e15)
        · intro vs w1 hG hf
          have z16 : vs 6 = .bool true := hf.2.2.2.2.2.2.1
          clear hf
          simp only [putAll, Nat.zero_add, Nat.reduceAdd, z16]
          replace h2 := h2.gr ((Gr.drew wr).trans hG)
          replace h3 := h3.gr ((Gr.drew wr).trans hG)
          replace hB := hB.trans (((Gr.drew wr).trans hG).mono hB.size)
          clear hG z16 hxy
          generalize w1 = W1 at h2 h3 hB ⊢
          go_simp
          go_wp2_with fail
          refine wp_region_ssaL (by kernel_rfl) [IsV (.int .i64 (k : Nat)), IsV (.pointer (some ⟨w.heap.size, k, none⟩)), IsV (.int .i64 (x : Nat)), IsV (.int .i64 (k : Nat)), IsV (.pointer (some ⟨w.heap.size + 1, k, none⟩)), IsV (.int .i64 (y : Nat)), IsV (.bool (decide (x < y))), IsV (.bool (decide (x < y)))] (by kernel_rfl) ?_ ?_ ?_
          · intro φ hφ v w1 w2 h hg
            simp only [List.mem_cons, List.not_mem_nil, or_false] at hφ
            rcases hφ with rfl | rfl | rfl | rfl | rfl | rfl | rfl | rfl
            all_goals first | exact h | exact RdV.gr h hg
          · refine ⟨?_, ?_, ?_, ?_, ?_, ?_, ?_, ?_, trivial⟩
            · intro a1 w1 hG hF
              exact s_old rfl (wants0 rfl) (.tmp 5) (.inr rfl) (.int .i64 (k : Nat)) (hF.ol 5 (by kernel_rfl)) rfl
            · intro a1 w1 hG hF
              have e2 : a1.eval (.tmp 2) = .pointer (some ⟨w.heap.size, 0, none⟩) := hF.ol 2 (by kernel_rfl)
              obtain ⟨_, e17, rfl⟩ := hF.dp 0 17 (by kernel_rfl)
              exact s_is rfl (wants0 rfl) _ rfl (run_idx Try.underlying73 (by kernel_rfl) e2 e17 (by omega))
            · intro a1 w1 hG hF
              obtain ⟨_, e18, rfl⟩ := hF.dp 1 18 (by kernel_rfl)
              exact s_is rfl (wants0 rfl) _ rfl (run_load1 Try.underlying3 e18 (c2 _ (h2.gr ((Gr.drew W1).trans hG))))
            · intro a1 w1 hG hF
              exact s_old rfl (wants0 rfl) (.tmp 5) (.inr rfl) (.int .i64 (k : Nat)) (hF.ol 5 (by kernel_rfl)) rfl
            · intro a1 w1 hG hF
              have e3 : a1.eval (.tmp 3) = .pointer (some ⟨w.heap.size + 1, 0, none⟩) := hF.ol 3 (by kernel_rfl)
              obtain ⟨_, e20, rfl⟩ := hF.dp 3 20 (by kernel_rfl)
              exact s_is rfl (wants0 rfl) _ rfl (run_idx Try.underlying73 (by kernel_rfl) e3 e20 (by omega))
            · intro a1 w1 hG hF
              obtain ⟨_, e21, rfl⟩ := hF.dp 4 21 (by kernel_rfl)
              exact s_is rfl (wants0 rfl) _ rfl (run_load1 Try.underlying3 e21 (c3 _ (h3.gr ((Gr.drew W1).trans hG))))
            · intro a1 w1 hG hF
              obtain ⟨_, e19, rfl⟩ := hF.dp 2 19 (by kernel_rfl)
              obtain ⟨_, e22, rfl⟩ := hF.dp 5 22 (by kernel_rfl)
              exact s_is rfl (wants0 rfl) _ rfl (run_ltI e19 e22)
            · intro a1 w1 hG hF
              exact s_same rfl (wants0 rfl) (.tmp 23) (.inl rfl) (hF.dp 6 23 (by kernel_rfl))
          · intro vs w1 hG hf
            have z4 : vs 7 = .bool (decide (x < y)) := hf.2.2.2.2.2.2.2.1
            clear hf
            simp only [putAll, Nat.zero_add, Nat.reduceAdd, z4]
            clear z4
            go_simp
            go_wp2_with fail
            go_ret
            rw [HN.out]
            exact ⟨rfl, hB.trans (((Gr.drew W1).trans hG).mono hB.size)⟩
end Go.Proofs.Ythffodfnnjejnaa

