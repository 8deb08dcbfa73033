/- The walks of the poly layer's numbers: least, part. No condition. -/
import Derived.Test.YthffodfnnjejnaaPolN3
namespace Go.Proofs.Ythffodfnnjejnaa
open Go.RowKit
theorem carryU_lt {x : List Nat} (h : Lt64 x) : Lt64 (carryU x) := (cAt_lt (cAt_lt h _ _) _ _).set 0 (Nat.mod_lt _ (show 18446744073709551616 > 0 by omega))
theorem lAt_lt {x : List Nat} (h : Lt64 x) (k : Nat) : Lt64 (lAt x k) := by
  induction k with
  | zero => exact h
  | succ k ih =>
    refine (ih.set _ (Nat.mod_lt _ (show 18446744073709551616 > 0 by omega))).set _ ?_
    have := ih k
    omega
theorem lit5 : (u64s [5, 0, 0, 0, 0]).toArray = #[.int .u64 5, .int .u64 0, .int .u64 0, .int .u64 0, .int .u64 0] := by kernel_rfl
set_option maxHeartbeats 4000000 in
theorem least_any (x : List Nat) (hx : x.length = 5) (hl : Lt64 x) (w : World) :
    Calls Try.prog 35 #[.agg (u64s x).toArray] w fun e w' => e = .returned (.agg (u64s (leastU x)).toArray) ∧ Below w.heap.size w w' := by
  have hc1 := fun w => carry_any x hx hl w
  have hc2 := fun w => carry_any (carryU x) (by simp [hx]) (carryU_lt hl) w
  obtain ⟨c1, hc1e⟩ : ∃ c, c = carryU x := ⟨_, rfl⟩
  obtain ⟨z, hz⟩ : ∃ z, z = carryU (carryU x) := ⟨_, rfl⟩
  have hp := fun w => plus_any (carryU (carryU x)) [5, 0, 0, 0, 0] (by simp [hx]) rfl w
  obtain ⟨y, hy⟩ : ∃ y, y = plusU z [5, 0, 0, 0, 0] := ⟨_, rfl⟩
  have hLy : Lt64 y := by rw [hy, hz]; exact pAt_lt (carryU_lt (carryU_lt hl)) 5
  have hlz : z.length = 5 := by rw [hz]; simp [hx]
  have hly : y.length = 5 := by rw [hy]; simp [plusU, hlz]
  have HE : Hid (leastU x = if (lAt y 4).getD 4 0 / 67108864 = 0 then z else (lAt y 4).set 4 ((lAt y 4).getD 4 0 % 67108864)) := by show _ = _; rw [hy, hz]; rfl
  rw [← hz, ← hy, lit5] at hp
  rw [← hz, ← hc1e] at hc2
  rw [← hc1e] at hc1
  have hlc : c1.length = 5 := by rw [hc1e]; simp [hx]
  clear hc1e hz hy hl
  go_enter Try.func35, Try.ntmps35
  go_wp2_with first
    | (refine wpList_load_mid rfl 64 (.tmp 1) rfl w.heap.size 0 rfl (u64s z) _ hZ.range Try.underlying64 rfl (info38 _ hlz) ?_)
    | (refine wpList_load_mid rfl 64 (.tmp 1) rfl w.heap.size 0 rfl (u64s x) _ ((Arr.newAt rfl rfl).alloc _).range Try.underlying64 rfl (info38 _ hx) ?_)
    | (go_at_call_of 44 (Value.agg (u64s x).toArray); refine (hc1 _).mono ?_; rintro e w1 ⟨rfl, hB1⟩; have h1 := Arr.below ((Arr.newAt rfl rfl).alloc _) hB1 (by simp only [asz]; omega); have hR := Arr.below (Arr.newAt (l := u64s (List.replicate 5 0)) (asz _ _) (by kernel_rfl)) hB1 (by simp only [asz]; omega); have hB := (((Below.refl w.heap.size w).alloc (by omega) _).alloc (by simp only [asz]; omega) _).trans (hB1.mono (by simp only [asz]; omega)); clear hB1)
    | (go_at_call_of 44 (Value.agg (u64s c1).toArray); refine (hc2 _).mono ?_; rintro e w2 ⟨rfl, hB2⟩; replace h1 := h1.gr hB2; replace hR := hR.gr hB2; replace hB := hB.trans (hB2.mono hB.size); clear hB2)
    | (refine wpList_put h1 rfl 64 (.tmp 1) (.tmp 7) rfl (u64s z) rfl rfl (by simp [hlz, hx]) (info38 _ hlz) (u64s_oneCell _) ?_; intro w3 hZ hB3 hO3; replace hR := hO3 _ _ _ (by omega) hR; replace hB := hB.trans hB3; clear hB3 hO3 h1)
    | (go_at_call 32; refine (hp _).mono ?_; rintro e w4 ⟨rfl, hB4⟩; replace hZ := hZ.gr hB4; replace hR := hR.gr hB4; replace hB := hB.trans (hB4.mono hB.size); clear hB4)
    | (refine wpList_new rfl 64 (.tmp 3) (.tmp 10) rfl _ (u64s y) rfl rfl rfl (by simp only [u64s_length, hly]; rfl) (info38 _ hly) (u64s_oneCell y) ?_; intro w5 hY hG5; have l2 := hR.lt; replace hZ := hZ.gr hG5; replace hR := hR.gr hG5; replace hB := hB.trans (hG5.mono hB.size); clear hG5)
  clear hc1 hc2 hp
  generalize w4.heap.size = g3 at hY l2 ⊢
  generalize w5 = W at hZ hR hY hB ⊢
  go_loopw [11] (fun i wr => ∃ r : Nat, r ≤ 4 ∧ i = .int .i64 r ∧ Arr wr w.heap.size 64 (u64s z) ∧ Arr wr (w.heap.size + 1) 64 (u64s (List.replicate 5 0)) ∧ Arr wr g3 64 (u64s (lAt y r)) ∧ Below w.heap.size w wr) (fun i _ => 4 - (intOf i).toNat)
  case atStart => exact ⟨0, by omega, rfl, hZ, hR, hY, hB⟩
  case round =>
    obtain ⟨k, hk, rfl, hZ, hR, hY, hB⟩ := hrel
    by_cases hlt : k < 4
    · obtain ⟨v, hv⟩ : ∃ v, v = lAt y k := ⟨_, rfl⟩
      have hlv : v.length = 5 := by rw [hv]; simp [hly]
      have hLv : Lt64 v := by rw [hv]; exact lAt_lt hLy k
      obtain ⟨a, ha⟩ : ∃ a, a = v.getD (k + 1) 0 := ⟨_, rfl⟩
      obtain ⟨b, hb⟩ : ∃ b, b = v.getD k 0 := ⟨_, rfl⟩
      have hbl : b < 18446744073709551616 := by rw [hb]; exact hLv k
      obtain ⟨u, hu⟩ : ∃ u, u = (a + b / 67108864) % 18446744073709551616 := ⟨_, rfl⟩
      have HC : Hid (lAt y (k + 1) = (v.set (k + 1) u).set k (b % 67108864)) := by show _ = _; rw [hu, ha, hb, hv]; rfl
      rw [← hv] at hY
      have c1 := hY.u64 (a := k + 1) (by omega)
      have c2 := hY.u64 (a := k) (by omega)
      rw [← ha] at c1
      rw [← hb] at c2
      have HA := Lib.hid ha
      have HBB := Lib.hid hb
      clear ha hb hv
      go_wp2_with fail
      refine wp_region_st (by kernel_rfl) [IsV (.int .i64 (k : Nat)), IsV (.int .i64 ((k + 1) : Nat)), IsV (.pointer (some ⟨g3, (k + 1), none⟩)), IsV (.int .u64 ((a : Nat) : Int)), IsV (.int .i64 (k : Nat)), IsV (.pointer (some ⟨g3, k, none⟩)), IsV (.int .u64 ((b : Nat) : Int)), IsV (.int .u64 (((b / 67108864) : Nat) : Int)), IsV (.int .u64 ((((a + (b / 67108864)) % 18446744073709551616) : Nat) : Int)), IsV (.pointer (some ⟨g3, (k + 1), none⟩))] 10 _ rfl rfl rfl (by kernel_rfl) (by kernel_rfl) ?_ (⟨g3, (k + 1), none⟩ : Addr) (.int .u64 ((((a + (b / 67108864)) % 18446744073709551616) : Nat) : Int)) ?_ ?_ ?_
      · intro φ hφ
        simp only [List.mem_cons, List.not_mem_nil, or_false] at hφ
        rcases hφ with rfl | rfl | rfl | rfl | rfl | rfl | rfl | rfl | rfl | rfl <;> exact ⟨_, rfl⟩
      · refine ⟨?_, ?_, ?_, ?_, ?_, ?_, ?_, ?_, ?_, ?_, trivial⟩
        · intro a1 w1 hG hF
          exact d_old rfl (wants0 rfl) (.tmp 4) (.inr rfl) (.int .i64 (k : Nat)) (hF.ol 4 (by kernel_rfl)) rfl
        · intro a1 w1 hG hF
          obtain ⟨_, e14, rfl⟩ := hF.dp 0 14 (by kernel_rfl)
          exact d_is rfl (wants0 rfl) _ rfl (run_inc (by omega) e14 rfl)
        · intro a1 w1 hG hF
          have e3 : a1.eval (.tmp 3) = .pointer (some ⟨g3, 0, none⟩) := hF.ol 3 (by kernel_rfl)
          obtain ⟨_, e15, rfl⟩ := hF.dp 1 15 (by kernel_rfl)
          exact d_is rfl (wants0 rfl) _ rfl (run_idx Try.underlying64 (by kernel_rfl) e3 e15 (by omega))
        · intro a1 w1 hG hF
          obtain ⟨_, e16, rfl⟩ := hF.dp 2 16 (by kernel_rfl)
          exact d_is rfl (wants0 rfl) _ rfl (run_load1 Try.underlying36 e16 ((hG.cell _).trans c1))
        · intro a1 w1 hG hF
          exact d_old rfl (wants0 rfl) (.tmp 4) (.inr rfl) (.int .i64 (k : Nat)) (hF.ol 4 (by kernel_rfl)) rfl
        · intro a1 w1 hG hF
          have e3 : a1.eval (.tmp 3) = .pointer (some ⟨g3, 0, none⟩) := hF.ol 3 (by kernel_rfl)
          obtain ⟨_, e18, rfl⟩ := hF.dp 4 18 (by kernel_rfl)
          exact d_is rfl (wants0 rfl) _ rfl (run_idx Try.underlying64 (by kernel_rfl) e3 e18 (by omega))
        · intro a1 w1 hG hF
          obtain ⟨_, e19, rfl⟩ := hF.dp 5 19 (by kernel_rfl)
          exact d_is rfl (wants0 rfl) _ rfl (run_load1 Try.underlying36 e19 ((hG.cell _).trans c2))
        · intro a1 w1 hG hF
          obtain ⟨_, e20, rfl⟩ := hF.dp 6 20 (by kernel_rfl)
          exact d_is rfl (wants0 rfl) _ rfl (run_shr26 e20 rfl)
        · intro a1 w1 hG hF
          obtain ⟨_, e17, rfl⟩ := hF.dp 3 17 (by kernel_rfl)
          obtain ⟨_, e21, rfl⟩ := hF.dp 7 21 (by kernel_rfl)
          exact d_is rfl (wants0 rfl) _ rfl (run_add64 e17 e21)
        · intro a1 w1 hG hF
          have e3 : a1.eval (.tmp 3) = .pointer (some ⟨g3, 0, none⟩) := hF.ol 3 (by kernel_rfl)
          obtain ⟨_, e15, rfl⟩ := hF.dp 1 15 (by kernel_rfl)
          exact d_is rfl (wants0 rfl) _ rfl (run_idx Try.underlying64 (by kernel_rfl) e3 e15 (by omega))
      · intro a1 w1 hG hF
        obtain ⟨_, e23, rfl⟩ := hF.dp 9 23 (by kernel_rfl)
        obtain ⟨_, e22, rfl⟩ := hF.dp 8 22 (by kernel_rfl)
        exact ⟨wants0 rfl, run_store1 (by kernel_rfl) e23 e22 (by rw [hG.cell]; exact (Option.isSome_iff_exists.2 ⟨_, c1⟩)) (by rw [hG.frozen]; exact hY.frozen _)⟩
      intro vs k0 hf
      clear hf
      simp only [putAll, Nat.zero_add, Nat.reduceAdd]
      rw [← hu]
      have hY' := (hY.dr ⟨k0, rfl⟩).set (k + 1) (.int .u64 (u : Int))
      rw [u64s_set] at hY'
      have hZ' := (hZ.dr ⟨k0, rfl⟩).other (a := ⟨g3, k + 1, none⟩) (by simp only []; omega) (.int .u64 (u : Int))
      have hR' := (hR.dr ⟨k0, rfl⟩).other (a := ⟨g3, k + 1, none⟩) (by simp only []; omega) (.int .u64 (u : Int))
      have hB' := hB.trans ((below_dr ⟨k0, rfl⟩).trans (below_setCell (a := ⟨g3, k + 1, none⟩) (v := .int .u64 (u : Int)) (by simp only []; omega)))
      generalize ((wr.drewN k0).setCell _ _) = W1 at hY' hZ' hR' hB' ⊢
      have c3 := hY'.u64 (a := k) (by rw [List.length_set]; omega)
      have e3 : (v.set (k + 1) u).getD k 0 = b := by
        rw [HBB.out, List.getD_eq_getElem?_getD, List.getD_eq_getElem?_getD, List.getElem?_set_ne (by omega)]
      rw [e3] at c3
      have f3 := hY'.frozen k
      have e4 := and26 b hbl
      obtain ⟨q, hq⟩ : ∃ q, q = b % 67108864 := ⟨_, rfl⟩
      rw [← hq] at e4
      have HQ := Lib.hid hq
      clear hY hZ hR hB c1 c2 hu hq e3
      go_simp
      go_wp2_with fail
      go_roundw
      case rel =>
        have h1 := hY'.set k (.int .u64 (q : Int))
        rw [u64s_set, HQ.out, ← HC.out] at h1
        rw [HQ.out]
        rw [HQ.out] at *
        exact ⟨k + 1, by omega, by go_num, hZ'.other (by simp only []; omega) _, hR'.other (by simp only []; omega) _, h1, hB'.trans (below_setCell (by simp only []; omega))⟩
      case measure => simp [intOf]; omega
    · obtain rfl : k = 4 := by omega
      obtain ⟨v, hv⟩ : ∃ v, v = lAt y 4 := ⟨_, rfl⟩
      have hlv : v.length = 5 := by rw [hv]; simp [hly]
      have hLv : Lt64 v := by rw [hv]; exact lAt_lt hLy 4
      obtain ⟨t, ht⟩ : ∃ t, t = v.getD 4 0 := ⟨_, rfl⟩
      have htl : t < 18446744073709551616 := by rw [ht]; exact hLv 4
      rw [← hv] at hY HE
      rw [← ht] at HE
      have c4 := hY.u64 (a := 4) (by omega)
      rw [← ht] at c4
      have f4 := hY.frozen 4
      have e4 := and26 t htl
      obtain ⟨q, hq⟩ : ∃ q, q = t % 67108864 := ⟨_, rfl⟩
      rw [← hq] at e4 HE
      have hlq : (v.set 4 q).length = 5 := by rw [List.length_set, hlv]
      have hYn := hY.set 4 (.int .u64 (q : Int))
      rw [u64s_set] at hYn
      have hRn := hR.other (a := ⟨g3, 4, none⟩) (by simp only []; omega) (.int .u64 (q : Int))
      have hBn := hB.trans (below_setCell (w := wr) (a := ⟨g3, 4, none⟩) (v := .int .u64 (q : Int)) (by simp only []; omega))
      clear hv ht hq
      simp only [show ((4 : Nat) : Int) = 4 from rfl]
      by_cases h0 : t / 67108864 = 0
      · have h0' : (t : Int) / 67108864 = 0 := by omega
        go_wp2_with first
          | (refine wpList_load_mid rfl 64 (.tmp 1) rfl w.heap.size 0 rfl (u64s z) _ hZ.range Try.underlying64 rfl (info38 _ hlz) ?_)
          | (refine wpList_put hR rfl 64 (.tmp 2) (.tmp 34) rfl (u64s z) rfl rfl (by simp [hlz]) (info38 _ hlz) (u64s_oneCell _) ?_; intro w8 hR8 hB8 hO8)
        refine bodyPost_ret (results_cell_row rfl _ _ (w.heap.size + 1) _ _ _ _ rfl hR8 Try.underlying64 rfl (by have := info38 _ hlz; simpa using this)) rfl ?_
        rw [HE.out, if_pos h0]
        exact ⟨rfl, hB.trans (hB8.mono (by omega))⟩
      · have h0' : ¬ (t : Int) / 67108864 = 0 := by omega
        go_wp2_with first
          | (refine wpList_load_mid rfl 64 (.tmp 3) rfl g3 0 rfl (u64s (v.set 4 q)) _ hYn.range Try.underlying64 rfl (info38 _ hlq) ?_)
          | (refine wpList_put hRn rfl 64 (.tmp 2) (.tmp 39) rfl (u64s (v.set 4 q)) rfl rfl (by simp [hlv]) (info38 _ hlq) (u64s_oneCell _) ?_; intro w8 hR8 hB8 hO8)
        refine bodyPost_ret (results_cell_row rfl _ _ (w.heap.size + 1) _ _ _ _ rfl hR8 Try.underlying64 rfl (by have := info38 _ hlq; simpa using this)) rfl ?_
        rw [HE.out, if_neg h0]
        exact ⟨rfl, hBn.trans (hB8.mono (by omega))⟩
end Go.Proofs.Ythffodfnnjejnaa

