/- The walks of the poly layer's numbers: times, least, part. No condition. -/
import Derived.Test.YthffodfnnjejnaaPolN2
import Derived.Test.YthffodfnnjejnaaKitA
namespace Go.Proofs.Ythffodfnnjejnaa
open Go.RowKit
theorem tIn_lt (x y : List Nat) (i : Nat) {o : List Nat} (h : Lt64 o) (k : Nat) : Lt64 (tIn x y i o k) := by
  induction k with
  | zero => exact h
  | succ k ih => exact ih.set _ (Nat.mod_lt _ (show 18446744073709551616 > 0 by omega))
theorem tOut_lt (x y : List Nat) (i : Nat) : Lt64 (tOut x y i) := by
  induction i with
  | zero =>
    intro j
    match j with
    | 0 | 1 | 2 | 3 | 4 => show 0 < _; omega
    | j + 5 => show 0 < _; omega
  | succ i ih => exact tIn_lt x y i ih 5
set_option maxHeartbeats 4000000 in
theorem times_any (x y : List Nat) (hx : x.length = 5) (hy : y.length = 5) (w : World) :
    Calls Try.prog 34 #[.agg (u64s x).toArray, .agg (u64s y).toArray] w fun e w' => e = .returned (.agg (u64s (timesU x y)).toArray) ∧ Below w.heap.size w w' := by
  go_enter Try.func34, Try.ntmps34
  go_wp2_with fail
  generalize hW : (((w.alloc _).alloc _).alloc _).alloc _ = W
  have hX : Arr W w.heap.size 64 (u64s x) := by rw [← hW]; exact (((Arr.newAt rfl rfl).alloc _).alloc _).alloc _
  have hY : Arr W (w.heap.size + 1) 64 (u64s y) := by rw [← hW]; exact ((Arr.newAt (asz _ _) rfl).alloc _).alloc _
  have hR : Arr W (w.heap.size + 1 + 1) 64 (u64s (List.replicate 5 0)) := by rw [← hW]; exact (Arr.newAt (by simp only [asz]) (by kernel_rfl)).alloc _
  have hO : Arr W (w.heap.size + 1 + 1 + 1) 64 (u64s (tOut x y 0)) := by rw [← hW]; exact Arr.newAt (by simp only [asz]) (by kernel_rfl)
  have hB : Below w.heap.size w W := by rw [← hW]; exact ((((Below.refl _ _).alloc (by omega) _).alloc (by simp only [asz]; omega) _).alloc (by simp only [asz]; omega) _).alloc (by simp only [asz]; omega) _
  clear hW
  go_loopw [9] (fun i wr => ∃ r : Nat, r ≤ 5 ∧ i = .int .i64 r ∧ Arr wr w.heap.size 64 (u64s x) ∧ Arr wr (w.heap.size + 1) 64 (u64s y) ∧ Arr wr (w.heap.size + 1 + 1) 64 (u64s (List.replicate 5 0)) ∧ Arr wr (w.heap.size + 1 + 1 + 1) 64 (u64s (tOut x y r)) ∧ Below w.heap.size w wr) (fun i _ => 5 - (intOf i).toNat)
  case atStart => exact ⟨0, by omega, rfl, hX, hY, hR, hO, hB⟩
  case round =>
    obtain ⟨i, hi, rfl, hX, hY, hR, hO, hB⟩ := hrel
    by_cases hlt : i < 5
    · obtain ⟨O, hOe⟩ : ∃ O, O = tOut x y i := ⟨_, rfl⟩
      have hlO : O.length = 5 := by rw [hOe]; simp
      have HT : Hid (tOut x y (i + 1) = tIn x y i O 5) := by show _ = _; rw [hOe]; rfl
      rw [← hOe] at hO
      clear hOe
      go_wp2_with fail
      generalize wr = W1 at hX hY hR hO hB ⊢
      go_simp
      go_loopw [12] (fun k wr => ∃ r : Nat, r ≤ 5 ∧ k = .int .i64 r ∧ Arr wr w.heap.size 64 (u64s x) ∧ Arr wr (w.heap.size + 1) 64 (u64s y) ∧ Arr wr (w.heap.size + 1 + 1) 64 (u64s (List.replicate 5 0)) ∧ Arr wr (w.heap.size + 1 + 1 + 1) 64 (u64s (tIn x y i O r)) ∧ Below w.heap.size w wr) (fun i _ => 5 - (intOf i).toNat)
      case atStart => exact ⟨0, by omega, rfl, hX, hY, hR, hO, hB⟩
      case round =>
        obtain ⟨k, hk, rfl, hX, hY, hR, hO, hB⟩ := hrel
        by_cases hlt2 : k < 5
        · obtain ⟨a, ha⟩ : ∃ a, a = x.getD i 0 := ⟨_, rfl⟩
          obtain ⟨b, hb⟩ : ∃ b, b = y.getD k 0 := ⟨_, rfl⟩
          have hca : some (Value.int .u64 ((x.getD i 0 : Nat) : Int)) = some (Value.int .u64 (a : Int)) := by rw [ha]
          have hcb : some (Value.int .u64 ((y.getD k 0 : Nat) : Int)) = some (Value.int .u64 (b : Int)) := by rw [hb]
          have HA := Lib.hid ha
          have HB := Lib.hid hb
          clear ha hb
          go_wp2_with fail
          refine wp_region_ssaL (by kernel_rfl) [IsV (.int .i64 (i : Nat)), IsV (.pointer (some ⟨w.heap.size, i, none⟩)), IsV (.int .u64 ((a : Nat) : Int)), IsV (.int .i64 (k : Nat)), IsV (.pointer (some ⟨w.heap.size + 1, k, none⟩)), IsV (.int .u64 ((b : Nat) : Int)), IsV (.int .u64 ((a * b % 18446744073709551616 : Nat) : Int)), IsV (.int .u64 ((a * b % 18446744073709551616 : Nat) : Int))] (by kernel_rfl) ?_ ?_ ?_
          · intro φ hφ v w1 w2 h hg
            simp only [List.mem_cons, List.not_mem_nil, or_false] at hφ
            rcases hφ with rfl | rfl | rfl | rfl | rfl | rfl | rfl | rfl
            all_goals first | exact h | exact RdV.gr h hg
          · refine ⟨?_, ?_, ?_, ?_, ?_, ?_, ?_, ?_, trivial⟩
            · intro a1 w1 hG hF
              exact s_old rfl (wants0 rfl) (.tmp 6) (.inr rfl) (.int .i64 (i : Nat)) (hF.ol 6 (by kernel_rfl)) rfl
            · intro a1 w1 hG hF
              have e2 : a1.eval (.tmp 2) = .pointer (some ⟨w.heap.size, 0, none⟩) := hF.ol 2 (by kernel_rfl)
              obtain ⟨_, e15, rfl⟩ := hF.dp 0 15 (by kernel_rfl)
              exact s_is rfl (wants0 rfl) _ rfl (run_idx Try.underlying64 (by kernel_rfl) e2 e15 (by omega))
            · intro a1 w1 hG hF
              obtain ⟨_, e16, rfl⟩ := hF.dp 1 16 (by kernel_rfl)
              exact s_is rfl (wants0 rfl) _ rfl (run_load1 Try.underlying36 e16 (((hX.gr ((Gr.drew wr).trans hG)).u64 (by omega)).trans hca))
            · intro a1 w1 hG hF
              exact s_old rfl (wants0 rfl) (.tmp 7) (.inr rfl) (.int .i64 (k : Nat)) (hF.ol 7 (by kernel_rfl)) rfl
            · intro a1 w1 hG hF
              have e3 : a1.eval (.tmp 3) = .pointer (some ⟨w.heap.size + 1, 0, none⟩) := hF.ol 3 (by kernel_rfl)
              obtain ⟨_, e18, rfl⟩ := hF.dp 3 18 (by kernel_rfl)
              exact s_is rfl (wants0 rfl) _ rfl (run_idx Try.underlying64 (by kernel_rfl) e3 e18 (by omega))
            · intro a1 w1 hG hF
              obtain ⟨_, e19, rfl⟩ := hF.dp 4 19 (by kernel_rfl)
              exact s_is rfl (wants0 rfl) _ rfl (run_load1 Try.underlying36 e19 (((hY.gr ((Gr.drew wr).trans hG)).u64 (by omega)).trans hcb))
            · intro a1 w1 hG hF
              obtain ⟨_, e17, rfl⟩ := hF.dp 2 17 (by kernel_rfl)
              obtain ⟨_, e20, rfl⟩ := hF.dp 5 20 (by kernel_rfl)
              exact s_is rfl (wants0 rfl) _ rfl (run_mul64 e17 e20)
            · intro a1 w1 hG hF
              exact s_same rfl (wants0 rfl) (.tmp 21) (.inl rfl) (hF.dp 6 21 (by kernel_rfl))
          · intro vs w1 hG hf
            have z8 : vs 7 = .int .u64 ((a * b % 18446744073709551616 : Nat) : Int) := hf.2.2.2.2.2.2.2.1
            clear hf
            simp only [putAll, Nat.zero_add, Nat.reduceAdd, z8]
            have hG0 := (Gr.drew wr).trans hG
            clear hG
            replace hX := hX.gr hG0
            replace hY := hY.gr hG0
            replace hR := hR.gr hG0
            replace hO := hO.gr hG0
            replace hB := hB.trans (hG0.mono hB.size)
            clear hG0 z8
            generalize w1 = W2 at hX hY hR hO hB ⊢
            obtain ⟨v, hv⟩ : ∃ v, v = a * b % 18446744073709551616 := ⟨_, rfl⟩
            obtain ⟨v5, hv5⟩ : ∃ v5, v5 = v * 5 % 18446744073709551616 := ⟨_, rfl⟩
            rw [← hv]
            have HV := Lib.hid hv
            have HV5 := Lib.hid hv5
            clear hv hv5 hca hcb
            obtain ⟨j, hj⟩ : ∃ j, j = (i + k) % 5 := ⟨_, rfl⟩
            obtain ⟨z, hz⟩ : ∃ z, z = tIn x y i O k := ⟨_, rfl⟩
            obtain ⟨t, ht⟩ : ∃ t, t = z.getD j 0 := ⟨_, rfl⟩
            have hlz : z.length = 5 := by rw [hz]; simp [hlO]
            have hj5 : j < 5 := by rw [hj]; exact Nat.mod_lt _ (by omega)
            have ej : ((i : Int) + (k : Int)) % 5 = (j : Int) := by omega
            rw [← hz] at hO
            have c1 := hO.u64 (a := j) (by omega)
            rw [← ht] at c1
            have f1 := hO.frozen j
            have HJ := Lib.hid hj
            have HZ := Lib.hid hz
            have HTT := Lib.hid ht
            clear hj hz ht
            go_simp
            by_cases h5 : 5 ≤ i + k
            · have hp : tP x y i k = v5 := by show (if i + k ≥ 5 then _ else _) = _; rw [if_pos (by omega), HV5.out, HV.out, HA.out, HB.out]
              have e5 : IntKind.u64.wrap ((v : Int) * 5) = (v5 : Int) := by rw [HV5.out]; exact wrap_mulK v 5 5 rfl
              have h5 : (5 : Int) ≤ (i : Int) + (k : Int) := by omega
              have e1 := wrap_add64 t v5
              obtain ⟨u, hu⟩ : ∃ u, u = (t + v5) % 18446744073709551616 := ⟨_, rfl⟩
              rw [← hu] at e1
              have HC : Hid (tIn x y i O (k + 1) = z.set j u) := by show _ = _; rw [hu, ← hp, HTT.out, HJ.out, HZ.out]; rfl
              clear hp hu
              go_wp2_with fail
              have hO' := hO.set j (.int .u64 (u : Int))
              rw [u64s_set, ← HC.out] at hO'
              refine ⟨⟨k + 1, by omega, by go_num, hX.other (by simp only []; omega) _, hY.other (by simp only []; omega) _, hR.other (by simp only []; omega) _, hO', hB.trans (below_setCell (a := ⟨w.heap.size + 1 + 1 + 1, j, none⟩) (by simp only []; omega))⟩, by simp [intOf]; omega⟩
            · have hp : tP x y i k = v := by show (if i + k ≥ 5 then _ else _) = _; rw [if_neg (by omega), HV.out, HA.out, HB.out]
              have h5 : ¬ (5 : Int) ≤ (i : Int) + (k : Int) := by omega
              have e1 := wrap_add64 t v
              obtain ⟨u, hu⟩ : ∃ u, u = (t + v) % 18446744073709551616 := ⟨_, rfl⟩
              rw [← hu] at e1
              have HC : Hid (tIn x y i O (k + 1) = z.set j u) := by show _ = _; rw [hu, ← hp, HTT.out, HJ.out, HZ.out]; rfl
              clear hp hu
              go_wp2_with fail
              have hO' := hO.set j (.int .u64 (u : Int))
              rw [u64s_set, ← HC.out] at hO'
              refine ⟨⟨k + 1, by omega, by go_num, hX.other (by simp only []; omega) _, hY.other (by simp only []; omega) _, hR.other (by simp only []; omega) _, hO', hB.trans (below_setCell (a := ⟨w.heap.size + 1 + 1 + 1, j, none⟩) (by simp only []; omega))⟩, by simp [intOf]; omega⟩
        · obtain rfl : k = 5 := by omega
          rw [← HT.out] at hO
          simp only [show ((5 : Nat) : Int) = 5 from rfl]
          go_wp2_with fail
          go_roundw
          case rel => exact ⟨i + 1, by omega, by go_num, hX, hY, hR, hO, hB⟩
          case measure => simp [intOf]; omega
    · obtain rfl : i = 5 := by omega
      have hlt := tOut_lt x y 5
      have hlo : (tOut x y 5).length = 5 := by simp
      obtain ⟨O, hOe⟩ : ∃ O, O = tOut x y 5 := ⟨_, rfl⟩
      have HE : Hid (timesU x y = carryU O) := by show _ = _; rw [hOe]; rfl
      rw [← hOe] at hO hlt hlo
      clear hOe
      obtain ⟨q, hq⟩ : ∃ q, q = carryU O := ⟨_, rfl⟩
      have hlq : q.length = 5 := by rw [hq]; simp [hlo]
      have hcar := fun w => carry_any O hlo hlt w
      rw [← hq] at hcar HE
      clear hq
      simp only [show ((5 : Nat) : Int) = 5 from rfl]
      go_wp2_with first
        | (refine wpList_load_mid rfl 64 (.tmp 5) rfl (w.heap.size + 1 + 1 + 1) 0 rfl (u64s O) _ hO.range Try.underlying64 rfl (info38 _ hlo) ?_)
        | (go_at_call 44; refine (hcar _).mono ?_; rintro e w4 ⟨rfl, hB4⟩; replace hR := hR.gr hB4; replace hB := hB.trans (hB4.mono hB.size))
        | (refine wpList_put hR rfl 64 (.tmp 4) (.tmp 40) rfl (u64s q) rfl rfl (by simp [hlq]) (info38 _ hlq) (u64s_oneCell _) ?_; intro w5 hR5 hB5 hO5)
      refine bodyPost_ret (results_cell_row rfl _ _ (w.heap.size + 1 + 1) _ _ _ _ rfl hR5 Try.underlying64 rfl (by have := info38 _ hlq; simpa using this)) rfl ?_
      rw [HE.out]
      exact ⟨rfl, hB.trans (hB5.mono (by omega))⟩
end Go.Proofs.Ythffodfnnjejnaa

