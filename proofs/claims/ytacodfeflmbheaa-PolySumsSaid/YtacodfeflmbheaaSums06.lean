/- The walk of the law PolySums. No condition. -/
import Derived.Test.YtacodfeflmbheaaBlocks06
import Derived.Test.YtacodfeflmbheaaSsaD
namespace Go.Proofs.Ytacodfeflmbheaa
open Go.RowKit
theorem wp_allocD {P : Program} {ops : Array Oper} {Q : Exit → Act → World → Prop} {L : List (Value → World → Prop)} {D : List Nat} {i B : Nat} {o : Oper} {a : Act} {w : World} {t T : TypeId} {cs : List Value} (hi : ops[i]? = some o) (hop : (ops[i]?).map (fun o => (o.op, o.guard)) = some (.alloc T, none)) (C : Array Value) (hC : C.toList = cs)
    (hrun : ∀ (o : Oper) ev w, o.op = .alloc T → (execOp ev o).run P w = .ok (.value (.pointer (some ⟨w.heap.size, 0, none⟩))) (w.alloc (.cells C t))) (hB : B ≤ w.heap.size) (hφ : L.getD i AnyV = NewA B t cs) (hD : ∀ j ∈ D, L.getD j AnyV = NewA B t cs) :
    wpOp P ops Q i (fun a' w' => ∃ v, a' = a.put o.dst v ∧ (L.getD i AnyV) v w' ∧ Gr w w' ∧ ∀ j ∈ D, ∀ u, (L.getD j AnyV) u w → v ≠ u) a w := by
  rw [hi] at hop
  simp only [Option.map_some, Option.some.injEq, Prod.mk.injEq] at hop
  have hw : Region.wanted o (yielded ops a.tmps) = true := by simp [Region.wanted, hop.2]
  have hr := hrun o a.eval w hop.1
  unfold wpOp
  simp only [hi, hw, if_true, Oper.wp, hr, Oper.upon]
  refine .inl ⟨_, rfl, ?_, Gr.alloc _ _, fun j hj u hu h => ?_⟩
  · rw [hφ]; exact ⟨_, rfl, hB, Arr.newAt rfl hC⟩
  · rw [hD j hj] at hu
    obtain ⟨g, rfl, _, hA⟩ := hu
    have hlt := hA.lt
    injection h with h
    injection h with h
    injection h with h
    omega
theorem alloc16_run (o : Oper) (ev : Operand → Value) (w : World) (h : o.op = .alloc 24) : (execOp ev o).run Try.prog w = .ok (.value (.pointer (some ⟨w.heap.size, 0, none⟩))) (w.alloc (.cells (u8s (List.replicate 16 0)).toArray 24)) := by
  unfold execOp
  simp only [h]
  go_simp
  kernel_rfl
theorem tag_mod {K b : List UInt8} {H : Nat} (hH : H = pH (leNat (rL K)) b ((b.length + 15) / 16)) : tagL K b = leBytes 16 (H + leNat (K.drop 16)) := by rw [hH, tagL]
theorem leNat_tag (x : Nat) : leNat (leBytes 16 x) = x % 340282366920938463463374607431768211456 := by
  rw [leNat_leBytes]
theorem digit_eq {S1 S2 r : Nat} (hr : r < 16) (h : S1 % 340282366920938463463374607431768211456 = S2 % 340282366920938463463374607431768211456) : S1 / 256 ^ r % 256 = S2 / 256 ^ r % 256 := by
  have e256 : (256 : Nat) ^ 16 = 340282366920938463463374607431768211456 := by decide +kernel
  have h1 := leBytes_mod 16 S1 16 (Nat.le_refl _)
  have h2 := leBytes_mod 16 S2 16 (Nat.le_refl _)
  rw [e256] at h1 h2
  have h3 : leBytes 16 S1 = leBytes 16 S2 := by rw [← h1, ← h2, h]
  have h4 := leBytes_get 16 S1 r hr
  rw [h3, leBytes_get 16 S2 r hr] at h4
  have h5 := congrArg UInt8.toNat (Option.some.inj h4)
  rw [UInt8.toNat_ofNat', UInt8.toNat_ofNat'] at h5
  exact h5.symm
set_option maxRecDepth 100000 in
set_option maxHeartbeats 4000000 in
theorem law_sums (K : List UInt8) (hK : K.length = 32) (e : List UInt8) (he : e.length = 16) (A : Option Addr) (n c : Nat) (b : List UInt8) (w : World) (hnc : n ≤ c) (hcm : c ≤ maxLen) (hb : Rd w A n (u8s b)) :
    Calls Try.prog 6 #[.agg (u8s K).toArray, .agg (u8s e).toArray, .slice A n c] w fun e w' => e = .returned (.bool true) ∧ Below w.heap.size w w' := by
  unfold maxLen at hcm
  obtain ⟨m, hm⟩ : ∃ m : Nat, m = min n 200 := ⟨_, rfl⟩
  have hk : min (n : Int) 200 = (m : Int) := by omega
  have hmn : m ≤ n := by omega
  have hbm : Rd w A m (u8s (b.take m)) := by rw [← u8s_take]; exact hb.take hmn
  obtain ⟨l, hl⟩ : ∃ l, l = b.take m := ⟨_, rfl⟩
  rw [← hl] at hbm
  obtain ⟨X, hX⟩ : ∃ X, X = K.take 16 ++ e := ⟨_, rfl⟩
  have hlX : X.length = 32 := by rw [hX]; simp [hK, he]
  have hlK := hK
  obtain ⟨H, hH⟩ : ∃ H, H = pH (leNat (rL K)) l ((l.length + 15) / 16) := ⟨_, rfl⟩
  have hXt : X.take 16 = K.take 16 := by rw [hX, List.take_append_of_le_length (by simp [hK]), List.take_take, Nat.min_self]
  have hXd : X.drop 16 = e := by rw [hX, List.drop_append_of_le_length (by simp [hK])]; simp
  have hT0 := tag_mod (K := K) hH
  have hY0 := tag_mod (K := X) (b := l) (H := H) (by rw [hH, rL, rL, hXt])
  rw [hXd] at hY0
  obtain ⟨T, hT⟩ : ∃ T, T = tagL K l := ⟨_, rfl⟩
  obtain ⟨Y, hY⟩ : ∃ Y, Y = tagL X l := ⟨_, rfl⟩
  have hlT : T.length = 16 := by rw [hT, tagL]; simp
  have hlY : Y.length = 16 := by rw [hY, tagL]; simp
  obtain ⟨k2, hk2⟩ : ∃ k, k = K.drop 16 := ⟨_, rfl⟩
  have hlk2 : k2.length = 16 := by rw [hk2]; simp [hK]
  have hsum : ∀ r, r < 16 → (leNat T + leNat e) / 256 ^ r % 256 = (leNat Y + leNat k2) / 256 ^ r % 256 := by
    intro r hr
    apply digit_eq hr
    rw [hT, hT0, hY, hY0, leNat_tag, leNat_tag, hk2, Nat.mod_add_mod, Nat.mod_add_mod]
    congr 1
    omega
  have hc1 := fun w hr => polyTag_any K hK A m c l (by omega) w hr
  have hc2 := fun w hr => polyTag_any X hlX A m c l (by omega) w hr
  rw [← hT] at hc1
  rw [← hY] at hc2
  have hcut := fun w1 => run_cutRdH (P := Try.prog) Try.underlying23 (by kernel_rfl) (A := A) (n := n) (c := c) (k := m) (z := (m : Int)) rfl hmn hnc w1
  have HC1 := Lib.hid hc1
  have HC2 := Lib.hid hc2
  have HX := Lib.hid hX
  have HK2 := Lib.hid hk2
  have HSM := Lib.hid hsum
  clear hm hl hb hX hc1 hc2 hT hY hT0 hY0 hH hXt hXd hk2 hsum
  go_enter Try.func6, Try.ntmps6
  go_wp2_with first
    | (refine wpList_load_mid rfl 22 (.tmp 3) rfl w.heap.size 0 rfl (u8s K) _ ((Arr.newAt rfl rfl).alloc _).range Try.underlying22 rfl (info22 K hK) ?_)
    | (refine wpList_new rfl 22 (.tmp 7) (.tmp 20) rfl _ (u8s K) rfl rfl (by simp only [asz]) (by simp only [u8s_length, hK]; rfl) (info22 K hK) (u8s_oneCell _) ?_; intro w4 h7 hG4; have h3 := ((Arr.newAt (w := w) (t := 22) (C := (u8s K).toArray) rfl rfl).alloc (.cells (u8s e).toArray 24)).gr hG4; have h4 := (Arr.newAt (w := w.alloc (.cells (u8s K).toArray 22)) (t := 24) (C := (u8s e).toArray) (asz _ _) rfl).gr hG4; have hB := (((Below.refl w.heap.size w).alloc (by omega) (.cells (u8s K).toArray 22)).alloc (by simp only [asz]; omega) (.cells (u8s e).toArray 24)).trans (hG4.mono (by simp only [asz]; omega)); clear hG4)
  generalize w4 = W1 at h3 h4 h7 hB ⊢
  clear hcut
  have WS : Hid ((u8s K).take 16 ++ u8s e ++ (u8s K).drop (16 + 16) = u8s X) := by
    show _ = _
    rw [HX.out, u8s_append, u8s_take, u8s_drop, List.drop_of_length_le (by omega)]
    simp
  have hrl := hbm.below hB
  obtain ⟨g7, hg7⟩ : ∃ g, g = w.heap.size + 1 + 1 := ⟨_, rfl⟩
  rw [← hg7] at h7 ⊢
  have n7 : w.heap.size + 1 < g7 := by omega
  clear hg7
  refine wp_region_cut (by kernel_rfl) [IsV (.slice (some ⟨g7, 16, none⟩) 16 16), IsV (.slice (some ⟨w.heap.size + 1, 0, none⟩) 16 16)] 2 (by decide) (by kernel_rfl) (by kernel_rfl) (by kernel_rfl) ?_ ?_ ?_
  · intro φ hφ v w1 w2 h hg
    simp only [List.mem_cons, List.not_mem_nil, or_false] at hφ
    rcases hφ with rfl | rfl
    all_goals first | exact h | exact RdV.gr h hg
  · refine ⟨?_, ?_, trivial⟩
    · intro a1 w1 hG hF
      have e7 : a1.eval (.tmp 7) = .pointer (some ⟨g7, 0, none⟩) := hF.ol 7 (by kernel_rfl)
      exact s_is rfl (wants0 rfl) _ rfl (by simp only [execOp, e7, show a1.eval (.const (.int .i64 16)) = .int .i64 16 from rfl, Option.map, Sem.run_bind, run_cutA_l (P := Try.prog) Try.underlying22 (by kernel_rfl) g7 16 (by omega) 16 rfl, Result.andThen_ok, Sem.run_pure])
    · intro a1 w1 hG hF
      have e4 : a1.eval (.tmp 4) = .pointer (some ⟨w.heap.size + 1, 0, none⟩) := hF.ol 4 (by kernel_rfl)
      exact s_is rfl (wants0 rfl) _ rfl (by simp only [execOp, e4, Option.map, Sem.run_bind, run_cutAll (P := Try.prog) Try.underlying24 (by kernel_rfl), Result.andThen_ok, Sem.run_pure])
  · intro vs w1 hG hf
    have z21 : vs 0 = .slice (some ⟨g7, 16, none⟩) 16 16 := hf.1
    have z22 : vs 1 = .slice (some ⟨w.heap.size + 1, 0, none⟩) 16 16 := hf.2.1
    clear hf
    simp only [List.take_succ_cons, List.take_zero, List.drop_succ_cons, List.drop_zero, putAll, Nat.zero_add, z21, z22]
    replace h3 := h3.gr ((Gr.drew W1).trans hG)
    replace h4 := h4.gr ((Gr.drew W1).trans hG)
    replace h7 := h7.gr ((Gr.drew W1).trans hG)
    replace hB := hB.trans (((Gr.drew W1).trans hG).mono hB.size)
    clear hG z21 z22 hrl
    (refine wpList_copyA h7 rfl (.tmp 21) (.tmp 22) 23 23 rfl 5 Try.underlying23 (by kernel_rfl) 16 16 16 rfl (some ⟨w.heap.size + 1, 0, none⟩) 16 16 rfl (u8s e) (h4.rdAll he) (u8s_oneCell _) (by omega) (by simp [hK]) ?_; intro w2 h7n hB2 hO2; rw [WS.out] at h7n; replace h3 := hO2 _ _ _ (by omega) h3; replace h4 := hO2 _ _ _ (by omega) h4; replace hB := hB.trans (hB2.mono (by omega)); clear hB2 hO2 h7)
    have h7 := h7n
    clear h7n
    have hrl := hbm.below hB
    have l4 := h4.lt
    generalize w2 = W2 at h3 h4 h7 hrl hB l4 ⊢
    unfold wpList
    go_simp
    go_wp2_with fail
    refine wp_region_cutD (by kernel_rfl) [IsV (.agg (u8s K).toArray), IsV (.slice A m c), IsV (.agg (u8s T).toArray), IsV (.agg (u8s X).toArray), IsV (.slice A m c), IsV (.agg (u8s Y).toArray), NewA W2.heap.size 24 (u8s (List.replicate 16 0)), NewA W2.heap.size 24 (u8s (List.replicate 16 0))] 8 (by decide) (by kernel_rfl) (by kernel_rfl) [6, 7] (by kernel_rfl) ?_ ?_ ?_ ?_
    · intro φ hφ v w1 w2 h hg
      simp only [List.mem_cons, List.not_mem_nil, or_false] at hφ
      rcases hφ with rfl | rfl | rfl | rfl | rfl | rfl | rfl | rfl
      all_goals first | exact h | exact RdV.gr h hg | exact NewA.gr h hg
    · refine ⟨?_, ?_, ?_, ?_, ?_, ?_, ?_, ?_, trivial⟩
      · intro a1 w1 hG hF
        have e3 : a1.eval (.tmp 3) = .pointer (some ⟨w.heap.size, 0, none⟩) := hF.ol 3 (by kernel_rfl)
        exact s_wp rfl (wants0 rfl) (wp_load_mid _ _ rfl w.heap.size 0 e3 (u8s K) _ (h3.gr ((Gr.drew W2).trans hG)).range Try.underlying22 rfl (info22 K hlK) ⟨_, rfl, rfl, Gr.refl _⟩)
      · intro a1 w1 hG hF
        exact s_old rfl (wants0 rfl) (.tmp 2) (.inr rfl) (.slice A m c) (hF.ol 2 (by kernel_rfl)) rfl
      · intro a1 w1 hG hF
        obtain ⟨_, e24, rfl⟩ := hF.dp 0 24 (by kernel_rfl)
        obtain ⟨_, e25, rfl⟩ := hF.dp 1 25 (by kernel_rfl)
        exact s_call rfl (wants0 rfl) _ rfl _ _ (by simp only [execOp, resolve, invoke, List.map_toArray, List.map_cons, List.map_nil, e24, e25]; go_simp) ((HC1.out w1 (Gr.rd ((Gr.drew W2).trans hG) hrl)).mono fun e w2 ⟨he, hb⟩ => ⟨_, he, rfl, hb⟩)
      · intro a1 w1 hG hF
        have e7 : a1.eval (.tmp 7) = .pointer (some ⟨g7, 0, none⟩) := hF.ol 7 (by kernel_rfl)
        exact s_wp rfl (wants0 rfl) (wp_load_mid _ _ rfl g7 0 e7 (u8s X) _ (h7.gr ((Gr.drew W2).trans hG)).range Try.underlying22 rfl (info22 X hlX) ⟨_, rfl, rfl, Gr.refl _⟩)
      · intro a1 w1 hG hF
        exact s_old rfl (wants0 rfl) (.tmp 2) (.inr rfl) (.slice A m c) (hF.ol 2 (by kernel_rfl)) rfl
      · intro a1 w1 hG hF
        obtain ⟨_, e27, rfl⟩ := hF.dp 3 27 (by kernel_rfl)
        obtain ⟨_, e28, rfl⟩ := hF.dp 4 28 (by kernel_rfl)
        exact s_call rfl (wants0 rfl) _ rfl _ _ (by simp only [execOp, resolve, invoke, List.map_toArray, List.map_cons, List.map_nil, e27, e28]; go_simp) ((HC2.out w1 (Gr.rd ((Gr.drew W2).trans hG) hrl)).mono fun e w2 ⟨he, hb⟩ => ⟨_, he, rfl, hb⟩)
      · intro a1 w1 hG hF
        exact s_val rfl (wants0 rfl) _ rfl _ (w1.alloc (.cells (u8s (List.replicate 16 0)).toArray 24)) (by simp only [execOp]; go_simp; kernel_rfl) ⟨_, rfl, ((Gr.drew W2).trans hG).size, Arr.newAt rfl rfl⟩ (Gr.alloc _ _)
      · intro a1 w1 hG hF
        exact s_val rfl (wants0 rfl) _ rfl _ (w1.alloc (.cells (u8s (List.replicate 16 0)).toArray 24)) (by simp only [execOp]; go_simp; kernel_rfl) ⟨_, rfl, ((Gr.drew W2).trans hG).size, Arr.newAt rfl rfl⟩ (Gr.alloc _ _)
    · intro i1 o1 hi1 ho1 hz1' a1 w1 hG hF
      simp only [List.mem_cons, List.not_mem_nil, or_false] at hi1
      rcases hi1 with rfl | rfl
      all_goals
        exact wp_allocD ho1 rfl ((u8s (List.replicate 16 0)).toArray) rfl (alloc16_run) (((Gr.drew _).trans hG).size) rfl (by intro j hj; simp only [List.mem_cons, List.not_mem_nil, or_false] at hj; rcases hj with rfl | rfl <;> rfl)
    · intro vs w1 hds hG hf
      have z26 : vs 2 = .agg (u8s T).toArray := hf.2.2.1
      have z29 : vs 5 = .agg (u8s Y).toArray := hf.2.2.2.2.2.1
      have y8 : (NewA W2.heap.size 24 (u8s (List.replicate 16 0))) (vs 6) w1 := hf.2.2.2.2.2.2.1
      have y9 : (NewA W2.heap.size 24 (u8s (List.replicate 16 0))) (vs 7) w1 := hf.2.2.2.2.2.2.2.1
      clear hf
      simp only [List.take_succ_cons, List.take_zero, List.drop_succ_cons, List.drop_zero, putAll, Nat.zero_add, Nat.reduceAdd, z26, z29]
      have hG0 := (Gr.drew W2).trans hG
      replace h3 := h3.gr hG0
      replace h4 := h4.gr hG0
      replace hB := hB.trans (hG0.mono hB.size)
      obtain ⟨g8, z8, n8, h8⟩ := y8
      obtain ⟨g9, z9, n9, h9⟩ := y9
      have hne : g8 ≠ g9 := by
        intro h
        exact hds 6 7 _ _ 8 9 (by decide) (by decide) (by decide) (by decide) (by decide) rfl rfl rfl rfl (by rw [z8, z9, h])
      simp only [z8, z9]
      clear hds
      (refine wpList_put h8 rfl 24 (.tmp 8) (.tmp 26) rfl (u8s T) (by kernel_rfl) (by kernel_rfl) (by simp [hlT]) (info16 T hlT) (u8s_oneCell _) ?_; intro w6 h8n hB6 hO6)
      replace h9 := hO6 _ _ _ (Ne.symm hne) h9
      replace h3 := hO6 _ _ _ (by omega) h3
      replace h4 := hO6 _ _ _ (by omega) h4
      replace hB := hB.trans (hB6.mono (by omega))
      (refine wpList_put h9 rfl 24 (.tmp 9) (.tmp 29) rfl (u8s Y) (by kernel_rfl) (by kernel_rfl) (by simp [hlY]) (info16 Y hlY) (u8s_oneCell _) ?_; intro w7 h9n hB7 hO7)
      replace h8n := hO7 _ _ _ hne h8n
      replace h3 := hO7 _ _ _ (by omega) h3
      replace h4 := hO7 _ _ _ (by omega) h4
      replace hB := hB.trans (hB7.mono (by omega))
      unfold wpList
      generalize w7 = W3 at h3 h4 h8n h9n hB ⊢
      clear hB6 hO6 hB7 hO7 h8 h9 z8 z9 z26 z29 hG hG0 h7 hrl
      go_simp
      go_wp2_with fail
      go_loopw [10, 11, 12] (fun ov un i wr => ∃ r : Nat, r ≤ 16 ∧ i = .int .i64 r ∧ ov = .int .i64 (ovAt T e r : Nat) ∧ un = .int .i64 (ovAt Y k2 r : Nat) ∧ Arr wr w.heap.size 22 (u8s K) ∧ Arr wr (w.heap.size + 1) 24 (u8s e) ∧ Arr wr g8 24 (u8s T) ∧ Arr wr g9 24 (u8s Y) ∧ Below w.heap.size w wr) (fun _ _ i _ => 16 - (intOf i).toNat)
      case atStart => exact ⟨0, by omega, rfl, by simp [ovAt, leNat], by simp [ovAt, leNat], h3, h4, h8n, h9n, hB⟩
      case round =>
        obtain ⟨r, hr16, rfl, rfl, rfl, h3, h4, h8, h9, hB⟩ := hrel
        by_cases hlt : r < 16
        · obtain ⟨x, hx⟩ : ∃ x, T[r]? = some x := ⟨_, List.getElem?_eq_getElem (by omega)⟩
          obtain ⟨y, hy⟩ : ∃ y, e[r]? = some y := ⟨_, List.getElem?_eq_getElem (by omega)⟩
          obtain ⟨u, hu⟩ : ∃ u, Y[r]? = some u := ⟨_, List.getElem?_eq_getElem (by omega)⟩
          obtain ⟨v, hv⟩ : ∃ v, k2[r]? = some v := ⟨_, List.getElem?_eq_getElem (by omega)⟩
          have hvK : K[16 + r]? = some v := by rw [HK2.out, List.getElem?_drop] at hv; exact hv
          have ho1 := ovAt_le (b := T) (e := e) r (by omega) (by omega)
          have ho2 := ovAt_le (b := Y) (e := k2) r (by omega) (by omega)
          have hs1 := ovAt_succ hx hy
          have hs2 := ovAt_succ hu hv
          have hd := HSM.out r hlt
          rw [digit_sum hx hy, digit_sum hu hv] at hd
          obtain ⟨o, ho⟩ : ∃ o, o = ovAt T e r := ⟨_, rfl⟩
          obtain ⟨o2, hoo⟩ : ∃ o, o = ovAt Y k2 r := ⟨_, rfl⟩
          rw [← ho] at ho1 hs1 hd ⊢
          rw [← hoo] at ho2 hs2 hd ⊢
          have hxl := x.toNat_lt
          have hyl := y.toNat_lt
          have hul := u.toNat_lt
          have hvl := v.toNat_lt
          obtain ⟨p, hp⟩ : ∃ p, p = x.toNat + y.toNat + o := ⟨_, rfl⟩
          obtain ⟨q, hq⟩ : ∃ q, q = u.toNat + v.toNat + o2 := ⟨_, rfl⟩
          rw [← hp] at hs1 hd
          rw [← hq] at hs2 hd
          have hpl : p < 1000 := by omega
          have hql : q < 1000 := by omega
          have HS1 := Lib.hid hs1
          have HS2 := Lib.hid hs2
          have HD := Lib.hid hd
          have HP := Lib.hid hp
          have HQ := Lib.hid hq
          clear hs1 hs2 hd ho hoo hp hq
          go_wp2_with fail
          refine wp_region_ssaL (by kernel_rfl) [IsV (.int .i64 (r : Nat)), IsV (.pointer (some ⟨g8, r, none⟩)), IsV (.int .u8 (x.toNat : Nat)), IsV (.int .i64 ((x.toNat : Nat) : Int)), IsV (.int .i64 (r : Nat)), IsV (.pointer (some ⟨w.heap.size + 1, r, none⟩)), IsV (.int .u8 (y.toNat : Nat)), IsV (.int .i64 ((y.toNat : Nat) : Int)), IsV (.int .i64 ((x.toNat + y.toNat : Nat) : Int)), IsV (.int .i64 (o : Nat)), IsV (.int .i64 ((x.toNat + y.toNat + o : Nat) : Int)), IsV (.int .i64 ((x.toNat + y.toNat + o : Nat) : Int))] (by kernel_rfl) ?_ ?_ ?_
          · intro φ hφ v w1 w2 h hg
            simp only [List.mem_cons, List.not_mem_nil, or_false] at hφ
            rcases hφ with rfl | rfl | rfl | rfl | rfl | rfl | rfl | rfl | rfl | rfl | rfl | rfl
            all_goals first | exact h | exact RdV.gr h hg
          · refine ⟨?_, ?_, ?_, ?_, ?_, ?_, ?_, ?_, ?_, ?_, ?_, ?_, trivial⟩
            · intro a1 w1 hG hF
              exact s_old rfl (wants0 rfl) (.tmp 12) (.inr rfl) (.int .i64 (r : Nat)) (hF.ol 12 (by kernel_rfl)) rfl
            · intro a1 w1 hG hF
              have e8 : a1.eval (.tmp 8) = .pointer (some ⟨g8, 0, none⟩) := hF.ol 8 (by kernel_rfl)
              obtain ⟨_, e34, rfl⟩ := hF.dp 0 34 (by kernel_rfl)
              exact s_is rfl (wants0 rfl) _ rfl (run_idx Try.underlying24 (by kernel_rfl) e8 e34 (by omega))
            · intro a1 w1 hG hF
              obtain ⟨_, e35, rfl⟩ := hF.dp 1 35 (by kernel_rfl)
              exact s_is rfl (wants0 rfl) _ rfl (run_load1 Try.underlying5 e35 ((h8.gr ((Gr.drew wr).trans hG)).cell (u8s_at hx)))
            · intro a1 w1 hG hF
              obtain ⟨_, e36, rfl⟩ := hF.dp 2 36 (by kernel_rfl)
              exact s_is rfl (wants0 rfl) _ rfl (run_conv_u8_i64 Try.underlying5 Try.underlying3 e36)
            · intro a1 w1 hG hF
              exact s_old rfl (wants0 rfl) (.tmp 12) (.inr rfl) (.int .i64 (r : Nat)) (hF.ol 12 (by kernel_rfl)) rfl
            · intro a1 w1 hG hF
              have e4 : a1.eval (.tmp 4) = .pointer (some ⟨w.heap.size + 1, 0, none⟩) := hF.ol 4 (by kernel_rfl)
              obtain ⟨_, e38, rfl⟩ := hF.dp 4 38 (by kernel_rfl)
              exact s_is rfl (wants0 rfl) _ rfl (run_idx Try.underlying24 (by kernel_rfl) e4 e38 (by omega))
            · intro a1 w1 hG hF
              obtain ⟨_, e39, rfl⟩ := hF.dp 5 39 (by kernel_rfl)
              exact s_is rfl (wants0 rfl) _ rfl (run_load1 Try.underlying5 e39 ((h4.gr ((Gr.drew wr).trans hG)).cell (u8s_at hy)))
            · intro a1 w1 hG hF
              obtain ⟨_, e40, rfl⟩ := hF.dp 6 40 (by kernel_rfl)
              exact s_is rfl (wants0 rfl) _ rfl (run_conv_u8_i64 Try.underlying5 Try.underlying3 e40)
            · intro a1 w1 hG hF
              obtain ⟨_, e37, rfl⟩ := hF.dp 3 37 (by kernel_rfl)
              obtain ⟨_, e41, rfl⟩ := hF.dp 7 41 (by kernel_rfl)
              exact s_is rfl (wants0 rfl) _ rfl (run_addI (by omega) e37 e41)
            · intro a1 w1 hG hF
              exact s_old rfl (wants0 rfl) (.tmp 10) (.inr rfl) (.int .i64 (o : Nat)) (hF.ol 10 (by kernel_rfl)) rfl
            · intro a1 w1 hG hF
              obtain ⟨_, e42, rfl⟩ := hF.dp 8 42 (by kernel_rfl)
              obtain ⟨_, e43, rfl⟩ := hF.dp 9 43 (by kernel_rfl)
              exact s_is rfl (wants0 rfl) _ rfl (run_addI (by omega) e42 e43)
            · intro a1 w1 hG hF
              exact s_same rfl (wants0 rfl) (.tmp 44) (.inl rfl) (hF.dp 10 44 (by kernel_rfl))
          · intro vs w1 hG hf
            have z13 : vs 11 = .int .i64 ((x.toNat + y.toNat + o : Nat) : Int) := hf.2.2.2.2.2.2.2.2.2.2.2.1
            clear hf
            simp only [putAll, Nat.zero_add, Nat.reduceAdd, z13]
            rw [← HP.out]
            replace h3 := h3.gr ((Gr.drew wr).trans hG)
            replace h4 := h4.gr ((Gr.drew wr).trans hG)
            replace h8 := h8.gr ((Gr.drew wr).trans hG)
            replace h9 := h9.gr ((Gr.drew wr).trans hG)
            replace hB := hB.trans (((Gr.drew wr).trans hG).mono hB.size)
            clear hG z13
            generalize w1 = W4 at h3 h4 h8 h9 hB ⊢
            go_simp
            go_wp2_with fail
            refine wp_region_ssaL (by kernel_rfl) [IsV (.int .i64 (r : Nat)), IsV (.pointer (some ⟨g9, r, none⟩)), IsV (.int .u8 (u.toNat : Nat)), IsV (.int .i64 ((u.toNat : Nat) : Int)), IsV (.int .i64 (r : Nat)), IsV (.int .i64 ((16 + r : Nat) : Int)), IsV (.pointer (some ⟨w.heap.size, 16 + r, none⟩)), IsV (.int .u8 (v.toNat : Nat)), IsV (.int .i64 ((v.toNat : Nat) : Int)), IsV (.int .i64 ((u.toNat + v.toNat : Nat) : Int)), IsV (.int .i64 (o2 : Nat)), IsV (.int .i64 ((u.toNat + v.toNat + o2 : Nat) : Int)), IsV (.int .i64 ((u.toNat + v.toNat + o2 : Nat) : Int))] (by kernel_rfl) ?_ ?_ ?_
            · intro φ hφ v w1 w2 h hg
              simp only [List.mem_cons, List.not_mem_nil, or_false] at hφ
              rcases hφ with rfl | rfl | rfl | rfl | rfl | rfl | rfl | rfl | rfl | rfl | rfl | rfl | rfl
              all_goals first | exact h | exact RdV.gr h hg
            · refine ⟨?_, ?_, ?_, ?_, ?_, ?_, ?_, ?_, ?_, ?_, ?_, ?_, ?_, trivial⟩
              · intro a1 w1 hG hF
                exact s_old rfl (wants0 rfl) (.tmp 12) (.inr rfl) (.int .i64 (r : Nat)) (hF.ol 12 (by kernel_rfl)) rfl
              · intro a1 w1 hG hF
                have e9 : a1.eval (.tmp 9) = .pointer (some ⟨g9, 0, none⟩) := hF.ol 9 (by kernel_rfl)
                obtain ⟨_, e45, rfl⟩ := hF.dp 0 45 (by kernel_rfl)
                exact s_is rfl (wants0 rfl) _ rfl (run_idx Try.underlying24 (by kernel_rfl) e9 e45 (by omega))
              · intro a1 w1 hG hF
                obtain ⟨_, e46, rfl⟩ := hF.dp 1 46 (by kernel_rfl)
                exact s_is rfl (wants0 rfl) _ rfl (run_load1 Try.underlying5 e46 ((h9.gr ((Gr.drew W4).trans hG)).cell (u8s_at hu)))
              · intro a1 w1 hG hF
                obtain ⟨_, e47, rfl⟩ := hF.dp 2 47 (by kernel_rfl)
                exact s_is rfl (wants0 rfl) _ rfl (run_conv_u8_i64 Try.underlying5 Try.underlying3 e47)
              · intro a1 w1 hG hF
                exact s_old rfl (wants0 rfl) (.tmp 12) (.inr rfl) (.int .i64 (r : Nat)) (hF.ol 12 (by kernel_rfl)) rfl
              · intro a1 w1 hG hF
                obtain ⟨_, e49, rfl⟩ := hF.dp 4 49 (by kernel_rfl)
                exact s_is rfl (wants0 rfl) _ rfl (run_addI (a := 16) (by omega) rfl e49)
              · intro a1 w1 hG hF
                have e3 : a1.eval (.tmp 3) = .pointer (some ⟨w.heap.size, 0, none⟩) := hF.ol 3 (by kernel_rfl)
                obtain ⟨_, e50, rfl⟩ := hF.dp 5 50 (by kernel_rfl)
                exact s_is rfl (wants0 rfl) _ rfl (run_idx Try.underlying22 (by kernel_rfl) e3 e50 (by omega))
              · intro a1 w1 hG hF
                obtain ⟨_, e51, rfl⟩ := hF.dp 6 51 (by kernel_rfl)
                exact s_is rfl (wants0 rfl) _ rfl (run_load1 Try.underlying5 e51 ((h3.gr ((Gr.drew W4).trans hG)).cell (u8s_at hvK)))
              · intro a1 w1 hG hF
                obtain ⟨_, e52, rfl⟩ := hF.dp 7 52 (by kernel_rfl)
                exact s_is rfl (wants0 rfl) _ rfl (run_conv_u8_i64 Try.underlying5 Try.underlying3 e52)
              · intro a1 w1 hG hF
                obtain ⟨_, e48, rfl⟩ := hF.dp 3 48 (by kernel_rfl)
                obtain ⟨_, e53, rfl⟩ := hF.dp 8 53 (by kernel_rfl)
                exact s_is rfl (wants0 rfl) _ rfl (run_addI (by omega) e48 e53)
              · intro a1 w1 hG hF
                exact s_old rfl (wants0 rfl) (.tmp 11) (.inr rfl) (.int .i64 (o2 : Nat)) (hF.ol 11 (by kernel_rfl)) rfl
              · intro a1 w1 hG hF
                obtain ⟨_, e54, rfl⟩ := hF.dp 9 54 (by kernel_rfl)
                obtain ⟨_, e55, rfl⟩ := hF.dp 10 55 (by kernel_rfl)
                exact s_is rfl (wants0 rfl) _ rfl (run_addI (by omega) e54 e55)
              · intro a1 w1 hG hF
                exact s_same rfl (wants0 rfl) (.tmp 56) (.inl rfl) (hF.dp 11 56 (by kernel_rfl))
            · intro vs w1 hG hf
              have z14 : vs 12 = .int .i64 ((u.toNat + v.toNat + o2 : Nat) : Int) := hf.2.2.2.2.2.2.2.2.2.2.2.2.1
              clear hf
              simp only [putAll, Nat.zero_add, Nat.reduceAdd, z14]
              rw [← HQ.out]
              replace h3 := h3.gr ((Gr.drew W4).trans hG)
              replace h4 := h4.gr ((Gr.drew W4).trans hG)
              replace h8 := h8.gr ((Gr.drew W4).trans hG)
              replace h9 := h9.gr ((Gr.drew W4).trans hG)
              replace hB := hB.trans (((Gr.drew W4).trans hG).mono hB.size)
              clear hG z14 hx hy hu hv hvK hxl hyl hul hvl ho1 ho2
              have hpq : (p : Int) % 256 = (q : Int) % 256 := by have := HD.out; omega
              go_simp
              go_wp2_with fail
              go_roundw
              case rel => exact ⟨r + 1, by omega, by go_num, by rw [HS1.out]; go_num, by rw [HS2.out]; go_num, h3, h4, h8, h9, hB⟩
              case measure => simp [intOf]; omega
        · obtain rfl : r = 16 := by omega
          simp only [show ((16 : Nat) : Int) = 16 from rfl]
          go_wp2_with (go_at_call 10; refine (tags_any _).mono ?_; rintro e w9 ⟨rfl, hB9⟩)
          go_ret
          exact ⟨rfl, hB.trans (hB9.mono hB.size)⟩
end Go.Proofs.Ytacodfeflmbheaa

