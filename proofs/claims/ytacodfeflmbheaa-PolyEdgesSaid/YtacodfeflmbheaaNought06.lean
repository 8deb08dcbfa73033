/- The walk of the law PolyNought. No condition. -/
import Derived.Test.YtacodfeflmbheaaTags06
namespace Go.Proofs.Ytacodfeflmbheaa
open Go.RowKit
theorem leBytes_leNat (l : List UInt8) : leBytes l.length (leNat l) = l := by
  induction l with
  | nil => rfl
  | cons c r ih =>
    have hc := c.toNat_lt
    rw [List.length_cons, leBytes, leNat]
    have e1 : (c.toNat + 256 * leNat r) / 256 = leNat r := by omega
    have e2 : UInt8.ofNat (c.toNat + 256 * leNat r) = c := by
      apply UInt8.toNat_inj.1
      rw [UInt8.toNat_ofNat']
      omega
    rw [e1, e2, ih]
theorem pH_zero (b : List UInt8) (k : Nat) : pH 0 b k = 0 := by
  cases k with
  | zero => rfl
  | succ k => rw [pH, Nat.mul_zero]; rfl
theorem tagL_drop {K b : List UInt8} (hK : K.length = 32) (h : pH (leNat (rL K)) b ((b.length + 15) / 16) = 0) : tagL K b = K.drop 16 := by
  have hl : (K.drop 16).length = 16 := by simp [hK]
  have := leBytes_leNat (K.drop 16)
  rw [hl] at this
  rw [tagL, h, Nat.zero_add, this]
theorem tagL_nil {K : List UInt8} (hK : K.length = 32) : tagL K [] = K.drop 16 := tagL_drop hK rfl
def lowAt (K : List UInt8) : Nat → List UInt8
  | 0 => K
  | k + 1 => (lowAt K k).set k 0
@[simp] theorem lowAt_length (K : List UInt8) (k : Nat) : (lowAt K k).length = K.length := by
  induction k with
  | zero => rfl
  | succ k ih => rw [lowAt, List.length_set, ih]
theorem lowAt_is {K : List UInt8} (k : Nat) (h : k ≤ K.length) : lowAt K k = List.replicate k 0 ++ K.drop k := by
  induction k with
  | zero => rfl
  | succ k ih =>
    rw [lowAt, ih (by omega), List.set_append_right _ _ (by simp), List.length_replicate, Nat.sub_self, List.drop_eq_getElem_cons (by omega), List.set_cons_zero, List.replicate_succ', List.append_assoc]
    rfl
theorem tagL_low {K : List UInt8} (hK : K.length = 32) (b : List UInt8) : tagL (lowAt K 16) b = K.drop 16 := by
  have e := lowAt_is (K := K) 16 (by omega)
  have e1 : (lowAt K 16).drop 16 = K.drop 16 := by rw [e, List.drop_append_of_le_length (by simp), List.drop_of_length_le (by simp), List.nil_append]
  have e2 : (lowAt K 16).take 16 = List.replicate 16 0 := by rw [e, List.take_append_of_le_length (by simp), List.take_of_length_le (by simp)]
  have e3 : leNat (rL (lowAt K 16)) = 0 := by rw [rL, e2]; decide
  rw [tagL_drop (by simp [hK]) (by rw [e3]; exact pH_zero _ _), e1]
set_option maxRecDepth 100000 in
set_option maxHeartbeats 4000000 in
theorem law_nought (K : List UInt8) (hK : K.length = 32) (A : Option Addr) (n c : Nat) (b : List UInt8) (w : World) (hnc : n ≤ c) (hcm : c ≤ maxLen) (hb : Rd w A n (u8s b)) :
    Calls Try.prog 7 #[.agg (u8s K).toArray, .slice A n c] w fun e w' => e = .returned (.bool true) ∧ Below w.heap.size w w' := by
  unfold maxLen at hcm
  obtain ⟨m, hm⟩ : ∃ m : Nat, m = min n 200 := ⟨_, rfl⟩
  have hk : min (n : Int) 200 = (m : Int) := by omega
  have hmn : m ≤ n := by omega
  have hbm : Rd w A m (u8s (b.take m)) := by rw [← u8s_take]; exact hb.take hmn
  obtain ⟨l, hl⟩ : ∃ l, l = b.take m := ⟨_, rfl⟩
  rw [← hl] at hbm
  have hc1 := fun w => polyTag_any K hK none 0 0 [] (Nat.le_refl _) w (Rd.nil w none)
  rw [tagL_nil hK] at hc1
  have hc2 := fun w hr => polyTag_any (lowAt K 16) (by simp [hK]) A m c l (by omega) w hr
  rw [tagL_low hK] at hc2
  obtain ⟨X, hX⟩ : ∃ X, X = K.drop 16 := ⟨_, rfl⟩
  have hlX : X.length = 16 := by rw [hX]; simp [hK]
  rw [← hX] at hc1 hc2
  have HX := Lib.hid hX
  have hcut := fun w1 => run_cutRdH (P := Try.prog) Try.underlying23 (by kernel_rfl) (A := A) (n := n) (c := c) (k := m) (z := (m : Int)) rfl hmn hnc w1
  have HC1 := Lib.hid hc1
  have HC2 := Lib.hid hc2
  clear hm hl hb hX hc1 hc2
  go_enter Try.func7, Try.ntmps7
  go_wp2_with first
    | (refine wpList_load_mid rfl 22 (.tmp 2) rfl w.heap.size 0 rfl (u8s K) _ h2.range Try.underlying22 rfl (info22 K hK) ?_)
    | (refine wpList_load_mid rfl 22 (.tmp 2) rfl w.heap.size 0 rfl (u8s K) _ (Arr.newAt rfl rfl).range Try.underlying22 rfl (info22 K hK) ?_)
    | (go_at_call 9; refine (HC1.out _).mono ?_; rintro e w1 ⟨rfl, hB1⟩; have h2 := Arr.below (Arr.newAt (t := 22) (C := (u8s K).toArray) rfl rfl) hB1 (by simp only [asz]; omega); have hB := ((Below.refl w.heap.size w).alloc (by omega) _).trans (hB1.mono (by simp only [asz]; omega)); clear hB1)
    | (refine wpList_new rfl 24 (.tmp 5) (.tmp 15) rfl _ (u8s X) rfl rfl rfl (by simp only [u8s_length, hlX]; rfl) (info16 X hlX) (u8s_oneCell _) ?_; intro w3 h5 hG3; replace h2 := h2.gr hG3; replace hB := hB.trans (hG3.mono hB.size); clear hG3)
    | (refine wpList_new rfl 22 (.tmp 6) (.tmp 16) rfl _ (u8s K) rfl rfl rfl (by simp only [u8s_length, hK]; rfl) (info22 K hK) (u8s_oneCell _) ?_; intro w4 h6 hG4; have l5 := h5.lt; have l2 := h2.lt; replace h2 := h2.gr hG4; replace h5 := h5.gr hG4; replace hB := hB.trans (hG4.mono hB.size); clear hG4)
  generalize w1.heap.size = g5 at h5 l5 ⊢
  generalize w3.heap.size = g6 at h6 l5 l2 ⊢
  generalize w4 = W at h2 h5 h6 hB ⊢
  clear HC1 hcut
  go_loopw [7] (fun i wr => ∃ r : Nat, r ≤ 16 ∧ i = .int .i64 r ∧ Arr wr w.heap.size 22 (u8s K) ∧ Arr wr g5 24 (u8s X) ∧ Arr wr g6 22 (u8s (lowAt K r)) ∧ Below w.heap.size w wr) (fun i _ => 16 - (intOf i).toNat)
  case atStart => exact ⟨0, by omega, rfl, h2, h5, h6, hB⟩
  case round =>
    obtain ⟨r, hr16, rfl, h2, h5, h6, hB⟩ := hrel
    by_cases hlt : r < 16
    · have c1 := h6.cell (i := r) (v := _) (u8s_at (List.getElem?_eq_getElem (by simp [hK]; omega)))
      have f1 := h6.frozen r
      go_wp2_with fail
      go_roundw
      case rel =>
        have hs' := h6.set r (.int .u8 ((0 : UInt8).toNat : Int))
        rw [u8s_set] at hs'
        exact ⟨r + 1, by omega, by go_num, h2.other (by simp only []; omega) _, h5.other (by simp only []; omega) _, hs', hB.trans (below_setCell (by simp only []; omega))⟩
      case measure => simp [intOf]; omega
    · obtain rfl : r = 16 := by omega
      have hlL : (lowAt K 16).length = 32 := by simp [hK]
      have hrd := hbm.below hB
      generalize lowAt K 16 = L at h6 HC2 hlL ⊢
      simp only [show ((16 : Nat) : Int) = 16 from rfl]
      go_wp2_with first
        | (refine wpList_load_mid rfl 22 (.tmp 6) rfl g6 0 rfl (u8s L) _ h6.range Try.underlying22 rfl (info22 L hlL) ?_)
        | (go_at_call 9; refine (HC2.out _ hrd).mono ?_; rintro e w5 ⟨rfl, hB5⟩; replace h2 := h2.gr hB5; replace h5 := h5.gr hB5; replace hB := hB.trans (hB5.mono hB.size); clear hB5 hrd)
        | (refine wpList_new rfl 24 (.tmp 8) (.tmp 25) rfl _ (u8s X) rfl rfl rfl (by simp only [u8s_length, hlX]; rfl) (info16 X hlX) (u8s_oneCell _) ?_; intro w6 h8 hG6; replace h2 := h2.gr hG6; replace h5 := h5.gr hG6; replace hB := hB.trans (hG6.mono hB.size); clear hG6)
      generalize w5.heap.size = g8 at h8 ⊢
      generalize w6 = W0 at h2 h5 h8 hB ⊢
      have hr5 := h5.rdAll hlX
      have hr8 := h8.rdAll hlX
      have hr2 := h2.rd 16 16 (by simp [hK])
      rw [u8s_drop, u8s_take, ← HX.out, List.take_of_length_le (by omega)] at hr2
      go_simp
      refine wp_region_ssaL (by kernel_rfl) [IsV (.bool true), IsV (.bool true), IsV (.slice (some ⟨g5, 0, none⟩) 16 16), IsV (.string ⟨(X).toArray⟩), IsV (.slice (some ⟨w.heap.size, 16, none⟩) 16 16), IsV (.string ⟨(X).toArray⟩), IsV (.bool true), IsV (.bool true), IsV (.bool true), IsV (.slice (some ⟨g8, 0, none⟩) 16 16), IsV (.string ⟨(X).toArray⟩), IsV (.slice (some ⟨w.heap.size, 16, none⟩) 16 16), IsV (.string ⟨(X).toArray⟩), IsV (.bool true), IsV (.bool true), IsV (.bool true)] (by kernel_rfl) ?_ ?_ ?_
      · intro φ hφ v w1 w2 h hg
        simp only [List.mem_cons, List.not_mem_nil, or_false] at hφ
        rcases hφ with rfl | rfl | rfl | rfl | rfl | rfl | rfl | rfl | rfl | rfl | rfl | rfl | rfl | rfl | rfl | rfl
        all_goals first | exact h | exact RdV.gr h hg
      · refine ⟨?_, ?_, ?_, ?_, ?_, ?_, ?_, ?_, ?_, ?_, ?_, ?_, ?_, ?_, ?_, ?_, trivial⟩
        · intro a1 w1 hG hF
          exact s_call rfl (wants0 rfl) _ rfl _ _ (by simp only [execOp, resolve, invoke, List.map_toArray, List.map_nil]; go_simp) ((tags_any w1).mono fun e w2 ⟨he, hb⟩ => ⟨_, he, rfl, hb⟩)
        · intro a1 w1 hG hF
          exact s_same rfl (wants0 rfl) (.tmp 26) (.inr rfl) (hF.dp 0 26 (by kernel_rfl))
        · intro a1 w1 hG hF
          have e5 : a1.eval (.tmp 5) = .pointer (some ⟨g5, 0, none⟩) := hF.ol 5 (by kernel_rfl)
          exact s_is rfl (wantsG hF 1 27 true rfl (by kernel_rfl) rfl) _ rfl (by simp only [execOp, e5, Option.map, Sem.run_bind, run_cutAll (P := Try.prog) Try.underlying24 (by kernel_rfl), Result.andThen_ok, Sem.run_pure])
        · intro a1 w1 hG hF
          obtain ⟨_, e28, rfl⟩ := hF.dp 2 28 (by kernel_rfl)
          exact s_str rfl (wantsG hF 1 27 true rfl (by kernel_rfl) rfl) _ _ _ (.tmp 28) rfl Try.underlying23 Try.underlying5 Try.underlying9 _ _ _ _ e28 (Gr.rd ((Gr.drew W0).trans hG) hr5) rfl
        · intro a1 w1 hG hF
          have e2 : a1.eval (.tmp 2) = .pointer (some ⟨w.heap.size, 0, none⟩) := hF.ol 2 (by kernel_rfl)
          exact s_is rfl (wantsG hF 1 27 true rfl (by kernel_rfl) rfl) _ rfl (by simp only [execOp, e2, show a1.eval (.const (.int .i64 16)) = .int .i64 16 from rfl, Option.map, Sem.run_bind, run_cutA_l (P := Try.prog) Try.underlying22 (by kernel_rfl) w.heap.size 16 (by omega) 16 rfl, Result.andThen_ok, Sem.run_pure])
        · intro a1 w1 hG hF
          obtain ⟨_, e30, rfl⟩ := hF.dp 4 30 (by kernel_rfl)
          exact s_str rfl (wantsG hF 1 27 true rfl (by kernel_rfl) rfl) _ _ _ (.tmp 30) rfl Try.underlying23 Try.underlying5 Try.underlying9 _ _ _ _ e30 (Gr.rd ((Gr.drew W0).trans hG) hr2) rfl
        · intro a1 w1 hG hF
          obtain ⟨_, e29, rfl⟩ := hF.dp 3 29 (by kernel_rfl)
          obtain ⟨_, e31, rfl⟩ := hF.dp 5 31 (by kernel_rfl)
          exact s_is rfl (wantsG hF 1 27 true rfl (by kernel_rfl) rfl) _ rfl (by simp only [execOp, e29, e31]; go_simp)
        · intro a1 w1 hG hF
          obtain ⟨_, e27, rfl⟩ := hF.dp 1 27 (by kernel_rfl)
          obtain ⟨_, e32, rfl⟩ := hF.dp 6 32 (by kernel_rfl)
          exact s_pick rfl (wants0 rfl) (.tmp 27) (.tmp 32) _ rfl e27 _ e32 rfl
        · intro a1 w1 hG hF
          exact s_same rfl (wants0 rfl) (.tmp 33) (.inr rfl) (hF.dp 7 33 (by kernel_rfl))
        · intro a1 w1 hG hF
          have e8 : a1.eval (.tmp 8) = .pointer (some ⟨g8, 0, none⟩) := hF.ol 8 (by kernel_rfl)
          exact s_is rfl (wantsG hF 8 34 true rfl (by kernel_rfl) rfl) _ rfl (by simp only [execOp, e8, Option.map, Sem.run_bind, run_cutAll (P := Try.prog) Try.underlying24 (by kernel_rfl), Result.andThen_ok, Sem.run_pure])
        · intro a1 w1 hG hF
          obtain ⟨_, e35, rfl⟩ := hF.dp 9 35 (by kernel_rfl)
          exact s_str rfl (wantsG hF 8 34 true rfl (by kernel_rfl) rfl) _ _ _ (.tmp 35) rfl Try.underlying23 Try.underlying5 Try.underlying9 _ _ _ _ e35 (Gr.rd ((Gr.drew W0).trans hG) hr8) rfl
        · intro a1 w1 hG hF
          have e2 : a1.eval (.tmp 2) = .pointer (some ⟨w.heap.size, 0, none⟩) := hF.ol 2 (by kernel_rfl)
          exact s_is rfl (wantsG hF 8 34 true rfl (by kernel_rfl) rfl) _ rfl (by simp only [execOp, e2, show a1.eval (.const (.int .i64 16)) = .int .i64 16 from rfl, Option.map, Sem.run_bind, run_cutA_l (P := Try.prog) Try.underlying22 (by kernel_rfl) w.heap.size 16 (by omega) 16 rfl, Result.andThen_ok, Sem.run_pure])
        · intro a1 w1 hG hF
          obtain ⟨_, e37, rfl⟩ := hF.dp 11 37 (by kernel_rfl)
          exact s_str rfl (wantsG hF 8 34 true rfl (by kernel_rfl) rfl) _ _ _ (.tmp 37) rfl Try.underlying23 Try.underlying5 Try.underlying9 _ _ _ _ e37 (Gr.rd ((Gr.drew W0).trans hG) hr2) rfl
        · intro a1 w1 hG hF
          obtain ⟨_, e36, rfl⟩ := hF.dp 10 36 (by kernel_rfl)
          obtain ⟨_, e38, rfl⟩ := hF.dp 12 38 (by kernel_rfl)
          exact s_is rfl (wantsG hF 8 34 true rfl (by kernel_rfl) rfl) _ rfl (by simp only [execOp, e36, e38]; go_simp)
        · intro a1 w1 hG hF
          obtain ⟨_, e34, rfl⟩ := hF.dp 8 34 (by kernel_rfl)
          obtain ⟨_, e39, rfl⟩ := hF.dp 13 39 (by kernel_rfl)
          exact s_pick rfl (wants0 rfl) (.tmp 34) (.tmp 39) _ rfl e34 _ e39 rfl
        · intro a1 w1 hG hF
          exact s_same rfl (wants0 rfl) (.tmp 40) (.inl rfl) (hF.dp 14 40 (by kernel_rfl))
      · intro vs w1 hG hf
        have z4 : vs 15 = .bool true := hf.2.2.2.2.2.2.2.2.2.2.2.2.2.2.2.1
        clear hf
        simp only [putAll, Nat.zero_add, Nat.reduceAdd, z4]
        clear z4
        go_simp
        go_wp2_with fail
        go_ret
        exact ⟨rfl, hB.trans (((Gr.drew W0).trans hG).mono hB.size)⟩
end Go.Proofs.Ytacodfeflmbheaa

