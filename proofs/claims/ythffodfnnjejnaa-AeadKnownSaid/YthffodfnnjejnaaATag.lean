/- The walks of aead's tag and of its reference's. No condition. -/
import Derived.Test.YthffodfnnjejnaaAPad
import Derived.Test.YthffodfnnjejnaaAeadP
import Derived.Test.YthffodfnnjejnaaRefStream05
import Derived.Test.YthffodfnnjejnaaPolY
import Derived.Test.YthffodfnnjejnaaSl
import Derived.Deep.Cut
namespace Go.Proofs.Ythffodfnnjejnaa
open Go.RowKit
theorem own_form3 {w : World} {base : Nat} {e : TypeId} {n : Nat} {v : Value} {xs : List Value} (h : w.ownsRow base e 1 v n xs) : ∃ A c, v = .slice A n c ∧ n ≤ c ∧ (A = none → n = 0 ∧ c = 0) ∧ Rd w A n xs := by
  obtain ⟨A, c, hv, hc, _⟩ := own_form h
  refine ⟨A, c, hv, hc, fun hA => ?_, by subst hv; exact Rd.of_own h⟩
  rcases h.2 with ⟨e1, e2⟩ | ⟨g, cap, cur, e1, _⟩
  · rw [hv] at e1
    injection e1 with _ e3 e4
    exact ⟨e3, e4⟩
  · rw [hv, hA] at e1
    cases e1
theorem info64 (l : List UInt8) (h : l.length = 64) : (Try.prog.info? 47).map (·.size) = some (u8s l).length := by simp only [u8s_length, h]; kernel_rfl
set_option maxRecDepth 100000 in
set_option maxHeartbeats 4000000 in
theorem aTag_any (K : List UInt8) (hK : K.length = 32) (N : List UInt8) (hN : N.length = 12) (A : Option Addr) (n c : Nat) (W : List UInt8) (B : Option Addr) (m d : Nat) (C : List UInt8) (hn : n ≤ 100000) (hm : m ≤ 100000) (w : World) (hr : Rd w A n (u8s W)) (hb : Rd w B m (u8s C)) :
    Calls Try.prog 14 #[.agg (u8s K).toArray, .agg (u8s N).toArray, .slice A n c, .slice B m d] w fun e w' => e = .returned (.agg (u8s (aTag K N W C)).toArray) ∧ Below w.heap.size w w' := by
  obtain ⟨i0, hi0, hz0, hz1, hz2⟩ := info_parts Try.info5
  have hWl : W.length = n := by simpa using hr.1
  have hCl : C.length = m := by simpa using hb.1
  have hpW := padA_le W
  have hpC := padA_le C
  obtain ⟨bk, hbk⟩ : ∃ bk, bk = blockL K 0 N := ⟨_, rfl⟩
  have hbl : bk.length = 64 := by rw [hbk]; simp
  have HB : Hid (∀ w, Calls Try.prog 18 #[.agg (u8s K).toArray, .int .u32 0, .agg (u8s N).toArray] w fun e w' => e = .returned (.agg (u8s bk).toArray) ∧ Below w.heap.size w w') := by
    intro w
    rw [hbk]
    exact block_any K hK 0 N hN w
  obtain ⟨T, hT⟩ : ∃ T, T = aTag K N W C := ⟨_, rfl⟩
  have hTl : T.length = 16 := by rw [hT]; simp
  have HT : Hid (∀ w A n c, n ≤ c → Rd w A n (u8s (overL W C)) → Calls Try.prog 22 #[.agg (u8s (bk.take 32)).toArray, .slice A n c] w fun e w' => e = .returned (.agg (u8s T).toArray) ∧ Below w.heap.size w w') := by
    intro w A n c hnc hr
    rw [hT, aTag, ← hbk]
    exact polyTag_any (bk.take 32) (by simp [hbl]) A n c _ hnc w hr
  rw [← hT]
  have HO : Hid (padA W ++ padA C ++ leBytes 8 n ++ leBytes 8 m = overL W C) := by
    show _ = _
    rw [overL, hWl, hCl]
  have hn64 : (n : Int) < 18446744073709551616 := by omega
  clear hbk hT
  have iK := info22 K hK
  have iN := info24 N hN
  have h4 : Arr (((w.alloc (.cells (u8s K).toArray 22)).alloc (.cells (u8s N).toArray 23)).alloc (.cells (u8s (List.replicate 16 0)).toArray 38)) w.heap.size 22 (u8s K) := Arr.alloc (Arr.alloc (Arr.newAt rfl rfl) _) _
  have h5 : Arr (((w.alloc (.cells (u8s K).toArray 22)).alloc (.cells (u8s N).toArray 23)).alloc (.cells (u8s (List.replicate 16 0)).toArray 38)) (w.heap.size + 1) 23 (u8s N) := Arr.alloc (Arr.newAt (asz _ _) rfl) _
  have h8 : Arr (((w.alloc (.cells (u8s K).toArray 22)).alloc (.cells (u8s N).toArray 23)).alloc (.cells (u8s (List.replicate 16 0)).toArray 38)) (w.heap.size + 1 + 1) 38 (u8s (List.replicate 16 0)) := Arr.newAt (by simp only [asz]) rfl
  have G0 : Gr w (((w.alloc (.cells (u8s K).toArray 22)).alloc (.cells (u8s N).toArray 23)).alloc (.cells (u8s (List.replicate 16 0)).toArray 38)) := ((Gr.alloc _ _).trans (Gr.alloc _ _)).trans (Gr.alloc _ _)
  go_enter Try.func14, Try.ntmps14
  go_upto_region 1 with fail
  change Code.wp _ _ _ _ (((w.alloc (.cells (u8s K).toArray 22)).alloc (.cells (u8s N).toArray 23)).alloc (.cells (u8s (List.replicate 16 0)).toArray 38))
  have hs0 : w.heap.size + 1 + 1 < (((w.alloc (.cells (u8s K).toArray 22)).alloc (.cells (u8s N).toArray 23)).alloc (.cells (u8s (List.replicate 16 0)).toArray 38)).heap.size := by simp only [asz]; omega
  generalize ((w.alloc (.cells (u8s K).toArray 22)).alloc (.cells (u8s N).toArray 23)).alloc (.cells (u8s (List.replicate 16 0)).toArray 38) = w0 at h4 h5 h8 G0 hs0 ⊢
  obtain ⟨g8, hg8⟩ : ∃ g, g = w.heap.size + 1 + 1 := ⟨_, rfl⟩
  rw [← hg8] at h8 hs0
  simp only [← hg8]
  have HG8 := Lib.hid hg8
  clear hg8
  generalize w.heap.size + 1 = g5 at h5 ⊢
  have hr0 := G0.rd hr
  have hb0 := G0.rd hb
  go_upto_region 2 with first
    | (refine wpList_load_mid rfl 22 (.tmp 4) rfl w.heap.size 0 rfl (u8s K) _ h4.range Try.underlying22 rfl iK ?_)
    | (refine wpList_load_mid rfl 23 (.tmp 5) rfl g5 0 rfl (u8s N) _ h5.range Try.underlying23 rfl iN ?_)
    | (go_at_call 18; refine (HB.out _).mono ?_; rintro e w1 ⟨rfl, hB1⟩)
    | (refine wpList_new rfl 47 (.tmp 9) (.tmp 13) rfl _ (u8s bk) rfl rfl rfl (by simp only [u8s_length, hbl]; rfl) (info64 bk hbl) (u8s_oneCell _) ?_; intro w3 h9 hG3)
  have G3 : Gr w0 w3 := Gr.trans hB1 hG3
  have hr3 := G3.rd hr0
  have hb3 := G3.rd hb0
  have h83 := h8.gr G3
  have hs3 : g8 < w3.heap.size := Nat.lt_of_lt_of_le hs0 G3.size
  have hB3 : Below w.heap.size w w3 := Below.trans G0 (Below.mono G3 G0.size)
  generalize w1.heap.size = g9 at h9 ⊢
  clear hB1 hG3 G3 hr0 hb0 h8 hs0 G0 h4 h5 iK iN
  have HL : Hid (∀ w (x : Nat), x < 18446744073709551616 → Calls Try.prog 21 #[.int .u64 (x : Int), .int .i64 8] w fun e w' => ∃ v, e = .returned v ∧ w'.ownsRow w.heap.size 5 1 v 8 (u8s (leBytes 8 x)) ∧ Below w.heap.size w w') := fun w x hx => putLow_any x hx 8 w
  have HM : Hid (padA W ++ padA C ++ leBytes 8 n ++ leBytes 8 m = overL W C) := HO
  obtain ⟨np, hnp⟩ : ∃ np, np = (padA W).length := ⟨_, rfl⟩
  obtain ⟨nq, hnq⟩ : ∃ nq, nq = (padA C).length := ⟨_, rfl⟩
  have hp1 := apad_any A n c W (by omega) w3 hr3
  have hp2 := fun w hb => apad_any B m d C (by omega) w hb
  rw [← hnp] at hp1
  rw [← hnq] at hp2
  have HP2 := Lib.hid hp2
  have hnp2 : np ≤ 100015 := by omega
  have hnq2 : nq ≤ 100015 := by omega
  clear hp2 hnp hnq hpW hpC hWl hCl HO
  go_wp2_with fail
  refine hp1.mono ?_
  rintro e w4 ⟨v4, rfl, ho4, hB4⟩
  obtain ⟨A4, c4, rfl, hc4, _, hr4⟩ := own_form3 ho4
  clear hp1
  go_wp2_with fail
  refine (HP2.out w4 (hb3.below hB4)).mono ?_
  rintro e w5 ⟨v5, rfl, ho5, hB5⟩
  obtain ⟨A5, c5, rfl, hc5, _, hr5⟩ := own_form3 ho5
  have ho45 := Gr.own hB5 ho4
  have hb45 : Below w3.heap.size w3 w5 := hB4.trans (hB5.mono hB4.size)
  clear HP2 ho4 hr4 ho5
  go_wp2_with (at_builtin; go_must (refine wpList_app _ rfl (.tmp 15) (.tmp 17) 26 rfl w3.heap.size 5 i0 (.int .u8 0) 1 Try.underlying26 hi0 hz0 hz1 hz2 rfl (.slice A4 np c4) np _ rfl ho45 A5 nq c5 _ rfl hr5 (u8s_oneCell _) (by omega) (by unfold maxLen; omega) hb45.size ?_))
  intro v6 w6 hA6
  have ho6 := hA6.own
  have hb6 := hb45.trans (hA6.below ho45 hb45.size)
  obtain ⟨A6, c6, rfl, hc6, _, hr6⟩ := own_form3 ho6
  clear hA6 ho45 hb45 hr5 hB4 hB5 hr6
  have hn64 : ((n : Nat) : Int) < 18446744073709551616 := by omega
  have hm64 : ((m : Nat) : Int) < 18446744073709551616 := by omega
  go_simp
  go_wp2_with fail
  refine (HL.out w6 n (by omega)).mono ?_
  rintro e w7 ⟨v7, rfl, ho7, hB7⟩
  obtain ⟨A7, c7, rfl, _, _, hr7⟩ := own_form3 ho7
  have ho67 := Gr.own hB7 ho6
  have hb7 := hb6.trans (hB7.mono hb6.size)
  clear ho6 hb6 hB7 ho7
  go_wp2_with (at_builtin; go_must (refine wpList_app _ rfl (.tmp 19) (.tmp 23) 26 rfl w3.heap.size 5 i0 (.int .u8 0) 1 Try.underlying26 hi0 hz0 hz1 hz2 rfl (.slice A6 (np + nq) c6) (np + nq) _ rfl ho67 A7 8 c7 _ rfl hr7 (u8s_oneCell _) (by omega) (by unfold maxLen; omega) hb7.size ?_))
  intro v8 w8 hA8
  have ho8 := hA8.own
  have hb8 := hb7.trans (hA8.below ho67 hb7.size)
  obtain ⟨A8, c8, rfl, hc8, _, hr8⟩ := own_form3 ho8
  clear hA8 ho67 hb7 hr7 hr8
  go_simp
  go_wp2_with fail
  refine (HL.out w8 m (by omega)).mono ?_
  rintro e w9 ⟨v9, rfl, ho9, hB9⟩
  obtain ⟨A9, c9, rfl, _, _, hr9⟩ := own_form3 ho9
  have ho89 := Gr.own hB9 ho8
  have hb9 := hb8.trans (hB9.mono hb8.size)
  clear ho8 hb8 hB9 ho9
  go_wp2_with (at_builtin; go_must (refine wpList_app _ rfl (.tmp 25) (.tmp 29) 26 rfl w3.heap.size 5 i0 (.int .u8 0) 1 Try.underlying26 hi0 hz0 hz1 hz2 rfl (.slice A8 (np + nq + 8) c8) (np + nq + 8) _ rfl ho89 A9 8 c9 _ rfl hr9 (u8s_oneCell _) (by omega) (by unfold maxLen; omega) hb9.size ?_))
  intro v10 w10 hA10
  have ho10 := hA10.own
  have hb10 := hb9.trans (hA10.below ho89 hb9.size)
  obtain ⟨A10, c10, rfl, hc10, _, hr10⟩ := own_form3 ho10
  simp only [← u8s_append, ← List.append_assoc] at hr10
  rw [HM.out] at hr10
  have h810 := h83.below hb10 hs3
  have h910 := h9.gr hb10
  have hB10 := hB3.trans (hb10.mono hB3.size)
  have hrg : w10.rangeAt g9 0 (u8s (bk.take 32)) := fun j v hj => h910.range j v (by
    rw [← u8s_take, List.getElem?_take] at hj
    split at hj
    · exact hj
    · simp at hj)
  have hb32 : (bk.take 32).length = 32 := by rw [List.length_take, hbl]; rfl
  have hcut := fun w => run_acut_h (P := Try.prog) Try.underlying47 (by kernel_rfl) g9 32 (by omega) 32 rfl w
  have ha := fun w => run_arrAt (P := Try.prog) Try.underlying22 (A := some ⟨g9, 0, none⟩) (c := 64) (Nat.le_refl 32) w
  have hT10 := HT.out w10 A10 (np + nq + 8 + 8) c10 hc10 hr10
  clear hA10 ho89 hb9 hr9 ho10 hn64 hm64 h83 h9 HL HT HB hb10
  go_simp
  go_wp2_with first
    | (refine wpList_load_mid rfl 22 (.tmp 32) rfl g9 0 rfl (u8s (bk.take 32)) _ hrg Try.underlying22 rfl (info22 _ hb32) ?_)
    | (go_at_call 22; refine hT10.mono ?_; rintro e w11 ⟨rfl, hB11⟩)
    | (refine wpList_put (h810.gr hB11) rfl 38 (.tmp 8) (.tmp 35) rfl (u8s T) rfl rfl (by simp [hTl]) (info16 T hTl) (u8s_oneCell _) ?_; intro w12 h12 hB12 _)
  refine bodyPost_ret (results_cell_row rfl _ _ g8 _ _ _ _ rfl h12 Try.underlying38 rfl (by have := info16 T hTl; simpa using this)) rfl ?_
  have hB13 := hB10.trans (hB11.mono hB10.size)
  exact ⟨rfl, hB13.trans (hB12.mono (by have := HG8.out; omega))⟩
end Go.Proofs.Ythffodfnnjejnaa
