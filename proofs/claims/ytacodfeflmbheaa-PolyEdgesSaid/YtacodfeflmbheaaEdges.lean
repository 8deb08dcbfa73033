/- The walk of the law PolyEdges. No condition. -/
import Derived.Test.YtacodfeflmbheaaPTags
import Derived.Test.YtacodfeflmbheaaMake
import Derived.Test.YtacodfeflmbheaaOpen
namespace Go.Proofs.Ytacodfeflmbheaa
open Go.RowKit
theorem wrap_rem (z : Int) (m : Nat) (hm : 0 < m) (hm2 : m < 1000) : ∃ i : Nat, i < m ∧ wrap64 ((IntKind.u64.wrap z).tmod m) = i := by
  have h0 : 0 ≤ z % 18446744073709551616 := Int.emod_nonneg _ (by omega)
  have h1 := Int.emod_lt_of_pos (z % 18446744073709551616) (b := m) (by omega)
  have h2 := Int.emod_nonneg (z % 18446744073709551616) (b := m) (by omega)
  refine ⟨((z % 18446744073709551616) % m).toNat, by omega, ?_⟩
  rw [IntKind.wrap_u64, Int.tmod_eq_emod_of_nonneg h0, Int.toNat_of_nonneg h2]
  exact IntWalk.wrap64_in _ (by omega)
theorem Arr.of_own_full {w : World} {base : Nat} {e : TypeId} {g n : Nat} {xs : List Value} (h : w.ownsRow base e 1 (.slice (some ⟨g, 0, none⟩) n n) n xs) : Arr w g e xs := by
  obtain ⟨_, h2⟩ := h
  rcases h2 with ⟨h2, _⟩ | ⟨g', cap, cur, h2, _, h3, _, _, h4, h5⟩
  · cases h2
  · injection h2 with h6 h7 h8
    injection h6 with h6
    injection h6 with h6
    subst h6 h8
    rw [Nat.mul_one] at h4 h5
    rw [List.take_of_length_le (by simp [h4])] at h5
    unfold Arr
    rw [← h5]
    exact h3
set_option maxRecDepth 100000 in
set_option maxHeartbeats 8000000 in
theorem law_edges (x0 x1 x2 : Nat) (z : Int) (last : UInt8) (w : World) :
    Calls Try.prog 4 #[.agg #[.int .u64 x0, .int .u64 x1, .int .u64 x2], .int .i64 z, .int .u8 last.toNat] w fun e w' => e = .returned (.bool true) ∧ Below w.heap.size w w' := by
  obtain ⟨i0, hi0, hz0, hz1, hz2⟩ := info_parts Try.info5
  obtain ⟨k, hk70, hkw⟩ := wrap_rem z 70 (by omega) (by omega)
  simp only [show ((70 : Nat) : Int) = 70 from rfl] at hkw
  have HKW := Lib.hid hkw
  clear hkw
  go_enter Try.func4, Try.ntmps4
  go_wp2_with fail
  generalize hW : (w.alloc _).alloc _ = W
  obtain ⟨g3, hg3⟩ : ∃ g, g = w.heap.size := ⟨_, rfl⟩
  obtain ⟨g7, hg7⟩ : ∃ g, g = w.heap.size + 1 := ⟨_, rfl⟩
  obtain ⟨C3, hC3⟩ : ∃ C : List Value, C = [.int .u64 (x0 : Int), .int .u64 (x1 : Int), .int .u64 (x2 : Int)] := ⟨_, rfl⟩
  have hM : Mem g3 w W [(g7, 22, u8s (List.replicate 32 0)), (g3, 30, C3)] := by
    have h := ((Mem.nil w).new (t := 30) (C := #[.int .u64 (x0 : Int), .int .u64 (x1 : Int), .int .u64 (x2 : Int)]) (cs := C3) (Nat.le_refl _) hC3.symm).new (t := 22) (C := (u8s (List.replicate 32 0)).toArray) (cs := u8s (List.replicate 32 0)) (Nat.le_refl _) (by simp)
    rw [asz] at h
    rw [← hW, hg3, hg7]
    exact h
  have hB0 : g3 ≤ w.heap.size := by omega
  have q0 : C3[0]? = some (.int .u64 (x0 : Int)) := by rw [hC3]; rfl
  have q1 : C3[1]? = some (.int .u64 (x1 : Int)) := by rw [hC3]; rfl
  simp only [← hg7]
  simp only [← hg3]
  have HG := Lib.hid hg3
  clear hW hg3 hg7 hC3
  go_loopw [8] (fun i wr => ∃ r : Nat, r ≤ 32 ∧ i = .int .i64 r ∧ ∃ Kl : List UInt8, Kl.length = 32 ∧ Mem g3 w wr [(g7, 22, u8s Kl), (g3, 30, C3)]) (fun i _ => 32 - (intOf i).toNat)
  case atStart => exact ⟨0, by omega, rfl, _, by simp, hM⟩
  case round =>
    clear hM
    obtain ⟨r, hr, rfl, Kl, hKl, hM⟩ := hrel
    by_cases hlt : r < 32
    · have c3 := (hM.at_ 1 rfl).cell q0
      have c7 := (hM.at_ 0 rfl).cell (i := r) (u8s_at (List.getElem?_eq_getElem (by omega)))
      have f7 := (hM.at_ 0 rfl).frozen r
      have hM' := hM.set 0 rfl r (.int .u8 ((255 : UInt8).toNat : Int))
      rw [u8s_set] at hM'
      simp only [List.set] at hM'
      clear q1
      go_wp2_with fail
      · exact ⟨⟨r + 1, by omega, by go_num, _, by simp [hKl], hM'⟩, by simp [intOf]; omega⟩
      · exact ⟨⟨r + 1, by omega, by go_num, _, hKl, hM⟩, by simp [intOf]; omega⟩
    · obtain rfl : r = 32 := by omega
      obtain ⟨w5, hmk, ho5, hG5⟩ := run_makeU8 (P := Try.prog) wr Try.underlying23 hi0 hz0 hz1 hz2 .i64 .i64 k (by omega)
      have hM5 := hM.cons hB0 hG5 (Arr.of_own_full ho5) (Nat.le_refl _)
      have hkw := HKW.out
      clear hM ho5
      simp only [show ((32 : Nat) : Int) = 32 from rfl]
      go_wp2_with fail
      have hsz := hM5.lt 0 rfl
      generalize wr.heap.size = g9 at hM5 hsz ⊢
      clear hmk hG5 hkw
      go_loopw [10] (fun i wr => ∃ r : Nat, r ≤ k ∧ i = .int .i64 r ∧ ∃ Bl : List UInt8, Bl.length = k ∧ Mem g3 w wr [(g9, 5, u8s Bl), (g7, 22, u8s Kl), (g3, 30, C3)]) (fun i _ => k - (intOf i).toNat)
      case atStart => exact ⟨0, by omega, rfl, _, by simp, hM5⟩
      case round =>
        clear hM5
        obtain ⟨r, hr, rfl, Bl, hBl, hM⟩ := hrel
        by_cases hlt : r < k
        · have c3 := (hM.at_ 2 rfl).cell q1
          have c9 := (hM.at_ 0 rfl).cell (i := r) (u8s_at (List.getElem?_eq_getElem (by omega)))
          have f9 := (hM.at_ 0 rfl).frozen r
          have hM' := hM.set 0 rfl r (.int .u8 ((255 : UInt8).toNat : Int))
          rw [u8s_set] at hM'
          simp only [List.set] at hM'
          clear q0
          go_wp2_with fail
          · exact ⟨⟨r + 1, by omega, by go_num, _, by simp [hBl], hM'⟩, by simp [intOf]; omega⟩
          · exact ⟨⟨r + 1, by omega, by go_num, _, hBl, hM⟩, by simp [intOf]; omega⟩
        · obtain rfl : r = k := by omega
          clear q0 q1
          have hT : ∃ Bl' : List UInt8, Bl'.length = r ∧ (0 < r → Bl' = Bl.set (r - 1) last) ∧ (r = 0 → Bl' = Bl) := by
            rcases Nat.eq_zero_or_pos r with h | h
            · exact ⟨Bl, hBl, fun h1 => by omega, fun _ => rfl⟩
            · exact ⟨Bl.set (r - 1) last, by simp [hBl], fun _ => rfl, fun h1 => by omega⟩
          obtain ⟨l, hl, hls, hl0⟩ := hT
          have hc1 := fun w A hr => polyTag_any Kl hKl A r r l (Nat.le_refl _) w hr
          have hr1 := fun w => refTag_any Kl hKl l (by omega) w
          obtain ⟨X, hX⟩ : ∃ X, X = tagL Kl l := ⟨_, rfl⟩
          have hlX : X.length = 16 := by rw [hX]; simp [tagL]
          rw [← hX] at hc1 hr1
          have HC1 := Lib.hid hc1
          have HR1 := Lib.hid hr1
          have HLS := Lib.hid hls
          have HL0 := Lib.hid hl0
          clear hX hc1 hr1 hls hl0 hr
          rcases Nat.eq_zero_or_pos r with h0 | h0
          · have hM := hM
            rw [← HL0.out h0] at hM
            have hrd := (hM.at_ 0 rfl).rdAll hl
            have h0' : ¬ 0 < r := by omega
            clear h0
            go_wp2_with first
              | (refine wpList_load_mid rfl 22 (.tmp 7) rfl g7 0 rfl (u8s Kl) _ (hM.at_ 1 rfl).range Try.underlying22 rfl (info22 Kl hKl) ?_)
              | (go_at_call 9; refine (HC1.out _ _ hrd).mono ?_; rintro e w2 ⟨rfl, hB2⟩; replace hM := hM.gr hB0 hB2; clear hB2 hrd)
              | (refine wpList_newM hM hB0 rfl 24 (.tmp 11) (.tmp 56) rfl _ (u8s X) rfl rfl rfl (by simp only [u8s_length, hlX]; rfl) (info16 X hlX) (u8s_oneCell _) ?_; intro w3 hM3 _)
            generalize w2.heap.size = g11 at hM3 ⊢
            generalize w3 = W0 at hM3 ⊢
            have hr11 := (hM3.at_ 0 rfl).rdAll hlX
            have hr9 := (hM3.at_ 1 rfl).rdAll hl
            have hr7 := (hM3.at_ 2 rfl).rdAll hKl
            go_simp
            refine wp_region_ssaL (by kernel_rfl) [IsV (.bool true), IsV (.bool true), IsV (.slice (some ⟨g11, 0, none⟩) 16 16), IsV (.string ⟨(X).toArray⟩), IsV (.slice (some ⟨g7, 0, none⟩) 32 32), IsV (.string ⟨(Kl).toArray⟩), IsV (.slice (some ⟨g9, 0, none⟩) r r), IsV (.string ⟨(l).toArray⟩), IsV (.string ⟨(X).toArray⟩), IsV (.bool true), IsV (.bool true), IsV (.bool true)] (by kernel_rfl) ?_ ?_ ?_
            · intro φ hφ v w1 w2 h hg
              simp only [List.mem_cons, List.not_mem_nil, or_false] at hφ
              rcases hφ with rfl | rfl | rfl | rfl | rfl | rfl | rfl | rfl | rfl | rfl | rfl | rfl
              all_goals first | exact h | exact RdV.gr h hg
            · refine ⟨?_, ?_, ?_, ?_, ?_, ?_, ?_, ?_, ?_, ?_, ?_, ?_, trivial⟩
              · intro a1 w1 hG hF
                exact s_call rfl (wants0 rfl) _ rfl _ _ (by simp only [execOp, resolve, invoke, List.map_toArray, List.map_nil]; go_simp) ((tags_any w1).mono fun e w2 ⟨he, hb⟩ => ⟨_, he, rfl, hb⟩)
              · intro a1 w1 hG hF
                exact s_same rfl (wants0 rfl) (.tmp 57) (.inr rfl) (hF.dp 0 57 (by kernel_rfl))
              · intro a1 w1 hG hF
                have e11 : a1.eval (.tmp 11) = .pointer (some ⟨g11, 0, none⟩) := hF.ol 11 (by kernel_rfl)
                exact s_is rfl (wantsG hF 1 58 true rfl (by kernel_rfl) rfl) _ rfl (by simp only [execOp, e11, Option.map, Sem.run_bind, run_cutAll (P := Try.prog) Try.underlying24 (by kernel_rfl), Result.andThen_ok, Sem.run_pure])
              · intro a1 w1 hG hF
                obtain ⟨_, e59, rfl⟩ := hF.dp 2 59 (by kernel_rfl)
                exact s_str rfl (wantsG hF 1 58 true rfl (by kernel_rfl) rfl) _ _ _ (.tmp 59) rfl Try.underlying23 Try.underlying5 Try.underlying9 _ _ _ _ e59 (Gr.rd ((Gr.drew W0).trans hG) hr11) rfl
              · intro a1 w1 hG hF
                have e7 : a1.eval (.tmp 7) = .pointer (some ⟨g7, 0, none⟩) := hF.ol 7 (by kernel_rfl)
                exact s_is rfl (wantsG hF 1 58 true rfl (by kernel_rfl) rfl) _ rfl (by simp only [execOp, e7, Option.map, Sem.run_bind, run_cutAll (P := Try.prog) Try.underlying22 (by kernel_rfl), Result.andThen_ok, Sem.run_pure])
              · intro a1 w1 hG hF
                obtain ⟨_, e61, rfl⟩ := hF.dp 4 61 (by kernel_rfl)
                exact s_str rfl (wantsG hF 1 58 true rfl (by kernel_rfl) rfl) _ _ _ (.tmp 61) rfl Try.underlying23 Try.underlying5 Try.underlying9 _ _ _ _ e61 (Gr.rd ((Gr.drew W0).trans hG) hr7) rfl
              · intro a1 w1 hG hF
                exact s_old rfl (wantsG hF 1 58 true rfl (by kernel_rfl) rfl) (.tmp 9) (.inr rfl) (.slice (some ⟨g9, 0, none⟩) r r) (hF.ol 9 (by kernel_rfl)) rfl
              · intro a1 w1 hG hF
                obtain ⟨_, e63, rfl⟩ := hF.dp 6 63 (by kernel_rfl)
                exact s_str rfl (wantsG hF 1 58 true rfl (by kernel_rfl) rfl) _ _ _ (.tmp 63) rfl Try.underlying23 Try.underlying5 Try.underlying9 _ _ _ _ e63 (Gr.rd ((Gr.drew W0).trans hG) hr9) rfl
              · intro a1 w1 hG hF
                obtain ⟨_, e62, rfl⟩ := hF.dp 5 62 (by kernel_rfl)
                obtain ⟨_, e64, rfl⟩ := hF.dp 7 64 (by kernel_rfl)
                exact s_call rfl (wantsG hF 1 58 true rfl (by kernel_rfl) rfl) _ rfl _ _ (by simp only [execOp, resolve, invoke, List.map_toArray, List.map_cons, List.map_nil, e62, e64]; go_simp) ((HR1.out w1).mono fun e w2 ⟨he, hb⟩ => ⟨_, he, rfl, hb⟩)
              · intro a1 w1 hG hF
                obtain ⟨_, e60, rfl⟩ := hF.dp 3 60 (by kernel_rfl)
                obtain ⟨_, e65, rfl⟩ := hF.dp 8 65 (by kernel_rfl)
                exact s_is rfl (wantsG hF 1 58 true rfl (by kernel_rfl) rfl) _ rfl (by simp only [execOp, e60, e65]; go_simp)
              · intro a1 w1 hG hF
                obtain ⟨_, e58, rfl⟩ := hF.dp 1 58 (by kernel_rfl)
                obtain ⟨_, e66, rfl⟩ := hF.dp 9 66 (by kernel_rfl)
                exact s_pick rfl (wants0 rfl) (.tmp 58) (.tmp 66) _ rfl e58 _ e66 rfl
              · intro a1 w1 hG hF
                exact s_same rfl (wants0 rfl) (.tmp 67) (.inl rfl) (hF.dp 10 67 (by kernel_rfl))
            · intro vs w1 hG hf
              have z6 : vs 11 = .bool true := hf.2.2.2.2.2.2.2.2.2.2.2.1
              clear hf
              simp only [putAll, Nat.zero_add, Nat.reduceAdd, z6]
              clear z6
              go_simp
              go_wp2_with fail
              go_ret
              exact ⟨rfl, by have := (hM3.gr hB0 ((Gr.drew W0).trans hG)).below; rw [HG.out] at this; exact this⟩
          · obtain ⟨j, rfl⟩ : ∃ j, r = j + 1 := ⟨r - 1, by omega⟩
            have ej : ((j + 1 : Nat) : Int) - 1 = (j : Int) := by omega
            have c9 := (hM.at_ 0 rfl).cell (i := j) (u8s_at (List.getElem?_eq_getElem (by omega)))
            have f9 := (hM.at_ 0 rfl).frozen j
            have hM' := hM.set 0 rfl j (.int .u8 (last.toNat : Int))
            have hlj : l = Bl.set j last := HLS.out h0
            rw [u8s_set, ← hlj] at hM'
            simp only [List.set] at hM'
            have hrd := (hM'.at_ 0 rfl).rdAll hl
            replace hM := hM'
            clear hlj hM'
            go_wp2_with first
              | (refine wpList_load_mid rfl 22 (.tmp 7) rfl g7 0 rfl (u8s Kl) _ (hM.at_ 1 rfl).range Try.underlying22 rfl (info22 Kl hKl) ?_)
              | (go_at_call 9; refine (HC1.out _ _ hrd).mono ?_; rintro e w2 ⟨rfl, hB2⟩; replace hM := hM.gr hB0 hB2; clear hB2 hrd)
              | (refine wpList_newM hM hB0 rfl 24 (.tmp 11) (.tmp 56) rfl _ (u8s X) rfl rfl rfl (by simp only [u8s_length, hlX]; rfl) (info16 X hlX) (u8s_oneCell _) ?_; intro w3 hM3 _)
            generalize w2.heap.size = g11 at hM3 ⊢
            generalize w3 = W0 at hM3 ⊢
            have hr11 := (hM3.at_ 0 rfl).rdAll hlX
            have hr9 := (hM3.at_ 1 rfl).rdAll hl
            have hr7 := (hM3.at_ 2 rfl).rdAll hKl
            go_simp
            refine wp_region_ssaL (by kernel_rfl) [IsV (.bool true), IsV (.bool true), IsV (.slice (some ⟨g11, 0, none⟩) 16 16), IsV (.string ⟨(X).toArray⟩), IsV (.slice (some ⟨g7, 0, none⟩) 32 32), IsV (.string ⟨(Kl).toArray⟩), IsV (.slice (some ⟨g9, 0, none⟩) (j + 1) (j + 1)), IsV (.string ⟨(l).toArray⟩), IsV (.string ⟨(X).toArray⟩), IsV (.bool true), IsV (.bool true), IsV (.bool true)] (by kernel_rfl) ?_ ?_ ?_
            · intro φ hφ v w1 w2 h hg
              simp only [List.mem_cons, List.not_mem_nil, or_false] at hφ
              rcases hφ with rfl | rfl | rfl | rfl | rfl | rfl | rfl | rfl | rfl | rfl | rfl | rfl
              all_goals first | exact h | exact RdV.gr h hg
            · refine ⟨?_, ?_, ?_, ?_, ?_, ?_, ?_, ?_, ?_, ?_, ?_, ?_, trivial⟩
              · intro a1 w1 hG hF
                exact s_call rfl (wants0 rfl) _ rfl _ _ (by simp only [execOp, resolve, invoke, List.map_toArray, List.map_nil]; go_simp) ((tags_any w1).mono fun e w2 ⟨he, hb⟩ => ⟨_, he, rfl, hb⟩)
              · intro a1 w1 hG hF
                exact s_same rfl (wants0 rfl) (.tmp 57) (.inr rfl) (hF.dp 0 57 (by kernel_rfl))
              · intro a1 w1 hG hF
                have e11 : a1.eval (.tmp 11) = .pointer (some ⟨g11, 0, none⟩) := hF.ol 11 (by kernel_rfl)
                exact s_is rfl (wantsG hF 1 58 true rfl (by kernel_rfl) rfl) _ rfl (by simp only [execOp, e11, Option.map, Sem.run_bind, run_cutAll (P := Try.prog) Try.underlying24 (by kernel_rfl), Result.andThen_ok, Sem.run_pure])
              · intro a1 w1 hG hF
                obtain ⟨_, e59, rfl⟩ := hF.dp 2 59 (by kernel_rfl)
                exact s_str rfl (wantsG hF 1 58 true rfl (by kernel_rfl) rfl) _ _ _ (.tmp 59) rfl Try.underlying23 Try.underlying5 Try.underlying9 _ _ _ _ e59 (Gr.rd ((Gr.drew W0).trans hG) hr11) rfl
              · intro a1 w1 hG hF
                have e7 : a1.eval (.tmp 7) = .pointer (some ⟨g7, 0, none⟩) := hF.ol 7 (by kernel_rfl)
                exact s_is rfl (wantsG hF 1 58 true rfl (by kernel_rfl) rfl) _ rfl (by simp only [execOp, e7, Option.map, Sem.run_bind, run_cutAll (P := Try.prog) Try.underlying22 (by kernel_rfl), Result.andThen_ok, Sem.run_pure])
              · intro a1 w1 hG hF
                obtain ⟨_, e61, rfl⟩ := hF.dp 4 61 (by kernel_rfl)
                exact s_str rfl (wantsG hF 1 58 true rfl (by kernel_rfl) rfl) _ _ _ (.tmp 61) rfl Try.underlying23 Try.underlying5 Try.underlying9 _ _ _ _ e61 (Gr.rd ((Gr.drew W0).trans hG) hr7) rfl
              · intro a1 w1 hG hF
                exact s_old rfl (wantsG hF 1 58 true rfl (by kernel_rfl) rfl) (.tmp 9) (.inr rfl) (.slice (some ⟨g9, 0, none⟩) (j + 1) (j + 1)) (hF.ol 9 (by kernel_rfl)) rfl
              · intro a1 w1 hG hF
                obtain ⟨_, e63, rfl⟩ := hF.dp 6 63 (by kernel_rfl)
                exact s_str rfl (wantsG hF 1 58 true rfl (by kernel_rfl) rfl) _ _ _ (.tmp 63) rfl Try.underlying23 Try.underlying5 Try.underlying9 _ _ _ _ e63 (Gr.rd ((Gr.drew W0).trans hG) hr9) rfl
              · intro a1 w1 hG hF
                obtain ⟨_, e62, rfl⟩ := hF.dp 5 62 (by kernel_rfl)
                obtain ⟨_, e64, rfl⟩ := hF.dp 7 64 (by kernel_rfl)
                exact s_call rfl (wantsG hF 1 58 true rfl (by kernel_rfl) rfl) _ rfl _ _ (by simp only [execOp, resolve, invoke, List.map_toArray, List.map_cons, List.map_nil, e62, e64]; go_simp) ((HR1.out w1).mono fun e w2 ⟨he, hb⟩ => ⟨_, he, rfl, hb⟩)
              · intro a1 w1 hG hF
                obtain ⟨_, e60, rfl⟩ := hF.dp 3 60 (by kernel_rfl)
                obtain ⟨_, e65, rfl⟩ := hF.dp 8 65 (by kernel_rfl)
                exact s_is rfl (wantsG hF 1 58 true rfl (by kernel_rfl) rfl) _ rfl (by simp only [execOp, e60, e65]; go_simp)
              · intro a1 w1 hG hF
                obtain ⟨_, e58, rfl⟩ := hF.dp 1 58 (by kernel_rfl)
                obtain ⟨_, e66, rfl⟩ := hF.dp 9 66 (by kernel_rfl)
                exact s_pick rfl (wants0 rfl) (.tmp 58) (.tmp 66) _ rfl e58 _ e66 rfl
              · intro a1 w1 hG hF
                exact s_same rfl (wants0 rfl) (.tmp 67) (.inl rfl) (hF.dp 10 67 (by kernel_rfl))
            · intro vs w1 hG hf
              have z6 : vs 11 = .bool true := hf.2.2.2.2.2.2.2.2.2.2.2.1
              clear hf
              simp only [putAll, Nat.zero_add, Nat.reduceAdd, z6]
              clear z6
              go_simp
              go_wp2_with fail
              go_ret
              exact ⟨rfl, by have := (hM3.gr hB0 ((Gr.drew W0).trans hG)).below; rw [HG.out] at this; exact this⟩
theorem law_edges' (zs : List Int) (hl : zs.length = 3) (hw : ∀ z ∈ zs, (Lit.int .u64 z).wf = true) (z : Int) (last : UInt8) (w : World) :
    Calls Try.prog 4 #[.agg (zs.map (Value.int .u64)).toArray, .int .i64 z, .int .u8 last.toNat] w fun e w' => e = .returned (.bool true) ∧ Below w.heap.size w w' := by
  match zs, hl with
  | [a, b, c], _ =>
    obtain ⟨x, rfl, _⟩ := u64_of_wf (hw a (by simp))
    obtain ⟨y, rfl, _⟩ := u64_of_wf (hw b (by simp))
    obtain ⟨q, rfl, _⟩ := u64_of_wf (hw c (by simp))
    exact law_edges x y q z last w
end Go.Proofs.Ytacodfeflmbheaa

