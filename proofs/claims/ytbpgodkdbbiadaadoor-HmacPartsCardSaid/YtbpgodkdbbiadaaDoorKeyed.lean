/- The walk of the law's example: two digests with a key. No condition. -/
import Derived.Test.YtbpgodkdbbiadaaDoorHSum
import Derived.Test.YtbpgodkdbbiadaaDoorRefHmac
import Derived.Lib.SlBytesConst
import Derived.Lib.SmallJoins
namespace Go.Proofs.YtbpgodkdbbiadaaDoor
open Go.RowKit
theorem run_neA32 {ev : Operand → Value} {d : Option Tmp} {t : TypeId} {p : String} {af : Array Edge} {gd : Option (Nat × Bool)} {w : World} {x y : Operand} {T : TypeId} {D E : List UInt8} (hD : D.length = 32) (hE : E.length = 32) (hne : (D == E) = false) (h1 : ev x = .agg (u8s D).toArray) (h2 : ev y = .agg (u8s E).toArray) :
    (execOp ev ⟨d, .binOp .neq 26 x y T, t, p, af, gd⟩).run Tryd.prog w = .ok (.value (.bool true)) w := by
  have h3 : (Op.equalIn 10000 26 (.agg (u8s D).toArray) (.agg (u8s E).toArray)).run Tryd.prog w = .ok (D == E) w := run_equalIn_bytes (P := Tryd.prog) w 9998 26 5 32 Tryd.underlying26 Tryd.underlying5 (fun w => by kernel_rfl) D E hD hE
  rw [hne] at h3
  simp only [execOp, h1, h2]
  go_simp
set_option maxRecDepth 100000 in
set_option maxHeartbeats 4000000 in
theorem keyed_any (w : World) (gw : Glob w) :
    Calls Tryd.prog 9 #[] w fun e w' => e = .returned (.bool true) ∧ Below w.heap.size w w' := by
  obtain ⟨D, hD⟩ : ∃ D, D = hmacL [107] [120] := ⟨_, rfl⟩
  obtain ⟨E, hE⟩ : ∃ E, E = hmacL [] [120] := ⟨_, rfl⟩
  have hDl : D.length = 32 := by rw [hD]; simp
  have hEl : E.length = 32 := by rw [hE]; simp
  have HNE : Hid ((D == E) = false) := by
    show _ = _
    rw [hD, hE]
    exact keyed_is
  have HS1 : Hid (∀ w A B p, Rd w (some A) 1 (u8s [107]) → Parts w B 1 [p] → p.l = [120] → Glob w → Calls Tryd.prog 8 #[.slice (some A) 1 1, .slice B 1 1] w fun e w' => e = .returned (.agg (u8s D).toArray) ∧ Below w.heap.size w w') := by
    intro w A B p hr hP hl gw
    rw [hD]
    exact hmacSum_any (some A) 1 1 [107] B 1 1 [p] [120] (by omega) (by omega) (by omega) (by simp [allP, hl]) (by simp) w hr (by simp) hP gw
  have HS2 : Hid (∀ w B p, Parts w B 1 [p] → p.l = [120] → Glob w → Calls Tryd.prog 8 #[.slice none 0 0, .slice B 1 1] w fun e w' => e = .returned (.agg (u8s E).toArray) ∧ Below w.heap.size w w') := by
    intro w B p hP hl gw
    rw [hE]
    exact hmacSum_any none 0 0 [] B 1 1 [p] [120] (by omega) (by omega) (by omega) (by simp [allP, hl]) (by simp) w (Rd.nil _ _) (by simp) hP gw
  have HR1 : Hid (∀ w, Calls Tryd.prog 10 #[.string ⟨#[107]⟩, .string ⟨#[120]⟩] w fun e w' => e = .returned (.string ⟨D.toArray⟩) ∧ Below w.heap.size w w') := by
    intro w
    rw [hD]
    exact refHmac_any [107] [120] (by decide) (by decide) w
  have HR2 : Hid (∀ w, Calls Tryd.prog 10 #[.string ⟨#[]⟩, .string ⟨#[120]⟩] w fun e w' => e = .returned (.string ⟨E.toArray⟩) ∧ Below w.heap.size w w') := by
    intro w
    rw [hE]
    exact refHmac_any [] [120] (by decide) (by decide) w
  clear hD hE
  have hcv1 := Lib.run_convert_bytes_const (P := Tryd.prog) w 22 5 #[.int .u8 107] 1 1 Tryd.underlying22 Tryd.underlying5
  have hcv2 := Joins.run_convert_bytes_const_at (P := Tryd.prog) (w.alloc (.cells #[.int .u8 107] 5 (1, 2))) 22 5 #[.int .u8 120] 1 1 (w.heap.size + 1) (by simp only [asz]) Tryd.underlying22 Tryd.underlying5
  go_enter Tryd.func9, Tryd.ntmps9
  go_wp2_with fail
  refine (HS1.out _ ⟨w.heap.size, 0, none⟩ _ ⟨some ⟨w.heap.size + 1, 0, none⟩, 1, 1, [120]⟩ (((Gr.alloc _ _).trans (Gr.alloc _ _)).rd (rd_made rfl _ _ _ 1 _ rfl rfl)) (parts1 (by simp only [asz]) _ ⟨some ⟨w.heap.size + 1, 0, none⟩, 1, 1, [120]⟩ (rd_made (by simp only [asz]) _ _ _ 1 _ rfl rfl) (Nat.le_refl _)) rfl (gw.gr (((Gr.alloc _ _).trans (Gr.alloc _ _)).trans (Gr.alloc _ _)))).mono ?_
  rintro e w1 ⟨rfl, hB1⟩
  have G1 : Gr w w1 := (((Gr.alloc _ _).trans (Gr.alloc _ _)).trans (Gr.alloc _ _)).trans hB1
  have gw1 := gw.gr G1
  clear hB1 hcv1 hcv2 gw
  have hcv1 := Lib.run_convert_bytes_const (P := Tryd.prog) w1 22 5 #[.int .u8 120] 1 1 Tryd.underlying22 Tryd.underlying5
  go_wp2_with fail
  refine (HS2.out _ _ ⟨some ⟨w1.heap.size, 0, none⟩, 1, 1, [120]⟩ (parts1 (by simp only [asz]) _ ⟨some ⟨w1.heap.size, 0, none⟩, 1, 1, [120]⟩ (rd_made rfl _ _ _ 1 _ rfl rfl) (Nat.le_refl _)) rfl (gw1.gr ((Gr.alloc _ _).trans (Gr.alloc _ _)))).mono ?_
  rintro e w2 ⟨rfl, hB2⟩
  have G2 : Gr w w2 := G1.trans (((Gr.alloc _ _).trans (Gr.alloc _ _)).trans hB2)
  have gw2 : Glob w2 := gw1.gr (((Gr.alloc _ _).trans (Gr.alloc _ _)).trans hB2)
  clear hB2 hcv1 gw1 G1
  have hz1 : Arr ((w2.alloc (.cells (u8s (List.replicate 32 0)).toArray 26)).alloc (.cells (u8s (List.replicate 32 0)).toArray 26)) w2.heap.size 26 (u8s (List.replicate 32 0)) := Arr.gr (Arr.newAt rfl rfl) (Gr.alloc _ _)
  have hz2 : Arr ((w2.alloc (.cells (u8s (List.replicate 32 0)).toArray 26)).alloc (.cells (u8s (List.replicate 32 0)).toArray 26)) (w2.heap.size + 1) 26 (u8s (List.replicate 32 0)) := Arr.newAt (by simp only [asz]) rfl
  go_wp2_with first
    | (refine wpList_put hz1 rfl 26 (.tmp 1) (.tmp 8) rfl (u8s D) rfl rfl (by simp [hDl]) (infoU8_32 D hDl) (u8s_oneCell _) ?_; intro w3 h1 hB3 hO3; have h2 := hO3 _ _ _ (by omega) hz2; clear hO3)
    | (refine wpList_put h2 rfl 26 (.tmp 2) (.tmp 12) rfl (u8s E) rfl rfl (by simp [hEl]) (infoU8_32 E hEl) (u8s_oneCell _) ?_; intro w4 h4 hB4 hO4; have h3 := hO4 _ _ _ (by omega) h1; clear hO4)
  have G4 : Gr w2 w4 := Below.trans (Below.trans (((Below.refl _ _).alloc (Nat.le_refl _) _).alloc (by simp only [asz]; omega) _) hB3) (hB4.mono (by omega))
  have gw4 := gw2.gr G4
  have hB5 := Below.trans G2 (Below.mono G4 G2.size)
  clear hz1 hz2 hB3 hB4 gw2 G2 G4 h1 h2
  generalize w2.heap.size + 1 = g2 at h4 ⊢
  generalize w2.heap.size = g1 at h3 ⊢
  have hr1 := Arr.rdAllS h3 hDl
  have hr2 := Arr.rdAllS h4 hEl
  refine wp_region_ssaL (by kernel_rfl) [IsV (.slice (some ⟨g1, 0, none⟩) 32 32), IsV (.string ⟨(D).toArray⟩), IsV (.string ⟨(D).toArray⟩), IsV (.bool true), IsV (.bool true), IsV (.slice (some ⟨g2, 0, none⟩) 32 32), IsV (.string ⟨(E).toArray⟩), IsV (.string ⟨(E).toArray⟩), IsV (.bool true), IsV (.bool true), IsV (.bool true), IsV (.agg (u8s D).toArray), IsV (.agg (u8s E).toArray), IsV (.bool true), IsV (.bool true), IsV (.bool true)] (by kernel_rfl) ?_ ?_ ?_
  · intro φ hφ v w1 w2 h hg
    simp only [List.mem_cons, List.not_mem_nil, or_false] at hφ
    rcases hφ with rfl | rfl | rfl | rfl | rfl | rfl | rfl | rfl | rfl | rfl | rfl | rfl | rfl | rfl | rfl | rfl
    all_goals first | exact h | exact RdV.gr h hg
  · refine ⟨?_, ?_, ?_, ?_, ?_, ?_, ?_, ?_, ?_, ?_, ?_, ?_, ?_, ?_, ?_, ?_, trivial⟩
    · intro a1 w1 hG hF
      have e1 : a1.eval (.tmp 1) = .pointer (some ⟨g1, 0, none⟩) := hF.ol 1 (by kernel_rfl)
      exact s_is rfl (wants0 rfl) _ rfl (by simp only [execOp, e1, Option.map, Sem.run_bind, run_cutAll (P := Tryd.prog) Tryd.underlying26 (by kernel_rfl), Result.andThen_ok, Sem.run_pure])
    · intro a1 w1 hG hF
      obtain ⟨_, e13, rfl⟩ := hF.dp 0 13 (by kernel_rfl)
      exact s_str rfl (wants0 rfl) 22 9 5 (.tmp 13) rfl Tryd.underlying22 Tryd.underlying5 Tryd.underlying9 _ _ _ (D) e13 (((Gr.drew w4).trans hG).rd hr1) rfl
    · intro a1 w1 hG hF
      exact s_call rfl (wants0 rfl) _ rfl _ _ (by simp only [execOp, resolve, invoke, List.map_toArray, List.map_cons, List.map_nil]; go_simp) ((HR1.out w1).mono fun e w2 ⟨he, hb⟩ => ⟨_, he, rfl, hb⟩)
    · intro a1 w1 hG hF
      obtain ⟨_, e14, rfl⟩ := hF.dp 1 14 (by kernel_rfl)
      obtain ⟨_, e15, rfl⟩ := hF.dp 2 15 (by kernel_rfl)
      exact s_is rfl (wants0 rfl) _ rfl (by simp only [execOp, e14, e15]; go_simp)
    · intro a1 w1 hG hF
      exact s_same rfl (wants0 rfl) (.tmp 16) (.inr rfl) (hF.dp 3 16 (by kernel_rfl))
    · intro a1 w1 hG hF
      have e2 : a1.eval (.tmp 2) = .pointer (some ⟨g2, 0, none⟩) := hF.ol 2 (by kernel_rfl)
      exact s_is rfl (wantsG hF 4 17 true rfl (by kernel_rfl) rfl) _ rfl (by simp only [execOp, e2, Option.map, Sem.run_bind, run_cutAll (P := Tryd.prog) Tryd.underlying26 (by kernel_rfl), Result.andThen_ok, Sem.run_pure])
    · intro a1 w1 hG hF
      obtain ⟨_, e18, rfl⟩ := hF.dp 5 18 (by kernel_rfl)
      exact s_str rfl (wantsG hF 4 17 true rfl (by kernel_rfl) rfl) 22 9 5 (.tmp 18) rfl Tryd.underlying22 Tryd.underlying5 Tryd.underlying9 _ _ _ (E) e18 (((Gr.drew w4).trans hG).rd hr2) rfl
    · intro a1 w1 hG hF
      exact s_call rfl (wantsG hF 4 17 true rfl (by kernel_rfl) rfl) _ rfl _ _ (by simp only [execOp, resolve, invoke, List.map_toArray, List.map_cons, List.map_nil]; go_simp) ((HR2.out w1).mono fun e w2 ⟨he, hb⟩ => ⟨_, he, rfl, hb⟩)
    · intro a1 w1 hG hF
      obtain ⟨_, e19, rfl⟩ := hF.dp 6 19 (by kernel_rfl)
      obtain ⟨_, e20, rfl⟩ := hF.dp 7 20 (by kernel_rfl)
      exact s_is rfl (wantsG hF 4 17 true rfl (by kernel_rfl) rfl) _ rfl (by simp only [execOp, e19, e20]; go_simp)
    · intro a1 w1 hG hF
      obtain ⟨_, e17, rfl⟩ := hF.dp 4 17 (by kernel_rfl)
      obtain ⟨_, e21, rfl⟩ := hF.dp 8 21 (by kernel_rfl)
      exact s_pick rfl (wants0 rfl) (.tmp 17) (.tmp 21) _ rfl e17 _ e21 rfl
    · intro a1 w1 hG hF
      exact s_same rfl (wants0 rfl) (.tmp 22) (.inr rfl) (hF.dp 9 22 (by kernel_rfl))
    · intro a1 w1 hG hF
      have e1 : a1.eval (.tmp 1) = .pointer (some ⟨g1, 0, none⟩) := hF.ol 1 (by kernel_rfl)
      exact s_wp rfl (wantsG hF 10 23 true rfl (by kernel_rfl) rfl) (wp_load_mid _ _ rfl g1 0 e1 (u8s D) _ (Arr.gr h3 ((Gr.drew w4).trans hG)).range Tryd.underlying26 rfl (infoU8_32 D hDl) ⟨_, rfl, rfl, Gr.refl _⟩)
    · intro a1 w1 hG hF
      have e2 : a1.eval (.tmp 2) = .pointer (some ⟨g2, 0, none⟩) := hF.ol 2 (by kernel_rfl)
      exact s_wp rfl (wantsG hF 10 23 true rfl (by kernel_rfl) rfl) (wp_load_mid _ _ rfl g2 0 e2 (u8s E) _ (Arr.gr h4 ((Gr.drew w4).trans hG)).range Tryd.underlying26 rfl (infoU8_32 E hEl) ⟨_, rfl, rfl, Gr.refl _⟩)
    · intro a1 w1 hG hF
      obtain ⟨_, e24, rfl⟩ := hF.dp 11 24 (by kernel_rfl)
      obtain ⟨_, e25, rfl⟩ := hF.dp 12 25 (by kernel_rfl)
      exact s_is rfl (wantsG hF 10 23 true rfl (by kernel_rfl) rfl) _ rfl (run_neA32 hDl hEl HNE.out e24 e25)
    · intro a1 w1 hG hF
      obtain ⟨_, e23, rfl⟩ := hF.dp 10 23 (by kernel_rfl)
      obtain ⟨_, e26, rfl⟩ := hF.dp 13 26 (by kernel_rfl)
      exact s_pick rfl (wants0 rfl) (.tmp 23) (.tmp 26) _ rfl e23 _ e26 rfl
    · intro a1 w1 hG hF
      exact s_same rfl (wants0 rfl) (.tmp 27) (.inl rfl) (hF.dp 14 27 (by kernel_rfl))
  · intro vs w1 hG hf
    have z0 : vs 15 = .bool true := hf.2.2.2.2.2.2.2.2.2.2.2.2.2.2.2.1
    clear hf
    simp only [putAll, Nat.zero_add, Nat.reduceAdd, z0]

    go_simp
    go_wp2_with fail
    go_ret
    exact ⟨rfl, hB5.trans (((Gr.drew w4).trans hG).mono hB5.size)⟩
end Go.Proofs.YtbpgodkdbbiadaaDoor

