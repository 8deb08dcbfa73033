/- The walk of the law Sha2Sums. No condition. -/
import Derived.Test.YtkhbnandmhlnoaaDoorDigests
import Derived.Test.YtkhbnandmhlnoaaDoorShaF
import Derived.Test.YtkhbnandmhlnoaaDoorMem
namespace Go.Proofs.YtkhbnandmhlnoaaDoor
open Go.RowKit
theorem Arr.rdAllS {w : World} {g : Nat} {t : TypeId} {l : List UInt8} (h : Arr w g t (u8s l)) {n : Nat} (hn : l.length = n) : Rd w (some ⟨g, 0, none⟩) n (u8s l) := by
  subst hn
  have := h.rd 0 l.length (by simp)
  rwa [List.drop_zero, List.take_of_length_le (by simp)] at this
theorem allP_bound {ps : List Part} {s : Nat} (h : ∀ p ∈ ps, p.l.length ≤ s) : (allP ps).length ≤ ps.length * s := by
  induction ps with
  | nil => simp [allP]
  | cons p ps ih =>
    have h1 := h p (by simp)
    have h2 := ih (fun q hq => h q (by simp [hq]))
    have e : allP (p :: ps) = p.l ++ allP ps := by simp [allP]
    rw [e, List.length_append, List.length_cons, Nat.succ_mul]
    omega
set_option maxRecDepth 100000 in
set_option maxHeartbeats 4000000 in
theorem law_sums (A : Option Addr) (n c : Nat) (ps : List Part) (w : World) (h : Parts w A n ps) (gw : Glob w) :
    Calls Tryd.prog 3 #[.slice A n c] w fun e w' => e = .returned (.bool true) ∧ Below w.heap.size w w' := by
  go_enter Tryd.func3, Tryd.ntmps3
  go_wp2_with fail
  go_at_call 6
  refine (few_any A n c ps 8 300 (by omega) (by omega) w h).mono ?_
  rintro e w1 ⟨A1, n1, c1, qs, rfl, hn1, hP1, hq1, hB1⟩
  have hl1 : (allP qs).length ≤ 2400 := by
    have := allP_bound (s := 300) (ps := qs) (fun p hp => by
      have e1 := (hP1.each p hp).1.1
      have e2 := hq1 p hp
      simp only [u8s_length] at e1
      omega)
    have e3 := hP1.len
    have : qs.length * 300 ≤ 8 * 300 := Nat.mul_le_mul_right _ (by omega)
    omega
  have gw1 := Glob.below hB1 gw
  obtain ⟨l, hl⟩ : ∃ l, l = allP qs := ⟨_, rfl⟩
  have hll : l.length ≤ 2400 := by rw [hl]; exact hl1
  have HA : Hid (∀ w, Parts w A1 n1 qs → Calls Tryd.prog 7 #[.slice A1 n1 c1] w fun e w' => e = .returned (.string ⟨l.toArray⟩) ∧ Below w.heap.size w w') := by
    intro w hw
    rw [hl]
    exact all_any A1 n1 c1 qs (by omega) (by omega) w hw
  have HS : Hid (∀ w, Parts w A1 n1 qs → Glob w → Calls Tryd.prog 8 #[.slice A1 n1 c1] w fun e w' => e = .returned (.agg (u8s (shaL l)).toArray) ∧ Below w.heap.size w w') := by
    intro w hw hg
    exact shaSum_any A1 n1 c1 qs (by omega) l hl.symm (by omega) w hw hg
  have HR : Hid (∀ w, Calls Tryd.prog 10 #[.string ⟨l.toArray⟩] w fun e w' => e = .returned (.string ⟨(shaL l).toArray⟩) ∧ Below w.heap.size w w') := by
    intro w
    exact refSum_any l (by omega) w
  obtain ⟨D, hD⟩ : ∃ D, D = shaL l := ⟨_, rfl⟩
  have hDl : D.length = 32 := by rw [hD]; simp
  rw [← hD] at HS HR
  clear hD hl hl1 hll h gw hq1 hn1
  go_simp
  go_wp2_with first
    | (go_at_call 7; refine (HA.out _ hP1).mono ?_; rintro e w2 ⟨rfl, hB2⟩; have hP2 := hP1.gr hB2; have gw2 := Glob.below hB2 gw1; have hB3 := hB1.trans (hB2.mono hB1.size); clear hP1 gw1 hB1 hB2)
    | (go_at_call 8; refine (HS.out _ hP2 gw2).mono ?_; rintro e w3 ⟨rfl, hB4⟩; have hP3 := hP2.gr hB4; have gw3 := Glob.below hB4 gw2; have hB5 := hB3.trans (hB4.mono hB3.size); clear hP2 gw2 hB3 hB4)
    | (refine wpList_new rfl 25 (.tmp 5) (.tmp 11) rfl _ (u8s D) rfl rfl rfl (by simp only [u8s_length, hDl]; rfl) (infoU8_32 D hDl) (u8s_oneCell _) ?_; intro w4 h5 hG4)
  have hP4 := hP3.gr hG4
  have gw4 := gw3.gr hG4
  have hB6 := hB5.trans (hG4.mono hB5.size)
  clear hP3 gw3 hB5 hG4
  generalize w3.heap.size = g5 at h5 ⊢
  have hr5 := Arr.rdAllS h5 hDl
  go_simp
  refine wp_region_ssaL (by kernel_rfl) [IsV (.bool true), IsV (.bool true), IsV (.slice (some ⟨g5, 0, none⟩) 32 32), IsV (.string ⟨(D).toArray⟩), IsV (.string ⟨(l).toArray⟩), IsV (.string ⟨(D).toArray⟩), IsV (.bool true), IsV (.bool true), IsV (.bool true), IsV (.slice A1 n1 c1), IsV (.string ⟨(l).toArray⟩), IsV (.string ⟨(l).toArray⟩), IsV (.bool true), IsV (.bool true), IsV (.bool true)] (by kernel_rfl) ?_ ?_ ?_
  · intro φ hφ v w1 w2 h hg
    simp only [List.mem_cons, List.not_mem_nil, or_false] at hφ
    rcases hφ with rfl | rfl | rfl | rfl | rfl | rfl | rfl | rfl | rfl | rfl | rfl | rfl | rfl | rfl | rfl
    all_goals first | exact h | exact RdV.gr h hg
  · refine ⟨?_, ?_, ?_, ?_, ?_, ?_, ?_, ?_, ?_, ?_, ?_, ?_, ?_, ?_, ?_, trivial⟩
    · intro a1 w1 hG hF
      exact s_call rfl (wants0 rfl) _ rfl _ _ (by simp only [execOp, resolve, invoke, List.map_toArray, List.map_nil]; go_simp) ((digests_any w1 (gw4.gr ((Gr.drew w4).trans hG))).mono fun e w2 ⟨he, hb⟩ => ⟨_, he, rfl, hb⟩)
    · intro a1 w1 hG hF
      exact s_same rfl (wants0 rfl) (.tmp 12) (.inr rfl) (hF.dp 0 12 (by kernel_rfl))
    · intro a1 w1 hG hF
      have e5 : a1.eval (.tmp 5) = .pointer (some ⟨g5, 0, none⟩) := hF.ol 5 (by kernel_rfl)
      exact s_is rfl (wantsG hF 1 13 true rfl (by kernel_rfl) rfl) _ rfl (by simp only [execOp, e5, Option.map, Sem.run_bind, run_cutAll (P := Tryd.prog) Tryd.underlying25 (by kernel_rfl), Result.andThen_ok, Sem.run_pure])
    · intro a1 w1 hG hF
      obtain ⟨_, e14, rfl⟩ := hF.dp 2 14 (by kernel_rfl)
      exact s_str rfl (wantsG hF 1 13 true rfl (by kernel_rfl) rfl) 28 9 5 (.tmp 14) rfl Tryd.underlying28 Tryd.underlying5 Tryd.underlying9 _ _ _ (D) e14 (((Gr.drew w4).trans hG).rd hr5) rfl
    · intro a1 w1 hG hF
      exact s_old rfl (wantsG hF 1 13 true rfl (by kernel_rfl) rfl) (.tmp 4) (.inr rfl) (.string ⟨(l).toArray⟩) (hF.ol 4 (by kernel_rfl)) rfl
    · intro a1 w1 hG hF
      obtain ⟨_, e16, rfl⟩ := hF.dp 4 16 (by kernel_rfl)
      exact s_call rfl (wantsG hF 1 13 true rfl (by kernel_rfl) rfl) _ rfl _ _ (by simp only [execOp, resolve, invoke, List.map_toArray, List.map_cons, List.map_nil, e16]; go_simp) ((HR.out w1).mono fun e w2 ⟨he, hb⟩ => ⟨_, he, rfl, hb⟩)
    · intro a1 w1 hG hF
      obtain ⟨_, e15, rfl⟩ := hF.dp 3 15 (by kernel_rfl)
      obtain ⟨_, e17, rfl⟩ := hF.dp 5 17 (by kernel_rfl)
      exact s_is rfl (wantsG hF 1 13 true rfl (by kernel_rfl) rfl) _ rfl (by simp only [execOp, e15, e17]; go_simp)
    · intro a1 w1 hG hF
      obtain ⟨_, e13, rfl⟩ := hF.dp 1 13 (by kernel_rfl)
      obtain ⟨_, e18, rfl⟩ := hF.dp 6 18 (by kernel_rfl)
      exact s_pick rfl (wants0 rfl) (.tmp 13) (.tmp 18) _ rfl e13 _ e18 rfl
    · intro a1 w1 hG hF
      exact s_same rfl (wants0 rfl) (.tmp 19) (.inr rfl) (hF.dp 7 19 (by kernel_rfl))
    · intro a1 w1 hG hF
      exact s_old rfl (wantsG hF 8 20 true rfl (by kernel_rfl) rfl) (.tmp 3) (.inr rfl) (.slice A1 n1 c1) (hF.ol 3 (by kernel_rfl)) rfl
    · intro a1 w1 hG hF
      obtain ⟨_, e21, rfl⟩ := hF.dp 9 21 (by kernel_rfl)
      exact s_call rfl (wantsG hF 8 20 true rfl (by kernel_rfl) rfl) _ rfl _ _ (by simp only [execOp, resolve, invoke, List.map_toArray, List.map_cons, List.map_nil, e21]; go_simp) ((HA.out w1 (hP4.gr ((Gr.drew w4).trans hG))).mono fun e w2 ⟨he, hb⟩ => ⟨_, he, rfl, hb⟩)
    · intro a1 w1 hG hF
      exact s_old rfl (wantsG hF 8 20 true rfl (by kernel_rfl) rfl) (.tmp 4) (.inr rfl) (.string ⟨(l).toArray⟩) (hF.ol 4 (by kernel_rfl)) rfl
    · intro a1 w1 hG hF
      obtain ⟨_, e22, rfl⟩ := hF.dp 10 22 (by kernel_rfl)
      obtain ⟨_, e23, rfl⟩ := hF.dp 11 23 (by kernel_rfl)
      exact s_is rfl (wantsG hF 8 20 true rfl (by kernel_rfl) rfl) _ rfl (by simp only [execOp, e22, e23]; go_simp)
    · intro a1 w1 hG hF
      obtain ⟨_, e20, rfl⟩ := hF.dp 8 20 (by kernel_rfl)
      obtain ⟨_, e24, rfl⟩ := hF.dp 12 24 (by kernel_rfl)
      exact s_pick rfl (wants0 rfl) (.tmp 20) (.tmp 24) _ rfl e20 _ e24 rfl
    · intro a1 w1 hG hF
      exact s_same rfl (wants0 rfl) (.tmp 25) (.inl rfl) (hF.dp 13 25 (by kernel_rfl))
  · intro vs w1 hG hf
    have z2 : vs 14 = .bool true := hf.2.2.2.2.2.2.2.2.2.2.2.2.2.2.1
    clear hf
    simp only [putAll, Nat.zero_add, Nat.reduceAdd, z2]
    go_simp
    go_wp2_with fail
    go_ret
    exact ⟨rfl, hB6.trans (((Gr.drew w4).trans hG).mono hB6.size)⟩
end Go.Proofs.YtkhbnandmhlnoaaDoor

