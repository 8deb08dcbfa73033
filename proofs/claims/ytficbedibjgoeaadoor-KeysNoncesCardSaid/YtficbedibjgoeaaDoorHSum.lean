/- The walk of hmac.Sum: its digest. No condition. -/
import Derived.Test.YtficbedibjgoeaaDoorPadded
import Derived.Test.YtficbedibjgoeaaDoorHmacP
namespace Go.Proofs.YtficbedibjgoeaaDoor
open Go.RowKit
/-- A row with one cell, just made. -/
theorem own_made1 (w : World) (y : Value) (e : TypeId) : (w.alloc (.cells #[y] e)).ownsRow w.heap.size e 1 (.slice (some ⟨w.heap.size, 0, none⟩) 1 1) 1 [y] :=
  ⟨rfl, .inr ⟨w.heap.size, 1, #[y], rfl, Nat.le_refl _, heap_alloc_new _ _, Nat.le_refl _, by decide, rfl, rfl⟩⟩
theorem run_build2S {ev : Operand → Value} {d : Option Tmp} {t : TypeId} {p : String} {af : Array Edge} {gd : Option (Nat × Bool)} {w : World} {x y : Operand} {A B : Option Addr} {n c n2 c2 : Nat} (h1 : ev x = .slice A n c) (h2 : ev y = .slice B n2 c2) :
    (execOp ev ⟨d, .buildSlice 50 2 #[(0, x), (1, y)], t, p, af, gd⟩).run Tryd.prog w = .ok (.value (.slice (some ⟨w.heap.size, 0, none⟩) 2 2)) (w.alloc (.cells #[.slice A n c, .slice B n2 c2] 23)) := by
  simp only [execOp]
  go_simp
theorem parts_one (ps : List Part) : ∀ v ∈ ps.map Part.val, v.oneCell' = true := by
  intro v hv
  obtain ⟨p, _, rfl⟩ := List.mem_map.1 hv
  rfl
set_option maxRecDepth 100000 in
set_option maxHeartbeats 4000000 in
theorem hmacSum_any (A : Option Addr) (n c : Nat) (K : List UInt8) (B : Option Addr) (m d : Nat) (ps : List Part) (l : List UInt8) (hn : n ≤ 1000000) (hnc : n ≤ c) (hm : m ≤ 900000) (hal : allP ps = l) (hl : l.length ≤ 900000) (w : World)
    (hr : Rd w A n (u8s K)) (hA : A = none → n = 0 ∧ c = 0) (hP : Parts w B m ps) (gw : Glob w) :
    Calls Tryd.prog 19 #[.slice A n c, .slice B m d] w fun e w' => e = .returned (.agg (u8s (hmacL K l)).toArray) ∧ Below w.heap.size w w' := by
  obtain ⟨i1, hi1, hy0, hy1, hy2⟩ := info_parts infoRow
  have HPA : Hid (∀ w (x : UInt8), Rd w A n (u8s K) → Glob w → Calls Tryd.prog 25 #[.slice A n c, .int .u8 (x.toNat : Int)] w fun e w' => ∃ v, e = .returned v ∧ w'.ownsRow w.heap.size 5 1 v 64 (u8s (padL K x)) ∧ Below w.heap.size w w') :=
    fun w x hr gw => padded_any A n c K x hn hnc w hr hA gw
  obtain ⟨p1, hp1⟩ : ∃ p, p = padL K 0x36 := ⟨_, rfl⟩
  obtain ⟨p2, hp2⟩ : ∃ p, p = padL K 0x5C := ⟨_, rfl⟩
  obtain ⟨D, hD⟩ : ∃ D, D = shaL (p1 ++ l) := ⟨_, rfl⟩
  obtain ⟨E, hE⟩ : ∃ E, E = shaL (p2 ++ D) := ⟨_, rfl⟩
  have hDl : D.length = 32 := by rw [hD]; simp
  have hEl : E.length = 32 := by rw [hE]; simp
  have hp1l : p1.length = 64 := by rw [hp1]; simp
  have hp2l : p2.length = 64 := by rw [hp2]; simp
  have HH : Hid (hmacL K l = E) := by
    show _ = _
    rw [hE, hD, hp1, hp2]
    rfl
  have HP1 : Hid (∀ w, Rd w A n (u8s K) → Glob w → Calls Tryd.prog 25 #[.slice A n c, .int .u8 54] w fun e w' => ∃ v, e = .returned v ∧ w'.ownsRow w.heap.size 5 1 v 64 (u8s p1) ∧ Below w.heap.size w w') := by
    intro w hr gw
    rw [hp1]
    exact HPA.out w 0x36 hr gw
  have HP2 : Hid (∀ w, Rd w A n (u8s K) → Glob w → Calls Tryd.prog 25 #[.slice A n c, .int .u8 92] w fun e w' => ∃ v, e = .returned v ∧ w'.ownsRow w.heap.size 5 1 v 64 (u8s p2) ∧ Below w.heap.size w w') := by
    intro w hr gw
    rw [hp2]
    exact HPA.out w 0x5C hr gw
  have HS1 : Hid (∀ w A n c ps, n ≤ 900001 → Parts w A n ps → allP ps = p1 ++ l → Glob w → Calls Tryd.prog 24 #[.slice A n c] w fun e w' => e = .returned (.agg (u8s D).toArray) ∧ Below w.heap.size w w') := by
    intro w A n c ps hn hp hl2 hg
    rw [hD]
    exact shaSum_any A n c ps (by omega) _ hl2 (by rw [List.length_append]; omega) w hp hg
  have HS2 : Hid (∀ w A ps, Parts w A 2 ps → allP ps = p2 ++ D → Glob w → Calls Tryd.prog 24 #[.slice A 2 2] w fun e w' => e = .returned (.agg (u8s E).toArray) ∧ Below w.heap.size w w') := by
    intro w A ps hp hl2 hg
    rw [hE]
    exact shaSum_any A 2 2 ps (by omega) _ hl2 (by rw [List.length_append]; omega) w hp hg
  have h4 : Arr (w.alloc (.cells (u8s (List.replicate 32 0)).toArray 22)) w.heap.size 22 (u8s (List.replicate 32 0)) := Arr.newAt rfl rfl
  have G0 : Gr w (w.alloc (.cells (u8s (List.replicate 32 0)).toArray 22)) := Gr.alloc _ _
  clear hD hE hp1 hp2 HPA
  go_enter Tryd.func19, Tryd.ntmps19
  go_wp2_with fail
  change Calls _ _ _ (w.alloc (.cells (u8s (List.replicate 32 0)).toArray 22)) _
  have hs0 : w.heap.size < (w.alloc (.cells (u8s (List.replicate 32 0)).toArray 22)).heap.size := by simp
  generalize hw0 : w.alloc (.cells (u8s (List.replicate 32 0)).toArray 22) = w0 at h4 G0 hs0 ⊢
  clear hw0
  obtain ⟨g4, hg4⟩ : ∃ g, g = w.heap.size := ⟨_, rfl⟩
  rw [← hg4] at h4 hs0
  simp only [← hg4]
  have HG4 := Lib.hid hg4
  clear hg4
  have mk1 : True := trivial
  refine (HP1.out w0 (G0.rd hr) (gw.gr G0)).mono ?_
  rintro e w1 ⟨v1, rfl, ho1, hB1⟩
  obtain ⟨A1, c1, rfl, hc1, _⟩ := own_form ho1
  have hr1 := Rd.of_own ho1
  have G1 : Gr w w1 := G0.trans hB1
  have h41 := h4.gr hB1
  have hs1 : g4 < w1.heap.size := Nat.lt_of_lt_of_le hs0 hB1.size
  clear ho1 hB1 h4 G0 hs0
  go_wp2_with (at_builtin; go_must (refine wpList_app _ rfl (.tmp 8) (.tmp 9) 50 rfl w1.heap.size 23 i1 (.slice none 0 0) 24 Tryd.underlying50 hi1 hy0 hy1 hy2 rfl (.slice (some ⟨w1.heap.size, 0, none⟩) 1 1) 1 [.slice A1 64 c1] rfl (own_made1 w1 _ _) B m d (ps.map Part.val) rfl ((Gr.alloc _ _).rd (G1.rd hP.row)) (parts_one ps) (by omega) (by unfold maxLen; omega) (by simp) ?_))
  intro v2 w2 hA2
  obtain ⟨A2, c2, rfl, _, _⟩ := own_form hA2.own
  have hr2 := Rd.of_own hA2.own
  have G2 : Gr w1 w2 := ((Below.refl _ _).alloc (Nat.le_refl _) _).trans (hA2.below (own_made1 w1 _ _) (by simp))
  have hP2 : Parts w2 A2 (1 + m) (⟨A1, 64, c1, p1⟩ :: ps) := ⟨hr2, fun p hp => by
    rcases List.mem_cons.1 hp with rfl | hp
    · exact ⟨G2.rd hr1, hc1⟩
    · exact ⟨G2.rd (G1.rd (hP.each p hp).1), (hP.each p hp).2⟩⟩
  have hS := HS1.out w2 A2 (1 + m) c2 _ (by omega) hP2 (by simp only [allP, List.flatMap_cons] at hal ⊢; rw [hal]) ((gw.gr G1).gr G2)
  have G3 := G1.trans G2
  have h42 := h41.gr G2
  have hs2 : g4 < w2.heap.size := Nat.lt_of_lt_of_le hs1 G2.size
  clear hA2 hr2 hP2 G1 G2 h41 hs1 hr1
  go_simp
  go_wp2_with first
    | (go_at_call 24; refine hS.mono ?_; rintro e w3 ⟨rfl, hB3⟩)
    | (refine wpList_new rfl 22 (.tmp 5) (.tmp 11) rfl _ (u8s D) rfl rfl rfl (by simp only [u8s_length, hDl]; rfl) (infoU8_32 D hDl) (u8s_oneCell _) ?_; intro w5 h5 hG5)
  have h45 := (h42.gr hB3).gr hG5
  have hs5 : g4 < w5.heap.size := Nat.lt_of_lt_of_le (Nat.lt_of_lt_of_le hs2 hB3.size) hG5.size
  have G5 : Gr w w5 := (G3.trans hB3).trans hG5
  have hr6 := G5.rd hr
  have gw5 := gw.gr G5
  generalize w3.heap.size = g5 at h5 ⊢
  have hr5 := Arr.rdAllS h5 hDl
  clear h42 hs2 G3 hB3 hG5 hS h5
  refine wp_region_cut (by kernel_rfl) [IsV (.slice A n c), RdV (64) (p2), IsV (.slice (some ⟨g5, 0, none⟩) 32 32), PartsV 2 2 (p2 ++ D), IsV (.agg (u8s E).toArray)] 5 (by decide) (by kernel_rfl) (by kernel_rfl) (by kernel_rfl) ?_ ?_ ?_
  · intro φ hφ v w1 w2 h hg
    simp only [List.mem_cons, List.not_mem_nil, or_false] at hφ
    rcases hφ with rfl | rfl | rfl | rfl | rfl
    all_goals first | exact h | exact RdV.gr h hg | exact PartsV.gr h hg
  · refine ⟨?_, ?_, ?_, ?_, ?_, trivial⟩
    · intro a1 w1 hG hF
      exact s_old rfl (wants0 rfl) (.tmp 0) (.inr rfl) (.slice A n c) (hF.ol 0 (by kernel_rfl)) rfl
    · intro a1 w1 hG hF
      obtain ⟨_, e12, rfl⟩ := hF.dp 0 12 (by kernel_rfl)
      exact s_call rfl (wants0 rfl) _ rfl _ _ (by simp only [execOp, resolve, invoke, List.map_toArray, List.map_cons, List.map_nil, e12]; go_simp) ((HP2.out w1 (((Gr.drew w5).trans hG).rd hr6) (gw5.gr ((Gr.drew w5).trans hG))).mono fun e w2 ⟨v, he, ho, hb⟩ => ⟨_, he, RdV.own ho, hb⟩)
    · intro a1 w1 hG hF
      have e5 : a1.eval (.tmp 5) = .pointer (some ⟨g5, 0, none⟩) := hF.ol 5 (by kernel_rfl)
      exact s_is rfl (wants0 rfl) _ rfl (by simp only [execOp, e5, Option.map, Sem.run_bind, run_cutAll (P := Tryd.prog) Tryd.underlying22 (by kernel_rfl), Result.andThen_ok, Sem.run_pure])
    · intro a1 w1 hG hF
      obtain ⟨_, e13, A13, c13, rfl, hc13, r13⟩ := hF.dp 1 13 (by kernel_rfl)
      obtain ⟨_, e14, rfl⟩ := hF.dp 2 14 (by kernel_rfl)
      exact s_val rfl (wants0 rfl) _ rfl (.slice (some ⟨w1.heap.size, 0, none⟩) 2 2) (w1.alloc (.cells #[.slice A13 64 c13, .slice (some ⟨g5, 0, none⟩) 32 32] 23)) (run_build2S e13 e14) ⟨_, [⟨A13, 64, c13, p2⟩, ⟨some ⟨g5, 0, none⟩, 32, 32, D⟩], rfl, partsN rfl _ _ _ 2 rfl rfl (by
        intro p hp
        simp only [List.mem_cons, List.not_mem_nil, or_false] at hp
        rcases hp with rfl | rfl
        · exact ⟨r13, hc13⟩
        · exact ⟨((Gr.drew w5).trans hG).rd hr5, Nat.le_refl _⟩), by simp [allP]⟩ (Gr.alloc _ _)
    · intro a1 w1 hG hF
      obtain ⟨x15, e15, f15⟩ := hF.dp 3 15 (by kernel_rfl)
      obtain ⟨A15, ps15, rfl, h15, l15⟩ := f15
      exact s_call rfl (wants0 rfl) _ rfl _ _ (by simp only [execOp, resolve, invoke, List.map_toArray, List.map_cons, List.map_nil, e15]; go_simp) ((HS2.out w1 A15 ps15 h15 l15 (gw5.gr ((Gr.drew w5).trans hG))).mono fun e w2 ⟨he, hb⟩ => ⟨_, he, rfl, hb⟩)
  · intro vs w1 hG hf
    have z16 : vs 4 = .agg (u8s E).toArray := hf.2.2.2.2.1
    clear hf
    simp only [List.take_succ_cons, List.take_zero, List.drop_succ_cons, List.drop_zero, putAll, Nat.zero_add, Nat.reduceAdd, z16]

    have G6 := G5.trans ((Gr.drew _).trans hG)
    have h46 := h45.gr ((Gr.drew _).trans hG)
    refine wpList_put h46 rfl 22 (.tmp 4) (.tmp 16) rfl (u8s E) (by kernel_rfl) (by kernel_rfl) (by simp [hEl]) (infoU8_32 E hEl) (u8s_oneCell _) ?_
    intro w7 h47 hB7 _
    unfold wpList
    go_simp
    go_wp2_with fail
    refine bodyPost_ret (results_cell_row rfl _ _ g4 _ _ _ _ rfl h47 Tryd.underlying22 rfl (by have := infoU8_32 E hEl; simpa using this)) rfl ?_
    rw [HH.out]
    rw [HG4.out] at hB7
    exact ⟨rfl, Below.trans G6 hB7⟩
end Go.Proofs.YtficbedibjgoeaaDoor

