import Derived.Test.YtacjengaljecnaaBits2
import Derived.Test.YtacjengaljecnaaLaw01
import Derived.Test.YtacjengaljecnaaSsa
import Derived.Test.YtacjengaljecnaaSsa2
namespace Go.Proofs.Ytacjengaljecnaa
open Go.RowKit

theorem mixL_mixL : ∀ (a b : List UInt8), mixL (mixL a b) b = a.take (min a.length b.length)
  | [], _ => by simp [mixL]
  | _ :: _, [] => by simp [mixL]
  | x :: a, y :: b => by
    have h := mixL_mixL a b
    unfold mixL at h ⊢
    rw [List.zipWith_cons_cons, List.zipWith_cons_cons, h, UInt8.xor_assoc, UInt8.xor_self, UInt8.xor_zero]
    simp [Nat.add_min_add_right]

theorem same_all (A B : Option Addr) (n c m d : Nat) (a b : List UInt8) (hn : n ≤ 1000000) (w : World) (ha : Rd w A n (u8s a)) (hb : Rd w B m (u8s b)) :
    Calls Try.prog 17 #[.slice A n c, .slice B m d] w fun e w' => e = .returned (.bool (decide (a = b))) ∧ ∃ k, w' = w.drewN k := by
  by_cases h : n = m
  · subst h; exact same_any A B n c d a b hn w ha hb
  · refine (same_lens A B n c m d (by simp; omega) w).mono ?_
    rintro e w' ⟨rfl, rfl⟩
    have h1 : a.length = n := by simpa using ha.1
    have h2 : b.length = m := by simpa using hb.1
    refine ⟨?_, 0, rfl⟩
    rw [decide_eq_false]
    intro e
    rw [e] at h1
    omega
theorem drewN_below (w : World) (k : Nat) : Below w.heap.size w (w.drewN k) := ⟨rfl, rfl, rfl, Nat.le_refl _, fun _ _ => rfl⟩

/-- What four slices of bytes read as, and what they hold. -/
structure Four (P : Program) (src dst : TypeId) (A B C D : Option Addr) (n m k j c d p q : Nat) (a b x y : List UInt8) (w : World) : Prop where
  sa : (convert src dst (.slice A n c)).run P w = .ok (.string ⟨a.toArray⟩) w
  sb : (convert src dst (.slice B m d)).run P w = .ok (.string ⟨b.toArray⟩) w
  sx : (convert src dst (.slice C k p)).run P w = .ok (.string ⟨x.toArray⟩) w
  sy : (convert src dst (.slice D j q)).run P w = .ok (.string ⟨y.toArray⟩) w
  ra : Rd w A n (u8s a)
  rb : Rd w B m (u8s b)
  rx : Rd w C k (u8s x)
  ry : Rd w D j (u8s y)
theorem Four.of {P : Program} {src dst e : TypeId} {A B C D : Option Addr} {n m k j : Nat} (c d p q : Nat) {a b x y : List UInt8} {w : World} (hs : P.underlying src = some (.slice e)) (he : P.underlying e = some (.int .u8)) (hd : P.underlying dst = some .string)
    (ra : Rd w A n (u8s a)) (rb : Rd w B m (u8s b)) (rx : Rd w C k (u8s x)) (ry : Rd w D j (u8s y)) : Four P src dst A B C D n m k j c d p q a b x y w :=
  ⟨run_str w hs he hd ra, run_str w hs he hd rb, run_str w hs he hd rx, run_str w hs he hd ry, ra, rb, rx, ry⟩
theorem Four.gr {P : Program} {src dst e : TypeId} {A B C D : Option Addr} {n m k j c d p q : Nat} {a b x y : List UInt8} {w w' : World} (hs : P.underlying src = some (.slice e)) (he : P.underlying e = some (.int .u8)) (hd : P.underlying dst = some .string)
    (h : Four P src dst A B C D n m k j c d p q a b x y w) (g : Below w.heap.size w w') : Four P src dst A B C D n m k j c d p q a b x y w' :=
  Four.of c d p q hs he hd (h.ra.below g) (h.rb.below g) (h.rx.below g) (h.ry.below g)
theorem Four.all {P : Program} {src dst : TypeId} {A B C D : Option Addr} {n m k j c d p q : Nat} {a b x y : List UInt8} {w : World} (h : Four P src dst A B C D n m k j c d p q a b x y w) :
    (convert src dst (.slice A n c)).run P w = .ok (.string ⟨a.toArray⟩) w ∧ (convert src dst (.slice B m d)).run P w = .ok (.string ⟨b.toArray⟩) w ∧ (convert src dst (.slice C k p)).run P w = .ok (.string ⟨x.toArray⟩) w ∧
    (convert src dst (.slice D j q)).run P w = .ok (.string ⟨y.toArray⟩) w := ⟨h.sa, h.sb, h.sx, h.sy⟩

set_option maxRecDepth 100000 in
set_option maxHeartbeats 4000000 in
theorem law_same (A B : Option Addr) (n c m d : Nat) (a b : List UInt8) (w : World) (hnc : n ≤ c) (hmd : m ≤ d) (hcm : c ≤ maxLen) (hdm : d ≤ maxLen) (ha : Rd w A n (u8s a)) (hb : Rd w B m (u8s b)) :
    Calls Try.prog 6 #[.slice A n c, .slice B m d] w fun e w' => e = .returned (.bool true) ∧ Below w.heap.size w w' := by
  unfold maxLen at hcm hdm
  obtain ⟨i0, hi0, hz0, hz1, hz2⟩ := info_parts Try.info5
  obtain ⟨k, hk, hk1, hk2⟩ : ∃ k : Nat, min (n : Int) 200 = k ∧ k ≤ n ∧ k ≤ 200 := ⟨min n 200, by omega, by omega, by omega⟩
  obtain ⟨j, hj, hj1, hj2⟩ : ∃ k : Nat, min (m : Int) 200 = k ∧ k ≤ m ∧ k ≤ 200 := ⟨min m 200, by omega, by omega, by omega⟩
  have hka : Rd w A k (u8s (a.take k)) := by rw [← u8s_take]; exact ha.take hk1
  have hjb : Rd w B j (u8s (b.take j)) := by rw [← u8s_take]; exact hb.take hj1
  go_enter Try.func6, Try.ntmps6
  go_wp2
  refine wp_region_ssaL (by kernel_rfl) [NewV w.heap.size 5, IsV (.slice A n c), IsV (.slice A n c), IsV (.int .i64 n), IsV (.int .i64 k), IsV (.slice A k c), CopyV w.heap.size 5 (a.take k),
    NewV w.heap.size 5, IsV (.slice B m d), IsV (.slice B m d), IsV (.int .i64 m), IsV (.int .i64 j), IsV (.slice B j d), CopyV w.heap.size 5 (b.take j), CopyV w.heap.size 5 (a.take k), CopyV w.heap.size 5 (b.take j)] (by kernel_rfl) ?_ ?_ ?_
  · intro φ hφ v w1 w2 h hg
    simp only [List.mem_cons, List.not_mem_nil, or_false] at hφ
    rcases hφ with rfl | rfl | rfl | rfl | rfl | rfl | rfl | rfl | rfl | rfl | rfl | rfl | rfl | rfl | rfl | rfl
    all_goals first | exact h | exact hg.own h | (obtain ⟨g, e, h⟩ := h; exact ⟨g, e, hg.own h⟩)
  · refine ⟨?_, ?_, ?_, ?_, ?_, ?_, ?_, ?_, ?_, ?_, ?_, ?_, ?_, ?_, ?_, ?_, trivial⟩
    · intro a1 w1 hG hF
      exact ssa_new rfl rfl w.heap.size 5 rfl hG.size (by go_simp)
    · intro a1 w1 hG hF
      exact ssa_pure rfl rfl _ rfl (run_move (hF.old_ 0 (by kernel_rfl) (by kernel_rfl)))
    · intro a1 w1 hG hF
      exact ssa_pure rfl rfl _ rfl (run_move (hF.old_ 0 (by kernel_rfl) (by kernel_rfl)))
    · intro a1 w1 hG hF
      obtain ⟨v, e1, rfl⟩ := hF.dep_ 2 11 (by kernel_rfl) (by kernel_rfl) (by kernel_rfl)
      exact ssa_pure rfl rfl _ rfl (run_len_slice Try.underlying35 e1)
    · intro a1 w1 hG hF
      obtain ⟨v, e1, rfl⟩ := hF.dep_ 3 12 (by kernel_rfl) (by kernel_rfl) (by kernel_rfl)
      exact ssa_pure rfl rfl _ rfl (run_min_ e1 rfl hk)
    · intro a1 w1 hG hF
      obtain ⟨v, e1, rfl⟩ := hF.dep_ 1 10 (by kernel_rfl) (by kernel_rfl) (by kernel_rfl)
      obtain ⟨v, e2, rfl⟩ := hF.dep_ 4 13 (by kernel_rfl) (by kernel_rfl) (by kernel_rfl)
      refine ssa_pure rfl rfl (.slice A k c) rfl ?_
      simp only [execOp, Option.map, e1, e2]
      go_simp
      intro hx
      omega
    · intro a1 w1 hG hF
      obtain ⟨v, e2, rfl⟩ := hF.dep_ 5 14 (by kernel_rfl) (by kernel_rfl) (by kernel_rfl)
      exact ssa_clip rfl rfl w.heap.size _ 5 rfl (.tmp 9) (.tmp 14) 35 rfl i0 (.int .u8 0) Try.underlying35 hi0 hz0 hz1 hz2 rfl (hF.dep_ 0 9 (by kernel_rfl) (by kernel_rfl) (by kernel_rfl)) A k c e2 (Gr.rd ((Gr.drew w).trans hG) hka) (by omega) hG.size
    · intro a1 w1 hG hF
      exact ssa_new rfl rfl w.heap.size 5 rfl hG.size (by go_simp)
    · intro a1 w1 hG hF
      exact ssa_pure rfl rfl _ rfl (run_move (hF.old_ 1 (by kernel_rfl) (by kernel_rfl)))
    · intro a1 w1 hG hF
      exact ssa_pure rfl rfl _ rfl (run_move (hF.old_ 1 (by kernel_rfl) (by kernel_rfl)))
    · intro a1 w1 hG hF
      obtain ⟨v, e1, rfl⟩ := hF.dep_ 9 18 (by kernel_rfl) (by kernel_rfl) (by kernel_rfl)
      exact ssa_pure rfl rfl _ rfl (run_len_slice Try.underlying35 e1)
    · intro a1 w1 hG hF
      obtain ⟨v, e1, rfl⟩ := hF.dep_ 10 19 (by kernel_rfl) (by kernel_rfl) (by kernel_rfl)
      exact ssa_pure rfl rfl _ rfl (run_min_ e1 rfl hj)
    · intro a1 w1 hG hF
      obtain ⟨v, e1, rfl⟩ := hF.dep_ 8 17 (by kernel_rfl) (by kernel_rfl) (by kernel_rfl)
      obtain ⟨v, e2, rfl⟩ := hF.dep_ 11 20 (by kernel_rfl) (by kernel_rfl) (by kernel_rfl)
      refine ssa_pure rfl rfl (.slice B j d) rfl ?_
      simp only [execOp, Option.map, e1, e2]
      go_simp
      intro hx
      omega
    · intro a1 w1 hG hF
      obtain ⟨v, e2, rfl⟩ := hF.dep_ 12 21 (by kernel_rfl) (by kernel_rfl) (by kernel_rfl)
      exact ssa_clip rfl rfl w.heap.size _ 5 rfl (.tmp 16) (.tmp 21) 35 rfl i0 (.int .u8 0) Try.underlying35 hi0 hz0 hz1 hz2 rfl (hF.dep_ 7 16 (by kernel_rfl) (by kernel_rfl) (by kernel_rfl)) B j d e2 (Gr.rd ((Gr.drew w).trans hG) hjb) (by omega) hG.size
    · intro a1 w1 hG hF
      exact ssa_same rfl rfl _ (.inl rfl) (hF.dep_ 6 15 (by kernel_rfl) (by kernel_rfl) (by kernel_rfl))
    · intro a1 w1 hG hF
      exact ssa_same rfl rfl _ (.inl rfl) (hF.dep_ 13 22 (by kernel_rfl) (by kernel_rfl) (by kernel_rfl))
  · intro vs w1 hG hfacts
    have g14 : w1.ownsRow w.heap.size 5 1 (vs 14) (a.take k).length (u8s (a.take k)) := hfacts.2.2.2.2.2.2.2.2.2.2.2.2.2.2.1
    have g15 : w1.ownsRow w.heap.size 5 1 (vs 15) (b.take j).length (u8s (b.take j)) := hfacts.2.2.2.2.2.2.2.2.2.2.2.2.2.2.2.1
    clear hfacts
    have hG1 : Gr w w1 := (Gr.drew w).trans hG
    have hkl : (a.take k).length = k := by simpa using hka.1
    have hjl : (b.take j).length = j := by simpa using hjb.1
    obtain ⟨l1, hl1⟩ : ∃ l, l = a.take k := ⟨_, rfl⟩
    obtain ⟨l2, hl2⟩ : ∃ l, l = b.take j := ⟨_, rfl⟩
    rw [hkl, ← hl1] at g14
    rw [hjl, ← hl2] at g15
    clear hG hka hjb ha hb hkl hjl hl1 hl2
    obtain ⟨A1, c1, e1, hc1, hw14⟩ := own_form g14
    clear hw14
    obtain ⟨A2, c2, e2, hc2, hw15⟩ := own_form g15
    clear hw15
    simp only [putAll, Nat.zero_add, Nat.reduceAdd, e1, e2]
    rw [e1] at g14
    rw [e2] at g15
    generalize vs 0 = x0; generalize vs 1 = x1; generalize vs 2 = x2; generalize vs 3 = x3; generalize vs 4 = x4; generalize vs 5 = x5; generalize vs 6 = x6
    generalize vs 7 = x7; generalize vs 8 = x8; generalize vs 9 = x9; generalize vs 10 = x10; generalize vs 11 = x11; generalize vs 12 = x12; generalize vs 13 = x13
    clear e1 e2 vs
    have r1 := Rd.of_own g14
    have r2 := Rd.of_own g15
    clear g14 g15
    have hl1k : l1.length = k := by simpa using r1.1
    have hl2j : l2.length = j := by simpa using r2.1
    have q1 : ∀ n, (convert 35 9 (.slice A1 k c1)).run Try.prog (w1.drewN n) = .ok (.string ⟨l1.toArray⟩) (w1.drewN n) := fun n => run_str (w1.drewN n) Try.underlying35 Try.underlying5 Try.underlying9 (r1.drewN n)
    have q2 : ∀ n, (convert 35 9 (.slice A2 j c2)).run Try.prog (w1.drewN n) = .ok (.string ⟨l2.toArray⟩) (w1.drewN n) := fun n => run_str (w1.drewN n) Try.underlying35 Try.underlying5 Try.underlying9 (r2.drewN n)
    go_simp
    go_wp2_with fail
    go_quiet (fail)
    go_simp
    clear q1 q2
    go_wp2_with fail
    refine (mix_any A1 A2 k c1 j c2 l1 l2 (by omega) _ (r1.drewN _) (r2.drewN _)).mono ?_
    rintro e w2 ⟨v2, rfl, o2, hB2⟩
    obtain ⟨A3, c3, rfl, hc3, hw3⟩ := own_form o2
    have r1b := (r1.drewN nq).below hB2
    have r2b := (r2.drewN nq).below hB2
    have r3 := Rd.of_own o2
    clear o2 hw3 r1 r2
    go_wp2_with fail
    refine (mix_any A3 A2 (min k j) c3 j c2 (mixL l1 l2) l2 (by omega) _ r3 r2b).mono ?_
    rintro e w3 ⟨v3, rfl, o3, hB3⟩
    obtain ⟨A4, c4, rfl, hc4, hw4⟩ := own_form o3
    have r4 := Rd.of_own o3
    rw [mixL_mixL, hl1k, hl2j, show min (min k j) j = min k j from by omega] at r4
    rw [show min (min k j) j = min k j from by omega]
    have F0 := Four.of c1 c2 c3 c4 Try.underlying35 Try.underlying5 Try.underlying9 (r1b.below hB3) (r2b.below hB3) (r3.below hB3) r4
    clear o3 hw4 r1b r2b r3 r4
    obtain ⟨l3, hl3⟩ : ∃ l, l = mixL l1 l2 := ⟨_, rfl⟩
    rw [← hl3] at F0
    obtain ⟨l4, hl4⟩ : ∃ l, l = l1.take (min k j) := ⟨_, rfl⟩
    rw [← hl4] at F0
    have hm : ∀ w, Calls Try.prog 18 #[.string ⟨l1.toArray⟩, .string ⟨l2.toArray⟩] w fun e w' => e = .returned (.string ⟨l3.toArray⟩) ∧ Below w.heap.size w w' := by
      intro w; rw [hl3]; exact refMix_any l1 l2 (by omega) (by omega) w
    obtain ⟨q, hq⟩ : ∃ q, (l1 == l2) = q := ⟨_, rfl⟩
    have hs1 : ∀ w, Rd w A1 k (u8s l1) → Rd w A2 j (u8s l2) → Calls Try.prog 17 #[.slice A1 k c1, .slice A2 j c2] w fun e w' => e = .returned (.bool q) ∧ ∃ k, w' = w.drewN k := by
      intro w h1 h2
      rw [← hq, show (l1 == l2) = decide (l1 = l2) from by rw [Bool.eq_iff_iff]; simp]
      exact same_all A1 A2 k c1 j c2 l1 l2 (by omega) w h1 h2
    have hs2 : ∀ w H d, Rd w A1 k (u8s l1) → Rd w H k (u8s l1) → Calls Try.prog 17 #[.slice A1 k c1, .slice H k d] w fun e w' => e = .returned (.bool true) ∧ ∃ k, w' = w.drewN k := by
      intro w H d h1 h2
      have := same_all A1 H k c1 k d l1 l1 (by omega) w h1 h2
      simpa using this
    have hpk : (0 : Int) ≤ (min k j : Nat) := by omega
    have hpk2 : ((min k j : Nat) : Int) ≤ k := by omega
    have hpk3 : min k j ≤ k := by omega
    have hx : (⟨l1.toArray⟩ : ByteArray).extract 0 (min k j) = ⟨l4.toArray⟩ := by
      rw [hl4]; apply ByteArray.ext; simp [List.extract_eq_take_drop]
    go_wp2_with fail
    refine wp_region_ssaL (by kernel_rfl) [IsV (.bool true), IsV (.bool true), IsV (.slice A1 k c1), IsV (.slice A2 j c2), IsV (.bool q), IsV (.string ⟨(l1).toArray⟩), IsV (.string ⟨(l2).toArray⟩), IsV (.bool q), IsV (.bool true), IsV (.bool true), IsV (.bool true), IsV (.slice A1 k c1), IsV (.string ⟨(l1).toArray⟩), RdV (k) (l1), IsV (.bool true), IsV (.bool true), IsV (.bool true), IsV (.slice A3 (min k j) c3), IsV (.string ⟨(l3).toArray⟩), IsV (.string ⟨(l1).toArray⟩), IsV (.string ⟨(l2).toArray⟩), IsV (.string ⟨(l3).toArray⟩), IsV (.bool true), IsV (.bool true), IsV (.bool true), IsV (.slice A4 (min k j) c4), IsV (.string ⟨(l4).toArray⟩), IsV (.string ⟨(l1).toArray⟩), IsV (.slice A3 (min k j) c3), IsV (.int .i64 ((min k j) : Nat)), IsV (.string ⟨(l4).toArray⟩), IsV (.bool true), IsV (.bool true), IsV (.bool true), IsV (.slice A1 k c1), IsV (.string ⟨(l1).toArray⟩), IsV (.string ⟨(l1).toArray⟩), IsV (.bool true), IsV (.bool true), IsV (.bool true), IsV (.slice A2 j c2), IsV (.string ⟨(l2).toArray⟩), IsV (.string ⟨(l2).toArray⟩), IsV (.bool true), IsV (.bool true), IsV (.bool true)] (by kernel_rfl) ?_ ?_ ?_
    · intro φ hφ v w1 w2 h hg
      simp only [List.mem_cons, List.not_mem_nil, or_false] at hφ
      rcases hφ with rfl | rfl | rfl | rfl | rfl | rfl | rfl | rfl | rfl | rfl | rfl | rfl | rfl | rfl | rfl | rfl | rfl | rfl | rfl | rfl | rfl | rfl | rfl | rfl | rfl | rfl | rfl | rfl | rfl | rfl | rfl | rfl | rfl | rfl | rfl | rfl | rfl | rfl | rfl | rfl | rfl | rfl | rfl | rfl | rfl | rfl
      all_goals first | exact h | exact RdV.gr h hg
    · refine ⟨?_, ?_, ?_, ?_, ?_, ?_, ?_, ?_, ?_, ?_, ?_, ?_, ?_, ?_, ?_, ?_, ?_, ?_, ?_, ?_, ?_, ?_, ?_, ?_, ?_, ?_, ?_, ?_, ?_, ?_, ?_, ?_, ?_, ?_, ?_, ?_, ?_, ?_, ?_, ?_, ?_, ?_, ?_, ?_, ?_, ?_, trivial⟩
      · intro a1 w1 hG hF
        exact s_call rfl (wants0 rfl) _ rfl _ _ (by simp only [execOp, resolve, invoke, List.map_toArray, List.map_nil]; go_simp) ((turns_any w1).mono fun e w2 ⟨he, hb⟩ => ⟨_, he, rfl, hb⟩)
      · intro a1 w1 hG hF
        exact s_same rfl (wants0 rfl) (.tmp 33) (.inr rfl) (hF.dp 0 33 (by kernel_rfl))
      · intro a1 w1 hG hF
        exact s_old rfl (wantsG hF 1 34 true rfl (by kernel_rfl) rfl) (.tmp 0) (.inr rfl) (.slice A1 k c1) (hF.ol 0 (by kernel_rfl)) rfl
      · intro a1 w1 hG hF
        exact s_old rfl (wantsG hF 1 34 true rfl (by kernel_rfl) rfl) (.tmp 1) (.inr rfl) (.slice A2 j c2) (hF.ol 1 (by kernel_rfl)) rfl
      · intro a1 w1 hG hF
        obtain ⟨_, e35, rfl⟩ := hF.dp 2 35 (by kernel_rfl)
        obtain ⟨_, e36, rfl⟩ := hF.dp 3 36 (by kernel_rfl)
        exact s_call rfl (wantsG hF 1 34 true rfl (by kernel_rfl) rfl) _ rfl _ _ (by simp only [execOp, resolve, invoke, List.map_toArray, List.map_cons, List.map_nil, e35, e36]; go_simp) ((hs1 w1 (Gr.rd ((Gr.drew w3).trans hG) F0.ra) (Gr.rd ((Gr.drew w3).trans hG) F0.rb)).mono fun e w2 ⟨he, k, hk⟩ => ⟨_, he, rfl, hk ▸ drewN_below w1 k⟩)
      · intro a1 w1 hG hF
        exact s_old rfl (wantsG hF 1 34 true rfl (by kernel_rfl) rfl) (.tmp 5) (.inr rfl) (.string ⟨(l1).toArray⟩) (hF.ol 5 (by kernel_rfl)) rfl
      · intro a1 w1 hG hF
        exact s_old rfl (wantsG hF 1 34 true rfl (by kernel_rfl) rfl) (.tmp 6) (.inr rfl) (.string ⟨(l2).toArray⟩) (hF.ol 6 (by kernel_rfl)) rfl
      · intro a1 w1 hG hF
        obtain ⟨_, e38, rfl⟩ := hF.dp 5 38 (by kernel_rfl)
        obtain ⟨_, e39, rfl⟩ := hF.dp 6 39 (by kernel_rfl)
        exact s_is rfl (wantsG hF 1 34 true rfl (by kernel_rfl) rfl) _ rfl (by simp only [execOp, e38, e39]; go_simp)
      · intro a1 w1 hG hF
        obtain ⟨_, e37, rfl⟩ := hF.dp 4 37 (by kernel_rfl)
        obtain ⟨_, e40, rfl⟩ := hF.dp 7 40 (by kernel_rfl)
        exact s_is rfl (wantsG hF 1 34 true rfl (by kernel_rfl) rfl) _ rfl (by simp only [execOp, e37, e40]; go_simp)
      · intro a1 w1 hG hF
        obtain ⟨_, e34, rfl⟩ := hF.dp 1 34 (by kernel_rfl)
        obtain ⟨_, e41, rfl⟩ := hF.dp 8 41 (by kernel_rfl)
        exact s_pick rfl (wants0 rfl) (.tmp 34) (.tmp 41) _ rfl e34 _ e41 rfl
      · intro a1 w1 hG hF
        exact s_same rfl (wants0 rfl) (.tmp 42) (.inr rfl) (hF.dp 9 42 (by kernel_rfl))
      · intro a1 w1 hG hF
        exact s_old rfl (wantsG hF 10 43 true rfl (by kernel_rfl) rfl) (.tmp 0) (.inr rfl) (.slice A1 k c1) (hF.ol 0 (by kernel_rfl)) rfl
      · intro a1 w1 hG hF
        exact s_old rfl (wantsG hF 10 43 true rfl (by kernel_rfl) rfl) (.tmp 5) (.inr rfl) (.string ⟨(l1).toArray⟩) (hF.ol 5 (by kernel_rfl)) rfl
      · intro a1 w1 hG hF
        obtain ⟨_, e45, rfl⟩ := hF.dp 12 45 (by kernel_rfl)
        exact s_bytes rfl (wantsG hF 10 43 true rfl (by kernel_rfl) rfl) _ _ _ (.tmp 45) rfl Try.underlying9 Try.underlying35 Try.underlying5 _ _ hl1k e45 rfl
      · intro a1 w1 hG hF
        obtain ⟨_, e44, rfl⟩ := hF.dp 11 44 (by kernel_rfl)
        obtain ⟨_, e46, A46, c46, rfl, hc46, r46⟩ := hF.dp 13 46 (by kernel_rfl)
        exact s_call rfl (wantsG hF 10 43 true rfl (by kernel_rfl) rfl) _ rfl _ _ (by simp only [execOp, resolve, invoke, List.map_toArray, List.map_cons, List.map_nil, e44, e46]; go_simp) ((hs2 w1 A46 c46 (Gr.rd ((Gr.drew w3).trans hG) F0.ra) r46).mono fun e w2 ⟨he, k, hk⟩ => ⟨_, he, rfl, hk ▸ drewN_below w1 k⟩)
      · intro a1 w1 hG hF
        obtain ⟨_, e43, rfl⟩ := hF.dp 10 43 (by kernel_rfl)
        obtain ⟨_, e47, rfl⟩ := hF.dp 14 47 (by kernel_rfl)
        exact s_pick rfl (wants0 rfl) (.tmp 43) (.tmp 47) _ rfl e43 _ e47 rfl
      · intro a1 w1 hG hF
        exact s_same rfl (wants0 rfl) (.tmp 48) (.inr rfl) (hF.dp 15 48 (by kernel_rfl))
      · intro a1 w1 hG hF
        exact s_old rfl (wantsG hF 16 49 true rfl (by kernel_rfl) rfl) (.tmp 7) (.inr rfl) (.slice A3 (min k j) c3) (hF.ol 7 (by kernel_rfl)) rfl
      · intro a1 w1 hG hF
        obtain ⟨_, e50, rfl⟩ := hF.dp 17 50 (by kernel_rfl)
        exact s_str rfl (wantsG hF 16 49 true rfl (by kernel_rfl) rfl) _ _ _ (.tmp 50) rfl Try.underlying35 Try.underlying5 Try.underlying9 _ _ _ _ e50 (Gr.rd ((Gr.drew w3).trans hG) F0.rx) rfl
      · intro a1 w1 hG hF
        exact s_old rfl (wantsG hF 16 49 true rfl (by kernel_rfl) rfl) (.tmp 5) (.inr rfl) (.string ⟨(l1).toArray⟩) (hF.ol 5 (by kernel_rfl)) rfl
      · intro a1 w1 hG hF
        exact s_old rfl (wantsG hF 16 49 true rfl (by kernel_rfl) rfl) (.tmp 6) (.inr rfl) (.string ⟨(l2).toArray⟩) (hF.ol 6 (by kernel_rfl)) rfl
      · intro a1 w1 hG hF
        obtain ⟨_, e52, rfl⟩ := hF.dp 19 52 (by kernel_rfl)
        obtain ⟨_, e53, rfl⟩ := hF.dp 20 53 (by kernel_rfl)
        exact s_call rfl (wantsG hF 16 49 true rfl (by kernel_rfl) rfl) _ rfl _ _ (by simp only [execOp, resolve, invoke, List.map_toArray, List.map_cons, List.map_nil, e52, e53]; go_simp) ((hm w1).mono fun e w2 ⟨he, hb⟩ => ⟨_, he, rfl, hb⟩)
      · intro a1 w1 hG hF
        obtain ⟨_, e51, rfl⟩ := hF.dp 18 51 (by kernel_rfl)
        obtain ⟨_, e54, rfl⟩ := hF.dp 21 54 (by kernel_rfl)
        exact s_is rfl (wantsG hF 16 49 true rfl (by kernel_rfl) rfl) _ rfl (by simp only [execOp, e51, e54]; go_simp)
      · intro a1 w1 hG hF
        obtain ⟨_, e49, rfl⟩ := hF.dp 16 49 (by kernel_rfl)
        obtain ⟨_, e55, rfl⟩ := hF.dp 22 55 (by kernel_rfl)
        exact s_pick rfl (wants0 rfl) (.tmp 49) (.tmp 55) _ rfl e49 _ e55 rfl
      · intro a1 w1 hG hF
        exact s_same rfl (wants0 rfl) (.tmp 56) (.inr rfl) (hF.dp 23 56 (by kernel_rfl))
      · intro a1 w1 hG hF
        exact s_old rfl (wantsG hF 24 57 true rfl (by kernel_rfl) rfl) (.tmp 8) (.inr rfl) (.slice A4 (min k j) c4) (hF.ol 8 (by kernel_rfl)) rfl
      · intro a1 w1 hG hF
        obtain ⟨_, e58, rfl⟩ := hF.dp 25 58 (by kernel_rfl)
        exact s_str rfl (wantsG hF 24 57 true rfl (by kernel_rfl) rfl) _ _ _ (.tmp 58) rfl Try.underlying35 Try.underlying5 Try.underlying9 _ _ _ _ e58 (Gr.rd ((Gr.drew w3).trans hG) F0.ry) rfl
      · intro a1 w1 hG hF
        exact s_old rfl (wantsG hF 24 57 true rfl (by kernel_rfl) rfl) (.tmp 5) (.inr rfl) (.string ⟨(l1).toArray⟩) (hF.ol 5 (by kernel_rfl)) rfl
      · intro a1 w1 hG hF
        exact s_old rfl (wantsG hF 24 57 true rfl (by kernel_rfl) rfl) (.tmp 7) (.inr rfl) (.slice A3 (min k j) c3) (hF.ol 7 (by kernel_rfl)) rfl
      · intro a1 w1 hG hF
        obtain ⟨_, e61, rfl⟩ := hF.dp 28 61 (by kernel_rfl)
        exact s_is rfl (wantsG hF 24 57 true rfl (by kernel_rfl) rfl) _ rfl (run_len_slice Try.underlying35 e61)
      · intro a1 w1 hG hF
        obtain ⟨_, e60, rfl⟩ := hF.dp 27 60 (by kernel_rfl)
        obtain ⟨_, e62, rfl⟩ := hF.dp 29 62 (by kernel_rfl)
        exact s_is rfl (wantsG hF 24 57 true rfl (by kernel_rfl) rfl) _ rfl (by simp only [execOp, Option.map, e60, e62]; go_simp)
      · intro a1 w1 hG hF
        obtain ⟨_, e59, rfl⟩ := hF.dp 26 59 (by kernel_rfl)
        obtain ⟨_, e63, rfl⟩ := hF.dp 30 63 (by kernel_rfl)
        exact s_is rfl (wantsG hF 24 57 true rfl (by kernel_rfl) rfl) _ rfl (by simp only [execOp, e59, e63]; go_simp)
      · intro a1 w1 hG hF
        obtain ⟨_, e57, rfl⟩ := hF.dp 24 57 (by kernel_rfl)
        obtain ⟨_, e64, rfl⟩ := hF.dp 31 64 (by kernel_rfl)
        exact s_pick rfl (wants0 rfl) (.tmp 57) (.tmp 64) _ rfl e57 _ e64 rfl
      · intro a1 w1 hG hF
        exact s_same rfl (wants0 rfl) (.tmp 65) (.inr rfl) (hF.dp 32 65 (by kernel_rfl))
      · intro a1 w1 hG hF
        exact s_old rfl (wantsG hF 33 66 true rfl (by kernel_rfl) rfl) (.tmp 0) (.inr rfl) (.slice A1 k c1) (hF.ol 0 (by kernel_rfl)) rfl
      · intro a1 w1 hG hF
        obtain ⟨_, e67, rfl⟩ := hF.dp 34 67 (by kernel_rfl)
        exact s_str rfl (wantsG hF 33 66 true rfl (by kernel_rfl) rfl) _ _ _ (.tmp 67) rfl Try.underlying35 Try.underlying5 Try.underlying9 _ _ _ _ e67 (Gr.rd ((Gr.drew w3).trans hG) F0.ra) rfl
      · intro a1 w1 hG hF
        exact s_old rfl (wantsG hF 33 66 true rfl (by kernel_rfl) rfl) (.tmp 5) (.inr rfl) (.string ⟨(l1).toArray⟩) (hF.ol 5 (by kernel_rfl)) rfl
      · intro a1 w1 hG hF
        obtain ⟨_, e68, rfl⟩ := hF.dp 35 68 (by kernel_rfl)
        obtain ⟨_, e69, rfl⟩ := hF.dp 36 69 (by kernel_rfl)
        exact s_is rfl (wantsG hF 33 66 true rfl (by kernel_rfl) rfl) _ rfl (by simp only [execOp, e68, e69]; go_simp)
      · intro a1 w1 hG hF
        obtain ⟨_, e66, rfl⟩ := hF.dp 33 66 (by kernel_rfl)
        obtain ⟨_, e70, rfl⟩ := hF.dp 37 70 (by kernel_rfl)
        exact s_pick rfl (wants0 rfl) (.tmp 66) (.tmp 70) _ rfl e66 _ e70 rfl
      · intro a1 w1 hG hF
        exact s_same rfl (wants0 rfl) (.tmp 71) (.inr rfl) (hF.dp 38 71 (by kernel_rfl))
      · intro a1 w1 hG hF
        exact s_old rfl (wantsG hF 39 72 true rfl (by kernel_rfl) rfl) (.tmp 1) (.inr rfl) (.slice A2 j c2) (hF.ol 1 (by kernel_rfl)) rfl
      · intro a1 w1 hG hF
        obtain ⟨_, e73, rfl⟩ := hF.dp 40 73 (by kernel_rfl)
        exact s_str rfl (wantsG hF 39 72 true rfl (by kernel_rfl) rfl) _ _ _ (.tmp 73) rfl Try.underlying35 Try.underlying5 Try.underlying9 _ _ _ _ e73 (Gr.rd ((Gr.drew w3).trans hG) F0.rb) rfl
      · intro a1 w1 hG hF
        exact s_old rfl (wantsG hF 39 72 true rfl (by kernel_rfl) rfl) (.tmp 6) (.inr rfl) (.string ⟨(l2).toArray⟩) (hF.ol 6 (by kernel_rfl)) rfl
      · intro a1 w1 hG hF
        obtain ⟨_, e74, rfl⟩ := hF.dp 41 74 (by kernel_rfl)
        obtain ⟨_, e75, rfl⟩ := hF.dp 42 75 (by kernel_rfl)
        exact s_is rfl (wantsG hF 39 72 true rfl (by kernel_rfl) rfl) _ rfl (by simp only [execOp, e74, e75]; go_simp)
      · intro a1 w1 hG hF
        obtain ⟨_, e72, rfl⟩ := hF.dp 39 72 (by kernel_rfl)
        obtain ⟨_, e76, rfl⟩ := hF.dp 43 76 (by kernel_rfl)
        exact s_pick rfl (wants0 rfl) (.tmp 72) (.tmp 76) _ rfl e72 _ e76 rfl
      · intro a1 w1 hG hF
        exact s_same rfl (wants0 rfl) (.tmp 77) (.inl rfl) (hF.dp 44 77 (by kernel_rfl))
    · intro vs w1 hG hf
      have z4 : vs 45 = .bool true := hf.2.2.2.2.2.2.2.2.2.2.2.2.2.2.2.2.2.2.2.2.2.2.2.2.2.2.2.2.2.2.2.2.2.2.2.2.2.2.2.2.2.2.2.2.2.1
      clear hf
      simp only [putAll, Nat.zero_add, Nat.reduceAdd, z4]

      have hw1 := Gr.trans hG1 (Gr.trans (drewN_below _ _) (Gr.trans hB2 (Gr.trans hB3 (Gr.trans (Gr.drew _) hG))))
      clear hG hG1 hB2 hB3 hm hs1 hs2 hx hl3 hl4
      go_simp
      go_wp2_with fail
      go_ret
      exact ⟨rfl, hw1⟩
end Go.Proofs.Ytacjengaljecnaa
