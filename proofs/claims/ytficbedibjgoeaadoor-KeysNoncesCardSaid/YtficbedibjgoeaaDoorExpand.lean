/- The walk of hkdf.Expand. No condition. -/
import Derived.Test.YtficbedibjgoeaaDoorHSum
import Derived.Test.YtficbedibjgoeaaDoorHkdfP
import Derived.Test.YtficbedibjgoeaaDoorShaE
import Derived.Deep.Cut
namespace Go.Proofs.YtficbedibjgoeaaDoor
open Go.RowKit
/-- Expanded so far: what came out, the last digest, in a block of its own. -/
def ExpR (w0 : World) (K U : List UInt8) (q : Nat) (v last i : Value) (wr : World) : Prop :=
  ∃ (k m8 : Nat) (Al : Option Addr) (nl cl : Nat), m8 = 32 * k ∧ (k = 0 ∨ 32 * (k - 1) < q) ∧ i = .int .i64 ((k : Int) + 1) ∧ wr.ownsRow w0.heap.size 5 1 v m8 (u8s (outL K U k)) ∧ last = .slice Al nl cl ∧ nl ≤ cl ∧ Rd wr Al nl (u8s (lastL K U k)) ∧
    (∀ ad, Al = some ad → some ad.block ≠ v.ownBlock) ∧ Below w0.heap.size w0 wr
theorem Rd.grownB {w w' : World} {A : Option Addr} {n : Nat} {xs : List Value} {row : Option Nat} (h : Rd w A n xs) (hg : w.grownBy w' row) (hne : ∀ ad, A = some ad → some ad.block ≠ row) : Rd w' A n xs :=
  ⟨h.1, fun j v hj => by
    obtain ⟨ad, e, hc⟩ := h.2 j v hj
    refine ⟨ad, e, hg.cell hc ?_⟩
    have : (ad.add j).block = ad.block := by unfold Addr.add; split <;> rfl
    rw [this]
    exact hne ad e⟩
theorem run_cut_hm {P : Program} {T e : TypeId} {A : Option Addr} {n c hi : Nat} (hT : P.underlying T = some (.slice e)) (hsz : (P.info? e).map (·.size) = some 1) (h2 : hi ≤ c) (w : World) :
    (Instr.sliceAt T (.slice A n c) none (some (.int .i64 (hi : Int))) (some (.int .i64 (hi : Int)))).run P w = .ok (.slice A hi hi) w := by
  have e1 : P.elem T = e := by simp [Program.elem, hT]
  have e2 : A.map (·.add 0) = A := by cases A <;> simp [add_zero_]
  rw [run_sliceAt_slice w T _ _ _ _ (by rw [e1]; exact hT), run_slice_hm w T _ _ _ (by rw [e1]; exact hT) _ _ _ _ (by omega) (by omega) (by omega), e1]
  simp only [run_size1 hsz, Result.andThen_ok, sliced, Nat.zero_mul, e2, ite_self, Nat.sub_zero, Int.toNat_natCast]
theorem own_form3 {w : World} {base : Nat} {e : TypeId} {n : Nat} {v : Value} {xs : List Value} (h : w.ownsRow base e 1 v n xs) : ∃ A c, v = .slice A n c ∧ n ≤ c ∧ (A = none → n = 0 ∧ c = 0) ∧ Rd w A n xs := by
  obtain ⟨A, c, hv, hc, _⟩ := own_form h
  refine ⟨A, c, hv, hc, fun hA => ?_, by subst hv; exact Rd.of_own h⟩
  rcases h.2 with ⟨e1, e2⟩ | ⟨g, cap, cur, e1, _⟩
  · rw [hv] at e1
    injection e1 with _ e3 e4
    exact ⟨e3, e4⟩
  · rw [hv, hA] at e1
    cases e1
set_option maxRecDepth 100000 in
set_option maxHeartbeats 4000000 in
theorem expand_no (A : Option Addr) (n c : Nat) (B : Option Addr) (m d : Nat) (q : Int) (hq : q < 0 ∨ 8160 < q) (w : World) :
    Calls Tryd.prog 18 #[.slice A n c, .slice B m d, .int .i64 q] w fun e w' => e = .returned (.tuple #[.slice none 0 0, .int .i64 1]) ∧ Below w.heap.size w w' := by
  by_cases h : q < 0
  · go_enter Tryd.func18, Tryd.ntmps18
    go_wp2_with fail
    refine bodyPost_ret (results_tmp2 rfl _ _ _) rfl ?_
    exact ⟨rfl, Below.refl _ _⟩
  · have h2 : 8160 < q := by omega
    go_enter Tryd.func18, Tryd.ntmps18
    go_wp2_with fail
    refine bodyPost_ret (results_tmp2 rfl _ _ _) rfl ?_
    exact ⟨rfl, Below.refl _ _⟩
set_option maxRecDepth 100000 in
set_option maxHeartbeats 8000000 in
theorem expand_row (A : Option Addr) (n c : Nat) (K : List UInt8) (B : Option Addr) (m d : Nat) (U : List UInt8) (q : Nat) (hn : n ≤ 100000) (hnc : n ≤ c) (hm : m ≤ 100000) (hmd : m ≤ d) (hq : q ≤ 8160) (w : World)
    (hr : Rd w A n (u8s K)) (hA : A = none → n = 0 ∧ c = 0) (hu : Rd w B m (u8s U)) (gw : Glob w) :
    Calls Tryd.prog 18 #[.slice A n c, .slice B m d, .int .i64 q] w fun e w' => ∃ A', e = .returned (.tuple #[.slice A' q q, .int .i64 0]) ∧ Rd w' A' q (u8s (expandL K U q)) ∧ Below w.heap.size w w' ∧ (0 < q → ∃ g, A' = some ⟨g, 0, none⟩) := by
  obtain ⟨i0, hi0, hz0, hz1, hz2⟩ := info_parts Tryd.info5
  have hul : U.length = m := by simpa using hu.1
  have HS : Hid (∀ w B2 ps k, Rd w A n (u8s K) → Parts w B2 3 ps → allP ps = lastL K U k ++ U ++ [UInt8.ofNat (k + 1)] → Glob w → Calls Tryd.prog 19 #[.slice A n c, .slice B2 3 3] w fun e w' => e = .returned (.agg (u8s (lastL K U (k + 1))).toArray) ∧ Below w.heap.size w w') := by
    intro w B2 ps k h1 h2 h3 h4
    have hle := lastL_le K U k
    exact hmacSum_any A n c K B2 3 3 ps _ (by omega) hnc (by omega) h3 (by simp; omega) w h1 hA h2 h4
  have HQ := Lib.hid hq
  have q1 : ¬ (q : Int) < 0 := by omega
  have q2 : ¬ (8160 : Int) < (q : Int) := by omega
  go_enter Tryd.func18, Tryd.ntmps18
  go_wp2_with fail
  go_simp
  go_loopw [8, 9, 10] (fun v last i wr => ExpR w K U q v last i wr) (fun v _ _ _ => q - lenSl v)
  case atStart =>
    exact ⟨0, 0, none, 0, 0, rfl, .inl rfl, rfl, World.ownsRow_nil _ _ _ _, rfl, Nat.le_refl _, Rd.nil _ _, (fun ad e => by cases e), Below.refl _ _⟩
  case round =>
    obtain ⟨k, m8, Al, nl, cl, hm8, hk, rfl, hown, rfl, hcl, hrl, hne, hB⟩ := hrel
    have hbs := hB.size
    obtain ⟨A8, c8, rfl, hc8, hA8, hr8⟩ := own_form3 hown
    have HM8 := Lib.hid hm8
    by_cases hlt : m8 < q
    · have hlti : (m8 : Int) < (q : Int) := by omega
      have hk254 : k ≤ 254 := by omega
      have hki : (k : Int) ≤ 254 := by omega
      have hb1 : (k : Int) + 1 = ((UInt8.ofNat (k + 1)).toNat : Int) := by rw [UInt8.toNat_ofNat']; omega
      have HB1 := Lib.hid hb1
      have hru := hu.below hB
      have hrk := hr.below hB
      have gwr := Glob.below hB gw
      have hk1 := lastL_succ K U k
      clear hm8 hk hb1
      go_wp2_with fail
      have hcell : Rd ((wr.alloc (.cells #[.int .u8 ((k : Int) + 1)] 5)).alloc (.cells #[.slice Al nl cl, .slice B m d, .slice (some ⟨wr.heap.size, 0, none⟩) 1 1] 23)) (some ⟨wr.heap.size, 0, none⟩) 1 (u8s [UInt8.ofNat (k + 1)]) :=
        (Gr.alloc _ _).rd (rd_made rfl _ _ _ 1 _ (by rw [HB1.out]; rfl) rfl)
      have hP : Parts ((wr.alloc (.cells #[.int .u8 ((k : Int) + 1)] 5)).alloc (.cells #[.slice Al nl cl, .slice B m d, .slice (some ⟨wr.heap.size, 0, none⟩) 1 1] 23)) (some ⟨wr.heap.size + 1, 0, none⟩) 3 [⟨Al, nl, cl, lastL K U k⟩, ⟨B, m, d, U⟩, ⟨some ⟨wr.heap.size, 0, none⟩, 1, 1, [UInt8.ofNat (k + 1)]⟩] :=
        ⟨rd_made (by simp only [asz]) _ _ _ 3 _ rfl rfl, fun p hp => by
          simp only [List.mem_cons, List.not_mem_nil, or_false] at hp
          rcases hp with rfl | rfl | rfl
          · exact ⟨(Gr.alloc _ _).rd ((Gr.alloc _ _).rd hrl), hcl⟩
          · exact ⟨(Gr.alloc _ _).rd ((Gr.alloc _ _).rd hru), hmd⟩
          · exact ⟨hcell, Nat.le_refl _⟩⟩
      have hc1 := HS.out _ _ _ k ((Gr.alloc _ _).rd ((Gr.alloc _ _).rd hrk)) hP (by simp [allP]) (gwr.gr ((Gr.alloc _ _).trans (Gr.alloc _ _)))
      obtain ⟨L, hL⟩ : ∃ L, L = lastL K U (k + 1) := ⟨_, rfl⟩
      rw [← hL] at hc1 hk1
      have HL := Lib.hid hL
      clear hL hcell hP
      refine hc1.mono ?_
      rintro e w2 ⟨rfl, hB2⟩
      have hG2 : Gr wr w2 := ((Gr.alloc _ _).trans (Gr.alloc _ _)).trans hB2
      have hs2 : wr.heap.size < w2.heap.size := by have := hB2.size; simp only [asz] at this; omega
      clear hc1 hB2 hrl hru hrk gwr
      go_upto_region 8 with (refine wpList_new rfl 22 (.tmp 11) (.tmp 31) rfl _ (u8s L) rfl rfl rfl (by simp only [u8s_length, hk1]; rfl) (infoU8_32 L hk1) (u8s_oneCell _) ?_; intro w3 h11 hG3)
      have hG4 := hG2.trans hG3
      have ho3 := Gr.own hG4 hown
      have hB3 := hB.trans (hG4.mono hbs)
      have hlt8 := fun g => hown.lt g
      have HLT := Lib.hid hlt8
      have hs3 : w2.heap.size < w3.heap.size := h11.lt
      generalize w2.heap.size = g11 at h11 hs2 hs3 ⊢
      have hr11 := Arr.rdAllS h11 hk1
      have hcut := fun w => run_cutAll (P := Tryd.prog) Tryd.underlying22 (by kernel_rfl) g11 w
      have hne11 : ∀ ad, some (⟨g11, 0, none⟩ : Addr) = some ad → some ad.block ≠ (Value.slice A8 m8 c8).ownBlock := by
        intro ad e
        injection e with e
        subst e
        intro h
        have := (HLT.out g11 h.symm).2
        omega
      have HNE := Lib.hid hne11
      clear hG2 hG3 hG4 hown hlt8 h11 hne11 hne hr8 hA8
      go_wp2_with (at_builtin; go_must (refine wpList_app _ rfl (.tmp 33) (.tmp 34) 23 rfl w.heap.size 5 i0 (.int .u8 0) 1 Tryd.underlying23 hi0 hz0 hz1 hz2 rfl (.slice A8 m8 c8) m8 _ rfl ho3 (some ⟨g11, 0, none⟩) 32 32 _ rfl hr11 (u8s_oneCell _) (by have := HQ.out; omega) (by unfold maxLen; have := HQ.out; omega) hB3.size ?_))
      intro v9 w9 hA9
      have ho9 := hA9.own
      have hB9 := hB3.trans (hA9.below ho3 hB3.size)
      have hr119 : Rd w9 (some ⟨g11, 0, none⟩) 32 (u8s L) := hr11.grownB hA9.grown HNE.out
      have hne9 : ∀ ad, some (⟨g11, 0, none⟩ : Addr) = some ad → some ad.block ≠ v9.ownBlock := by
        intro ad e
        rcases hA9.lies with h | ⟨g, h, hg⟩
        · rw [h]; exact HNE.out ad e
        · injection e with e
          subst e
          rw [h]
          intro h2
          injection h2 with h2
          have h3 : g11 = g := h2
          omega
      have hl9 := own_lenSl ho9
      have ho9b : w9.ownsRow w.heap.size 5 1 v9 (m8 + 32) (u8s (outL K U (k + 1))) := by
        rw [outL, u8s_append, ← HL.out]
        exact ho9
      clear hA9 ho3 ho9
      go_simp
      go_wp2_with fail
      have h1 := HM8.out
      refine ⟨⟨k + 1, m8 + 32, some ⟨g11, 0, none⟩, 32, 32, by omega, .inr (by rw [Nat.add_sub_cancel]; omega), by go_num, ho9b, rfl, Nat.le_refl _, by rw [← HL.out]; exact hr119, hne9, hB9⟩, ?_⟩
      simp only [lenSl] at hl9 ⊢
      omega
    · have hge : ¬ (m8 : Int) < (q : Int) := by omega
      have hcut := fun w1 => run_cut_hm (P := Tryd.prog) Tryd.underlying23 (by kernel_rfl) (A := A8) (n := m8) (c := c8) (hi := q) (by omega) w1
      have hrq : Rd wr A8 q (u8s (expandL K U q)) := by
        rw [← expandL_is K U (show q ≤ 32 * k by omega), ← u8s_take]
        exact hr8.take (by omega)
      clear hm8
      go_wp2_with fail
      refine bodyPost_ret (results_tmp2 rfl _ _ _) rfl ?_
      refine ⟨_, rfl, hrq, hB, fun h0 => ?_⟩
      rcases hown.2 with ⟨_, h2⟩ | ⟨g, cap, cur, e1, _⟩
      · omega
      · injection e1 with e1
        exact ⟨g, e1⟩
theorem expand_any (A : Option Addr) (n c : Nat) (K : List UInt8) (B : Option Addr) (m d : Nat) (U : List UInt8) (q : Nat) (hn : n ≤ 100000) (hnc : n ≤ c) (hm : m ≤ 100000) (hmd : m ≤ d) (hq : q ≤ 8160) (w : World)
    (hr : Rd w A n (u8s K)) (hA : A = none → n = 0 ∧ c = 0) (hu : Rd w B m (u8s U)) (gw : Glob w) :
    Calls Tryd.prog 18 #[.slice A n c, .slice B m d, .int .i64 q] w fun e w' => ∃ A', e = .returned (.tuple #[.slice A' q q, .int .i64 0]) ∧ Rd w' A' q (u8s (expandL K U q)) ∧ Below w.heap.size w w' :=
  (expand_row A n c K B m d U q hn hnc hm hmd hq w hr hA hu gw).mono fun _ _ ⟨A', h1, h2, h3, _⟩ => ⟨A', h1, h2, h3⟩
end Go.Proofs.YtficbedibjgoeaaDoor
