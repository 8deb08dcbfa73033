/- Sets of siblings; the walk of Check. No condition. -/
import Derived.Test.YteckblffpidigaaGreatDoorMtSee
namespace Go.Proofs.YteckblffpidigaaGreatDoor
open Go.RowKit
structure GoodL (L : List SibV) : Prop where
  few : L.length ≤ 64
  sorted : L.Pairwise fun a b => dLt a.d b.d
  anti : ∀ x ∈ L, seenL L x.d = false
theorem sib_at0 (x : SibV) : (sibC x)[0]? = some (.int .i64 (x.d.1 : Int)) := rfl
theorem sib_at1 (x : SibV) : (sibC x)[1]? = some (.int .i64 (x.d.2 : Int)) := rfl
theorem ordS2_any (x y : SibV) (w : World) : Calls Tryz.prog 27 #[.agg (sibC x).toArray, .agg (sibC y).toArray] w fun e w' => e = .returned (.int .i64 (cfD x.d y.d)) ∧ GG w w' :=
  ordB_any _ _ _ _ _ _ (sib_at0 x) (sib_at1 x) (sib_at0 y) (sib_at1 y) w
theorem ordS_lt {x y : SibV} (h : dLt x.d y.d) (w : World) : Calls Tryz.prog 27 #[.agg (sibC x).toArray, .agg (sibC y).toArray] w fun e w' => ∃ z : Int, e = .returned (.int .i64 z) ∧ z < 0 ∧ Gr w w' :=
  (ordS2_any x y w).mono fun _ _ ⟨he, hG⟩ => ⟨_, he, (cfD_lt x.d y.d).2 h, hG.gr⟩
set_option maxRecDepth 100000 in
set_option maxHeartbeats 4000000 in
theorem check1_any {L : List SibV} {A : Option Addr} {n c g : Nat} {x : SibV} {w : World} (hL : SibsR w A n L) (hx : SOk w x) (hg : w.cell? ⟨g, 0, none⟩ = some (.slice A n c)) (hn : n ≤ 1000000) :
    Calls Tryz.prog 49 #[.agg (sibC x).toArray, .pointer (some ⟨g, 0, none⟩)] w fun e w' => e = .returned (.bool (seenL L x.d)) ∧ Gr w w' := by
  obtain ⟨r, hr⟩ : ∃ r, r = seenL L x.d := ⟨_, rfl⟩
  have H3 : Hid (∀ w1, Gr w w1 → Calls Tryz.prog 30 #[.slice A n c, .agg (encD x.d).toArray] w1 fun e w' => e = .returned (.bool r) ∧ Gr w1 w') := Lib.hid (fun w1 h => by rw [hr]; exact seen_any (hL.gr h) hx.right hn)
  rw [← hr]
  obtain ⟨C, hC⟩ : ∃ C, C = sibC x := ⟨_, rfl⟩
  have hA0 : Arr (w.alloc (.cells C.toArray 44)) w.heap.size 44 C := Arr.newAt rfl rfl
  have hS : SibAt (w.alloc (.cells C.toArray 44)) w.heap.size 0 x := SibAt.of hx.ctx.len (by rw [← hC]; exact Arr.range hA0)
  rw [← hC]
  have hG : Gr w (w.alloc (.cells C.toArray 44)) := Gr.alloc _ _
  have hc0 := Gr.cell hG hg
  clear hC hx hA0 hr hg hL
  go_enter Tryz.func49, Tryz.ntmps49
  go_upto_region 1 with fail
  change Code.wp _ _ _ _ (w.alloc (.cells C.toArray 44))
  generalize w.alloc (.cells C.toArray 44) = w0 at hS hG hc0 ⊢
  generalize w.heap.size = g1 at hS ⊢
  go_wp2_with first
    | (refine wpList_loadT rfl 39 (.tmp 5) rfl g1 0 (by kernel_rfl) (encD x.d) hS.dot Tryz.underlying39 rfl (infoDot x.d) ?_)
    | (go_at_call 30; refine (H3.out w0 hG).mono ?_; rintro e w9 ⟨rfl, hG9⟩)
  go_ret
  exact ⟨rfl, hG.trans hG9⟩
def ChkR (n : Nat) (w : World) (k : Value) (wr : World) : Prop := ∃ i : Nat, i ≤ n ∧ k = .int .i64 (i : Int) ∧ Gr w wr
set_option maxRecDepth 100000 in
set_option maxHeartbeats 8000000 in
theorem scheck_any {L : List SibV} {A : Option Addr} {n c : Nat} {w : World} (hL : SibsR w A n L) (hg : GoodL L) :
    Calls Tryz.prog 13 #[.slice A n c] w fun e w' => e = .returned (.int .i64 0) ∧ Gr w w' := by
  have hn64 : n ≤ 64 := by rw [← hL.1]; exact hg.few
  have hni : (n : Int) ≤ 64 := by omega
  have hG : Gr w (w.alloc (.cells #[.slice A n c] 23)) := Gr.alloc _ _
  have hA : Arr (w.alloc (.cells #[.slice A n c] 23)) w.heap.size 23 [.slice A n c] := Arr.newAt rfl rfl
  have hc1 := hA.cell (i := 0) (v := .slice A n c) rfl
  have HL := Lib.hid (hL.gr hG)
  have HS := Lib.hid hg.sorted
  have HLen := Lib.hid hL.1
  have HA := Lib.hid hg.anti
  clear hL hg hA
  go_enter Tryz.func13, Tryz.ntmps13
  go_upto_region 1 with fail
  change Code.wp _ _ _ _ (w.alloc (.cells #[.slice A n c] 23))
  generalize w.alloc (.cells #[.slice A n c] 23) = w0 at hG hc1 HL ⊢
  generalize w.heap.size = g1 at hc1 ⊢
  go_wp2_with fail
  go_simp
  go_loopw [10] (fun i wr => ChkR n w0 i wr) (fun i _ => n - (intOf i).toNat)
  case atStart => exact ⟨0, Nat.zero_le _, rfl, Gr.refl _⟩
  case round =>
    obtain ⟨k, hk, rfl, hGr⟩ := hrel
    by_cases hlt : k < n
    · have hki : (k : Int) < (n : Int) := by omega
      obtain ⟨x, hx⟩ : ∃ x, L[k]? = some x := ⟨_, List.getElem?_eq_getElem (by rw [HLen.out]; exact hlt)⟩
      have HLr := Lib.hid (HL.out.gr hGr)
      obtain ⟨⟨bA, oA, hA, hr⟩, hs⟩ := HLr.out.2 k x hx
      subst hA
      have HI := Lib.hid (infoSib hs.ctx.len)
      have HSo := Lib.hid hs
      have HX := Lib.hid hx
      have hone := sibC_one x
      clear hs hx
      go_upto_region 6 with first
        | (refine wpList_load_mid rfl _ _ rfl bA (oA + k * 20) rfl (sibC x) _ hr Tryz.underlying44 rfl HI.out ?_)
        | (refine wpList_new (w := wr) (t := 44) rfl _ _ _ rfl wr.heap.size (sibC x) rfl rfl rfl (by rw [sibC_length HSo.out.ctx.len]; rfl) HI.out hone ?_; intro w5 hA5 hG5)
      have hrx5 := hG5.range hr
      have hGr5 := hGr.trans hG5
      have hc15 := Gr.cell hGr5 hc1
      have HRi := Lib.hid (fun w1 (h : Gr w5 w1) => sright_any (HSo.out.gr (hG5.trans h)))
      generalize wr.heap.size = g4 at hA5 ⊢
      have hr5 : w5.rangeAt g4 0 (sibC x) := Arr.range hA5
      clear hr hGr hG5 hone
      cases k with
      | zero =>
        refine wp_region_ssaL (by kernel_rfl) [IsV (.agg (sibC x).toArray), IsV (.bool true), IsV (.bool false), IsV (.bool false), IsV (.int .i64 ((0 : Nat) : Int)), IsV (.bool false), IsV (.bool false), IsV (undef), IsV (undef), IsV (undef), IsV (undef), IsV (undef), IsV (undef), IsV (undef), IsV (undef), IsV (.bool false), IsV (.bool false)] (by kernel_rfl) ?_ ?_ ?_
        · intro φ hφ v w1 w2 h hg
          simp only [List.mem_cons, List.not_mem_nil, or_false] at hφ
          rcases hφ with rfl | rfl | rfl | rfl | rfl | rfl | rfl | rfl | rfl | rfl | rfl | rfl | rfl | rfl | rfl | rfl | rfl
          all_goals first | exact h | exact RdV.gr h hg | exact NegV.gr h
        · refine ⟨?_, ?_, ?_, ?_, ?_, ?_, ?_, ?_, ?_, ?_, ?_, ?_, ?_, ?_, ?_, ?_, ?_, trivial⟩
          · intro a1 w1 hG hF
            have e4 : a1.eval (.tmp 4) = .pointer (some ⟨g4, 0, none⟩) := hF.ol 4 (by kernel_rfl)
            exact s_wp rfl (wants0 rfl) (wp_load_mid _ _ rfl g4 0 e4 (sibC x) _ (((Gr.drew w5).trans hG).range hr5) Tryz.underlying44 rfl HI.out ⟨_, rfl, rfl, Gr.refl _⟩)
          · intro a1 w1 hG hF
            obtain ⟨_, e15, rfl⟩ := hF.dp 0 15 (by kernel_rfl)
            exact s_call rfl (wants0 rfl) _ rfl _ _ (by simp only [execOp, resolve, invoke, List.map_toArray, List.map_cons, List.map_nil, e15]; go_simp) ((HRi.out w1 ((Gr.drew w5).trans hG)).mono fun e w2 ⟨he, hb⟩ => ⟨_, he, rfl, hb⟩)
          · intro a1 w1 hG hF
            obtain ⟨_, e16, rfl⟩ := hF.dp 1 16 (by kernel_rfl)
            exact s_is rfl (wants0 rfl) _ rfl (by simp only [execOp, e16]; go_simp)
          · intro a1 w1 hG hF
            exact s_same rfl (wants0 rfl) (.tmp 17) (.inr rfl) (hF.dp 2 17 (by kernel_rfl))
          · intro a1 w1 hG hF
            exact s_old rfl (wantsG hF 3 18 false rfl (by kernel_rfl) rfl) (.tmp 3) (.inr rfl) (.int .i64 ((0 : Nat) : Int)) (hF.ol 3 (by kernel_rfl)) rfl
          · intro a1 w1 hG hF
            obtain ⟨_, e19, rfl⟩ := hF.dp 4 19 (by kernel_rfl)
            exact s_is rfl (wantsG hF 3 18 false rfl (by kernel_rfl) rfl) _ rfl (by simp only [execOp, e19]; go_simp)
          · intro a1 w1 hG hF
            exact s_same rfl (wantsG hF 3 18 false rfl (by kernel_rfl) rfl) (.tmp 20) (.inr rfl) (hF.dp 5 20 (by kernel_rfl))
          · intro a1 w1 hG hF
            exact s_not rfl (notN hF 6 21 true rfl (by kernel_rfl) rfl) rfl
          · intro a1 w1 hG hF
            exact s_not rfl (notN hF 6 21 true rfl (by kernel_rfl) rfl) rfl
          · intro a1 w1 hG hF
            exact s_not rfl (notN hF 6 21 true rfl (by kernel_rfl) rfl) rfl
          · intro a1 w1 hG hF
            exact s_not rfl (notN hF 6 21 true rfl (by kernel_rfl) rfl) rfl
          · intro a1 w1 hG hF
            exact s_not rfl (notN hF 6 21 true rfl (by kernel_rfl) rfl) rfl
          · intro a1 w1 hG hF
            exact s_not rfl (notN hF 6 21 true rfl (by kernel_rfl) rfl) rfl
          · intro a1 w1 hG hF
            exact s_not rfl (notN hF 6 21 true rfl (by kernel_rfl) rfl) rfl
          · intro a1 w1 hG hF
            exact s_not rfl (notN hF 6 21 true rfl (by kernel_rfl) rfl) rfl
          · intro a1 w1 hG hF
            obtain ⟨_, e21, rfl⟩ := hF.dp 6 21 (by kernel_rfl)
            exact s_pickF rfl (wantsG hF 3 18 false rfl (by kernel_rfl) rfl) (.tmp 21) _ _ rfl e21 _ rfl rfl
          · intro a1 w1 hG hF
            obtain ⟨_, e18, rfl⟩ := hF.dp 3 18 (by kernel_rfl)
            obtain ⟨_, e30, rfl⟩ := hF.dp 15 30 (by kernel_rfl)
            exact s_pickF rfl (wants0 rfl) (.tmp 18) _ (.tmp 30) rfl e18 _ e30 rfl
        · intro vs w2 hG2 hf
          have z31 : vs 16 = .bool false := hf.2.2.2.2.2.2.2.2.2.2.2.2.2.2.2.2.1
          clear hf
          simp only [putAll, Nat.zero_add, Nat.reduceAdd, z31]
          have hGe := hGr5.trans ((Gr.drew w5).trans hG2)
          clear hG2 hGr5
          go_simp
          go_wp2_with fail
          exact ⟨⟨0 + 1, by omega, by go_num, hGe⟩, by simp [intOf]; omega⟩
      | succ j =>
        obtain ⟨p, hp⟩ : ∃ p, L[j]? = some p := ⟨_, List.getElem?_eq_getElem (by rw [HLen.out]; omega)⟩
        have hpd : dLt p.d x.d := by
          have h1 := List.pairwise_iff_getElem.1 HS.out j (j + 1) (by rw [HLen.out]; omega) (by rw [HLen.out]; omega) (by omega)
          have e1 := List.getElem?_eq_some_iff.1 hp
          have e2 := List.getElem?_eq_some_iff.1 HX.out
          rw [e1.2, e2.2] at h1
          exact h1
        obtain ⟨⟨bP, oP, heP, hrP⟩, hsP⟩ := HL.out.2 j p hp
        injection heP with heP
        injection heP with heP1 heP2
        subst heP1 heP2
        have hrP5 := hGr5.range hrP
        have hkj : (j : Int) < (n : Int) := by omega
        have HO := Lib.hid (ordS_lt hpd)
        have HIP := Lib.hid (infoSib hsP.ctx.len)
        clear hp hpd hrP hsP
        refine wp_region_ssaL (by kernel_rfl) [IsV (.agg (sibC x).toArray), IsV (.bool true), IsV (.bool false), IsV (.bool false), IsV (.int .i64 ((j + 1 : Nat) : Int)), IsV (.bool true), IsV (.bool true), IsV (.slice (some ⟨bA, oA, none⟩) n c), IsV (.int .i64 ((j + 1 : Nat) : Int)), IsV (.int .i64 ((j : Nat) : Int)), IsV (.pointer (some ⟨bA, oA + j * 20, none⟩)), IsV (.agg (sibC p).toArray), IsV (.agg (sibC x).toArray), NegV, IsV (.bool false), IsV (.bool false), IsV (.bool false)] (by kernel_rfl) ?_ ?_ ?_
        · intro φ hφ v w1 w2 h hg
          simp only [List.mem_cons, List.not_mem_nil, or_false] at hφ
          rcases hφ with rfl | rfl | rfl | rfl | rfl | rfl | rfl | rfl | rfl | rfl | rfl | rfl | rfl | rfl | rfl | rfl | rfl
          all_goals first | exact h | exact RdV.gr h hg | exact NegV.gr h
        · refine ⟨?_, ?_, ?_, ?_, ?_, ?_, ?_, ?_, ?_, ?_, ?_, ?_, ?_, ?_, ?_, ?_, ?_, trivial⟩
          · intro a1 w1 hG hF
            have e4 : a1.eval (.tmp 4) = .pointer (some ⟨g4, 0, none⟩) := hF.ol 4 (by kernel_rfl)
            exact s_wp rfl (wants0 rfl) (wp_load_mid _ _ rfl g4 0 e4 (sibC x) _ (((Gr.drew w5).trans hG).range hr5) Tryz.underlying44 rfl HI.out ⟨_, rfl, rfl, Gr.refl _⟩)
          · intro a1 w1 hG hF
            obtain ⟨_, e15, rfl⟩ := hF.dp 0 15 (by kernel_rfl)
            exact s_call rfl (wants0 rfl) _ rfl _ _ (by simp only [execOp, resolve, invoke, List.map_toArray, List.map_cons, List.map_nil, e15]; go_simp) ((HRi.out w1 ((Gr.drew w5).trans hG)).mono fun e w2 ⟨he, hb⟩ => ⟨_, he, rfl, hb⟩)
          · intro a1 w1 hG hF
            obtain ⟨_, e16, rfl⟩ := hF.dp 1 16 (by kernel_rfl)
            exact s_is rfl (wants0 rfl) _ rfl (by simp only [execOp, e16]; go_simp)
          · intro a1 w1 hG hF
            exact s_same rfl (wants0 rfl) (.tmp 17) (.inr rfl) (hF.dp 2 17 (by kernel_rfl))
          · intro a1 w1 hG hF
            exact s_old rfl (wantsG hF 3 18 false rfl (by kernel_rfl) rfl) (.tmp 3) (.inr rfl) (.int .i64 ((j + 1 : Nat) : Int)) (hF.ol 3 (by kernel_rfl)) rfl
          · intro a1 w1 hG hF
            obtain ⟨_, e19, rfl⟩ := hF.dp 4 19 (by kernel_rfl)
            exact s_is rfl (wantsG hF 3 18 false rfl (by kernel_rfl) rfl) _ rfl (by simp only [execOp, e19]; go_simp; try omega)
          · intro a1 w1 hG hF
            exact s_same rfl (wantsG hF 3 18 false rfl (by kernel_rfl) rfl) (.tmp 20) (.inr rfl) (hF.dp 5 20 (by kernel_rfl))
          · intro a1 w1 hG hF
            have e1 : a1.eval (.tmp 1) = .pointer (some ⟨g1, 0, none⟩) := hF.ol 1 (by kernel_rfl)
            exact s_is rfl (wantsG hF 6 21 true rfl (by kernel_rfl) rfl) _ rfl (run_load1B (.inr (.inr (.inr (.inl ⟨_, Tryz.underlying23⟩)))) e1 (Gr.cell ((Gr.drew w5).trans hG) hc15))
          · intro a1 w1 hG hF
            exact s_old rfl (wantsG hF 6 21 true rfl (by kernel_rfl) rfl) (.tmp 3) (.inr rfl) (.int .i64 ((j + 1 : Nat) : Int)) (hF.ol 3 (by kernel_rfl)) rfl
          · intro a1 w1 hG hF
            obtain ⟨_, e23, rfl⟩ := hF.dp 8 23 (by kernel_rfl)
            exact s_is rfl (wantsG hF 6 21 true rfl (by kernel_rfl) rfl) _ rfl (run_subN (a := j + 1) (b := 1) e23 rfl (by omega) (by omega))
          · intro a1 w1 hG hF
            obtain ⟨_, e22, rfl⟩ := hF.dp 7 22 (by kernel_rfl)
            obtain ⟨_, e24, rfl⟩ := hF.dp 9 24 (by kernel_rfl)
            exact s_is rfl (wantsG hF 6 21 true rfl (by kernel_rfl) rfl) _ rfl (by simp only [execOp, e22, e24]; go_simp; try (intro h; omega))
          · intro a1 w1 hG hF
            obtain ⟨_, e25, rfl⟩ := hF.dp 10 25 (by kernel_rfl)
            exact s_wp rfl (wantsG hF 6 21 true rfl (by kernel_rfl) rfl) (wp_load_mid _ _ rfl bA (oA + j * 20) e25 (sibC p) _ (((Gr.drew w5).trans hG).range hrP5) Tryz.underlying44 rfl HIP.out ⟨_, rfl, rfl, Gr.refl _⟩)
          · intro a1 w1 hG hF
            have e4 : a1.eval (.tmp 4) = .pointer (some ⟨g4, 0, none⟩) := hF.ol 4 (by kernel_rfl)
            exact s_wp rfl (wantsG hF 6 21 true rfl (by kernel_rfl) rfl) (wp_load_mid _ _ rfl g4 0 e4 (sibC x) _ (((Gr.drew w5).trans hG).range hr5) Tryz.underlying44 rfl HI.out ⟨_, rfl, rfl, Gr.refl _⟩)
          · intro a1 w1 hG hF
            obtain ⟨_, e26, rfl⟩ := hF.dp 11 26 (by kernel_rfl)
            obtain ⟨_, e27, rfl⟩ := hF.dp 12 27 (by kernel_rfl)
            exact s_call rfl (wantsG hF 6 21 true rfl (by kernel_rfl) rfl) _ rfl _ _ (by simp only [execOp, resolve, invoke, List.map_toArray, List.map_cons, List.map_nil, e26, e27]; go_simp) ((HO.out w1).mono fun e w2 ⟨z, he, hz, hb⟩ => ⟨_, he, ⟨z, rfl, hz⟩, hb⟩)
          · intro a1 w1 hG hF
            obtain ⟨x28, e28, f28⟩ := hF.dp 13 28 (by kernel_rfl)
            obtain ⟨z, rfl, hz⟩ := f28
            exact s_is rfl (wantsG hF 6 21 true rfl (by kernel_rfl) rfl) _ rfl (by simp only [execOp, e28]; go_simp; try omega)
          · intro a1 w1 hG hF
            obtain ⟨_, e21, rfl⟩ := hF.dp 6 21 (by kernel_rfl)
            obtain ⟨_, e29, rfl⟩ := hF.dp 14 29 (by kernel_rfl)
            exact s_pick rfl (wantsG hF 3 18 false rfl (by kernel_rfl) rfl) (.tmp 21) (.tmp 29) _ rfl e21 _ e29 rfl
          · intro a1 w1 hG hF
            obtain ⟨_, e18, rfl⟩ := hF.dp 3 18 (by kernel_rfl)
            obtain ⟨_, e30, rfl⟩ := hF.dp 15 30 (by kernel_rfl)
            exact s_pickF rfl (wants0 rfl) (.tmp 18) _ (.tmp 30) rfl e18 _ e30 rfl
        · intro vs w2 hG2 hf
          have z31 : vs 16 = .bool false := hf.2.2.2.2.2.2.2.2.2.2.2.2.2.2.2.2.1
          clear hf
          simp only [putAll, Nat.zero_add, Nat.reduceAdd, z31]
          have hGe := hGr5.trans ((Gr.drew w5).trans hG2)
          clear hG2 hGr5
          go_simp
          go_wp2_with fail
          exact ⟨⟨j + 1 + 1, by omega, by go_num, hGe⟩, by simp [intOf]; omega⟩
    · have hki : ¬ (k : Int) < (n : Int) := by omega
      have hcr := Gr.cell hGr hc1
      have hany : (L.any fun x => seenL L x.d) = false := by
        rw [List.any_eq_false]
        intro x hx
        rw [HA.out x hx]
        exact Bool.false_ne_true
      have HC : Hid (∀ w1, Gr wr w1 → Calls Tryz.prog 48 #[.slice A n c, .func (.func 49) #[] #[.pointer (some ⟨g1, 0, none⟩)]] w1 fun e w' => e = .returned (.bool false) ∧ Gr w1 w') := Lib.hid (fun w1 h => by
        rw [← hany]
        exact containsS_any ((HL.out.gr hGr).gr h) (fun w2 h2 y hy => check1_any (((HL.out.gr hGr).gr h).gr h2) ((((HL.out.gr hGr).gr h).gr h2).ok y hy) (Gr.cell h2 (Gr.cell h hcr)) (by omega)) (enters_of Tryz.func49 (by kernel_rfl) rfl) (by omega))
      have hGw := hG.trans hGr
      clear hany hG hGr
      go_wp2_with (go_at_call 48; refine (HC.out wr (Gr.refl _)).mono ?_; rintro e w9 ⟨rfl, hG9⟩)
      go_ret
      exact ⟨rfl, hGw.trans hG9⟩
end Go.Proofs.YteckblffpidigaaGreatDoor
