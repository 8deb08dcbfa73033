/- The walk of the law PullSteps. No condition. -/
import Derived.Test.YthpgldfjcancjaaDoorPuFour
import Derived.Test.YthpgldfjcancjaaDoorPuStepsP
import Derived.Test.YthpgldfjcancjaaDoorPuClone
import Derived.Test.YthpgldfjcancjaaDoorPuOne
import Derived.Test.YthpgldfjcancjaaDoorPulls
import Derived.BigQuiet
import Derived.Deep.CutBlock
import Derived.Deep.CutRange
namespace Go.Proofs.YthpgldfjcancjaaDoor
open Go.RowKit
theorem zV_one (zs : List Int) : ∀ u ∈ zV zs, u.oneCell' = true := by
  intro u hu
  unfold zV at hu
  obtain ⟨x, _, rfl⟩ := List.mem_map.1 hu
  rfl
theorem zV_length (zs : List Int) : (zV zs).length = zs.length := by simp [zV]
theorem zV_at {zs : List Int} {i : Nat} {z : Int} (h : zs[i]? = some z) : (zV zs)[i]? = some (.int .i64 z) := by simp [zV, h]
theorem zV_take (zs : List Int) (k : Nat) : (zV zs).take k = zV (zs.take k) := by simp [zV, List.map_take]
theorem same_yesZ {w : World} {A B : Option Addr} {q c d : Nat} {zs : List Int} (hx : Rd w A q (zV zs)) (hy : Rd w B q (zV zs)) (hq : q ≤ 100000) :
    Calls Tryd.prog 10 #[.slice A q c, .slice B q d] w fun e w' => e = .returned (.bool true) ∧ Gr w w' := by
  have := same_any (c := c) (d := d) hx hy hq
  simpa using this
theorem rd_range {w : World} {g o : Nat} {l : List UInt8} (hl : l.length = 32) (h : w.rangeAt g o (u8s l)) : Rd w (some ⟨g, o, none⟩) 32 (u8s l) :=
  ⟨by rw [u8s_length, hl], fun j u hu => ⟨_, rfl, by rw [add_row]; exact h j u hu⟩⟩
theorem digs_at {D : Nat → Nm} {i n : Nat} (h : i < n) : (digs D n)[i]? = some (D i) := by
  unfold digs
  rw [List.getElem?_map, List.getElem?_range h]
  rfl
theorem run_cutMid {P : Program} {T e : TypeId} {n : Nat} (hT : P.underlying T = some (.array n e)) (hsz : (P.info? e).map (·.size) = some 1) (g o : Nat) (w : World) :
    (Instr.sliceAt T (.pointer (some ⟨g, o, none⟩)) none none none).run P w = .ok (.slice (some ⟨g, o, none⟩) n n) w := by
  obtain ⟨e1, e2⟩ := arrayLen_of hT
  rw [run_sliceAt_array_all w T _ (by rw [e1, e2]; exact hT), e1, e2]
  simp only [run_size1 hsz, Result.andThen_ok, slicedAt, Nat.sub_zero, Nat.zero_mul, add_zero_, ite_self]
/-- The four nodes below one, in a row just made. -/
def FourV (x : Nat) (v : Value) (w : World) : Prop := ∃ g, v = .slice (some ⟨g, 0, none⟩) 4 4 ∧ Arr w g 3 (intV [4 * x, 4 * x + 1, 4 * x + 2, 4 * x + 3])
theorem FourV.gr {x : Nat} {v : Value} {w w' : World} (h : FourV x v w) (hG : Gr w w') : FourV x v w' := by
  obtain ⟨g, e, hA⟩ := h
  exact ⟨g, e, hA.gr hG⟩
/-- The loop that asks whether all are nodes. -/
def RightR (lv : Int) (zs : List Int) (k : Nat) (w0 : World) (v x : Value) (w : World) : Prop := ∃ (i : Nat) (r : Bool), i ≤ k ∧ v = .bool r ∧ x = .int .i64 (i : Int) ∧ r = rightB lv (zs.take i) ∧ Gr w0 w
theorem RightR.out {lv : Int} {zs : List Int} {k : Nat} {w0 : World} {v x : Value} {w : World} (h : RightR lv zs k w0 v x w) : ∃ (i : Nat) (r : Bool), i ≤ k ∧ v = .bool r ∧ x = .int .i64 (i : Int) ∧ r = rightB lv (zs.take i) ∧ Gr w0 w := h
/-- The loop over the nodes. -/
def WantR (D E : Nat → Nm) (at_ : List Nat) (l k : Nat) (w0 : World) (v x : Value) (w : World) : Prop := ∃ (i m : Nat) (A : Option Addr) (c : Nat), i ≤ k ∧ m = (outU D E at_ l i).length ∧ v = .slice A m c ∧ x = .int .i64 (i : Int) ∧ w.ownsRow w0.heap.size 3 1 (.slice A m c) m (intV (outU D E at_ l i)) ∧ Gr w0 w
theorem WantR.out {D E : Nat → Nm} {at_ : List Nat} {l k : Nat} {w0 : World} {v x : Value} {w : World} (h : WantR D E at_ l k w0 v x w) : ∃ (i m : Nat) (A : Option Addr) (c : Nat), i ≤ k ∧ m = (outU D E at_ l i).length ∧ v = .slice A m c ∧ x = .int .i64 (i : Int) ∧ w.ownsRow w0.heap.size 3 1 (.slice A m c) m (intV (outU D E at_ l i)) ∧ Gr w0 w := h
theorem wide_pos {l : Nat} (hl : l < 5) : (4 : Int) ^ l ≤ 256 ∧ 0 < (4 : Int) ^ l := by
  obtain rfl | rfl | rfl | rfl | rfl : l = 0 ∨ l = 1 ∨ l = 2 ∨ l = 3 ∨ l = 4 := by omega
  all_goals decide
set_option maxRecDepth 100000 in
set_option maxHeartbeats 8000000 in
theorem law_steps (A : Option Addr) (n c : Nat) (f : Nat → RowM) (lv : Int) (Ao : Option Addr) (no co : Nat) (zs : List Int) (w : World) (hA : Rows3 w A n f) (hno : no ≤ co) (hz : Rd w Ao no (zs.map fun z => Value.int .i64 z)) (gw : Glob w) :
    Calls Tryd.prog 4 #[.slice A n c, .int .i64 lv, .slice Ao no co] w fun e w' => e = .returned (.bool true) ∧ Below w.heap.size w w' := by
  have HT := Lib.hid (trees_any (c := c) hA gw)
  obtain ⟨i0, hi0, hz0, hz1, hz2⟩ := infoInt_parts
  obtain ⟨iD, zD, hiD, hzD0, hzD1, hzD2, hzD3⟩ := infoDg_parts
  obtain ⟨B, hBe⟩ : ∃ B, B = w.heap.size := ⟨_, rfl⟩
  have hBw : Hid (B = w.heap.size) := Lib.hid hBe
  rw [← hBe] at HT ⊢
  obtain ⟨k, hk⟩ : ∃ k : Nat, k = min no 8 := ⟨_, rfl⟩
  have hkn : k ≤ no := by omega
  have hk8 : k ≤ 8 := by omega
  have hkc : k ≤ co := by omega
  have hmi : min (no : Int) 8 = (k : Int) := by omega
  obtain ⟨ys, hys⟩ : ∃ ys, ys = zs.take k := ⟨_, rfl⟩
  have hyl : ys.length = k := by
    rw [hys, List.length_take]
    have := hz.1
    rw [List.length_map] at this
    omega
  have hrd : Rd w Ao k (zV ys) := by
    have := hz.take (k := k) hkn
    rw [hys]
    unfold zV
    rw [List.map_take]
    exact this
  have HRD := Lib.hid hrd
  have HYL := Lib.hid hyl
  clear hA hBe hz hk hkn hys hyl hrd
  have mk1 : True := trivial
  go_enter Tryd.func4, Tryd.ntmps4
  go_upto_region 2 with (go_at_call 6; refine HT.out.mono ?_; rintro e w1 ⟨g, b, g', b', p, p', m, R, S, rfl, hm, hF, hAp, hG1⟩)
  have gw1 : Glob w1 := Glob.gr hG1 gw
  have HF := Lib.hid hF
  have hB1 : B ≤ w1.heap.size := by rw [hBw.out]; exact hG1.size
  have hw1 : Below B w w1 := by rw [hBw.out]; exact hG1
  have hrd1 : Rd w1 Ao k (zV ys) := hG1.rd HRD.out
  have hRl : R.length ≤ 1000 := by have := hF.fa; omega
  have hSl : S.length ≤ 1000 := by have := hF.fb; omega
  have ho2 := own_emptyE (w := w1) 3 1 (Nat.le_refl _)
  have hrd2 := (Gr.alloc w1 (.cells #[] 3)).rd hrd1
  have hG2 : Gr w1 (w1.alloc (.cells #[] 3)) := Gr.alloc _ _
  clear hF hAp HT hm hG1 hrd1
  have hcut := fun w1 => run_cut_h (P := Tryd.prog) Tryd.underlying27 (by kernel_rfl) (A := Ao) (n := no) (c := co) (hi := k) (h := (k : Int)) rfl hkc w1
  go_upto_region 3 with (at_builtin; go_must (refine wpList_clone rfl (.tmp 29) (.tmp 34) 27 rfl w1.heap.size 3 i0 (.int .i64 0) 1 8 Tryd.underlying27 hi0 hz0 hz1 hz2 rfl (by omega) rfl ho2 Ao k co (zV ys) rfl (by rw [hrd2.1, Nat.mul_one]) hrd2.2 (zV_one _) (by unfold maxLen; omega) (by omega) (Gr.alloc w1 _).size ?_; intro A3 c3 w3 ho3 hG3))
  have hG13 := hG2.trans hG3
  have hB3 : B ≤ w3.heap.size := Nat.le_trans hB1 hG13.size
  have hw3 : Below B w w3 := Below.trans hw1 (Below.mono hG13 hB1)
  have gw3 := Glob.gr hG13 gw1
  have HF3 := Lib.hid (HF.out.gr hG13)
  have ho4 := own_emptyE (w := w3) 3 1 (Nat.le_refl _)
  have hrd3 := Rd.of_own ho3
  have hrd4 := (Gr.alloc w3 (.cells #[] 3)).rd hrd3
  have hG4 : Gr w3 (w3.alloc (.cells #[] 3)) := Gr.alloc _ _
  clear hG2 hG3 hG13 ho2 hrd2 HF HRD hw1 hB1 gw1 hcut ho3
  go_upto_region 4 with (at_builtin; go_must (refine wpList_clone rfl (.tmp 36) (.tmp 37) 27 rfl w3.heap.size 3 i0 (.int .i64 0) 1 8 Tryd.underlying27 hi0 hz0 hz1 hz2 rfl (by omega) rfl ho4 A3 k c3 (zV ys) rfl (by rw [hrd4.1, Nat.mul_one]) hrd4.2 (zV_one _) (by unfold maxLen; omega) (by omega) (Gr.alloc w3 _).size ?_; intro A5 c5 w5 ho5 hG5))
  have hG35 := hG4.trans hG5
  have hB5 : B ≤ w5.heap.size := Nat.le_trans hB3 hG35.size
  have hw5 : Below B w w5 := Below.trans hw3 (Below.mono hG35 hB3)
  have gw5 := Glob.gr hG35 gw3
  have HF5 := Lib.hid (HF3.out.gr hG35)
  have HA5 := Lib.hid (hG35.rd hrd3)
  have HW5 := Lib.hid (Rd.of_own ho5)
  obtain ⟨rt, hrt⟩ : ∃ r, r = rightB lv ys := ⟨_, rfl⟩
  obtain ⟨r0, hr0⟩ : ∃ r, r = decide (0 ≤ lv ∧ lv ≤ 4) := ⟨_, rfl⟩
  have HRT := Lib.hid hrt
  have HR0 := Lib.hid hr0
  clear hG4 hG5 hG35 ho4 hrd3 hrd4 HF3 hw3 hB3 gw3 ho5 hrt hr0
  have hlv0 : (decide (0 ≤ lv) && decide (lv ≤ 4)) = r0 := by rw [HR0.out]; simp
  go_cut [12] from 12 to 44 (fun v wx => v = .bool r0 ∧ wx = w5)
  case first =>
    by_cases c1 : 0 ≤ lv
    · by_cases c2 : lv ≤ 4
      · have e : Hid (r0 = true) := Lib.hid (by rw [← hlv0]; simp [c1, c2])
        clear hlv0
        go_wp2_with fail
        go_meet
        exact ⟨by rw [e.out], rfl⟩
      · have e : Hid (r0 = false) := Lib.hid (by rw [← hlv0]; simp [c2])
        clear hlv0
        go_wp2_with fail
        go_meet
        exact ⟨by rw [e.out], rfl⟩
    · have e : Hid (r0 = false) := Lib.hid (by rw [← hlv0]; simp [c1])
      clear hlv0
      go_wp2_with fail
      go_meet
      exact ⟨by rw [e.out], rfl⟩
  case rest =>
    obtain ⟨rfl, rfl⟩ := hcut
    have h0R : RightR lv ys k wc (.bool r0) (.int .i64 0) wc := ⟨0, r0, by omega, rfl, rfl, by rw [List.take_zero, rightB_nil, HR0.out], Gr.refl _⟩
    have H0R := Lib.hid h0R
    clear h0R hlv0
    go_upto_block 0 with fail
    go_cut [12] from 12 to 70 (fun v wx => v = .bool rt ∧ Gr wc wx)
    case first =>
      go_upto_region 6 with fail
      go_loopw [12, 13] (fun v x wr => RightR lv ys k wc v x wr) (fun _ x _ => k - (intOf x).toNat)
      case atStart => exact H0R.out
      case round =>
        obtain ⟨i, r, hi, rfl, rfl, hr, hGr⟩ := RightR.out hrel
        clear hrel H0R
        cases r with
        | false =>
          have HN : Hid (rt = false) := Lib.hid (by rw [HRT.out]; exact rightB_false hr.symm)
          clear hr
          by_cases hlt : i < k
          · have c1 : (i : Int) < (k : Int) := by omega
            go_wp2_with fail
            go_meet
            exact ⟨by rw [HN.out], hGr⟩
          · have c1 : ¬ (i : Int) < (k : Int) := by omega
            go_wp2_with fail
            go_meet
            exact ⟨by rw [HN.out], hGr⟩
        | true =>
          by_cases hlt : i < k
          · obtain ⟨z, hz⟩ : ∃ z, ys[i]? = some z := ⟨_, List.getElem?_eq_getElem (by rw [HYL.out]; exact hlt)⟩
            obtain ⟨ad, rfl, hcz⟩ := HA5.out.2 i (.int .i64 z) (zV_at hz)
            have kz : wr.cell? (ad.add i) = some (.int .i64 z) := Gr.cell hGr hcz
            have c1 : (i : Int) < (k : Int) := by omega
            have hsu := rightB_succ hz hr.symm
            have hlv : 0 ≤ lv ∧ lv ≤ 4 := by
              have := hr
              unfold rightB at this
              have h2 := of_decide_eq_true this.symm
              exact ⟨h2.1, h2.2.1⟩
            obtain ⟨l, rfl⟩ : ∃ l : Nat, lv = (l : Int) := ⟨lv.toNat, by omega⟩
            have hl5 : l < 5 := by omega
            obtain ⟨P, hP⟩ : ∃ P, P = 4 ^ l := ⟨_, rfl⟩
            have hPi : (4 : Int) ^ l = (P : Int) := by rw [hP]; simp
            rw [Int.toNat_natCast, hPi] at hsu
            have hWide : Hid (∀ w, Calls Tryd.prog 12 #[.int .i64 (l : Int)] w fun e w' => e = .returned (.int .i64 (P : Int)) ∧ w' = w) := Lib.hid (fun w => by rw [hP]; exact (wide_ref l (by omega) w).mono fun _ _ h => ⟨h.1, h.2.symm⟩)
            have HR9 : Hid (∀ b w1, b = (decide (0 ≤ z) && decide (z < (P : Int))) → Gr wr w1 → RightR (l : Int) ys k wc (.bool b) (.int .i64 ((i : Int) + 1)) w1) := Lib.hid (fun b w1 hb h1 => ⟨i + 1, b, by omega, rfl, by simp, by rw [hsu, hb], hGr.trans h1⟩)
            clear hsu hP hPi hr hz hcz
            go_upto_region 8 with fail
            by_cases d1 : 0 ≤ z
            · by_cases d2 : z < (P : Int)
              · have HB := HR9.out true
                have HB2 := Lib.hid (fun w1 h1 => HB w1 (by simp [d1, d2]) h1)
                clear HB
                go_quiet ((go_at_call 12; refine Calls.quiet_of_same (hWide.out _)))
                go_wp2_with fail
                exact ⟨HB2.out _ (below_dr ⟨_, rfl⟩), by simp only [intOf]; omega⟩
              · have HB := HR9.out false
                have HB2 := Lib.hid (fun w1 h1 => HB w1 (by simp [d2]) h1)
                clear HB
                go_quiet ((go_at_call 12; refine Calls.quiet_of_same (hWide.out _)))
                go_wp2_with fail
                exact ⟨HB2.out _ (below_dr ⟨_, rfl⟩), by simp only [intOf]; omega⟩
            · have d1f : decide (0 ≤ z) = false := decide_eq_false d1
              have HB := HR9.out false
              have HB2 := Lib.hid (fun w1 h1 => HB w1 (by simp [d1]) h1)
              clear HB
              go_quiet (fail)
              go_wp2_with fail
              exact ⟨HB2.out _ (below_dr ⟨_, rfl⟩), by simp only [intOf]; omega⟩
          · have c1 : ¬ (i : Int) < (k : Int) := by omega
            have HN : Hid (rt = true) := Lib.hid (by rw [HRT.out, ← List.take_of_length_le (Nat.le_of_eq (HYL.out.trans (by omega : k = i))), hr])
            clear hr
            go_wp2_with fail
            go_meet
            exact ⟨by rw [HN.out], hGr⟩
    case rest =>
      obtain ⟨rfl, hGx⟩ := hcut
      obtain ⟨w7, hw7⟩ : ∃ w, w = wc := ⟨_, rfl⟩
      rw [← hw7] at hGx ⊢
      clear hw7
      have hw7 : Below B w w7 := Below.trans hw5 (Below.mono hGx hB5)
      have hB7 : B ≤ w7.heap.size := Nat.le_trans hB5 hGx.size
      have gw7 := Glob.gr hGx gw5
      have HF7 := Lib.hid (HF5.out.gr hGx)
      have HA7 := Lib.hid (hGx.rd HA5.out)
      have HW7 := Lib.hid (hGx.rd HW5.out)
      obtain ⟨kd, er, UL, hst⟩ := steps_is (lv := lv) (c := c3) HF7.out.ta HF7.out.tb HYL.out hk8 HA7.out
      have hkd8 := hst.few
      have HST := Lib.hid hst
      have mk2 : True := trivial
      clear hst hw5 hB5 gw5 HF5 HA5 HW5 hGx H0R
      go_upto_region 11 with first
        | (go_at_call 13; refine HST.out.tell.mono ?_; rintro e w8 ⟨Ad, cd, rfl, ho8, hG8⟩; have HNM := Lib.hid (nmr_own ho8 (digs_length _ _)))
        | (go_at_call 14; refine (HST.out.unl w8 Ad cd hG8 HNM.out).mono ?_; rintro e w9 ⟨Au, mu, cu, rfl, hmu, ho9, hG9⟩)
      have hG79 := hG8.trans hG9
      have ho89 := Gr.own hG9 ho8
      have hoe := own_emptyE (w := w9) 43 32 (Nat.le_refl _)
      have hde := Gr.own (Gr.alloc w9 (.cells #[] 43)) ho89
      have hG10 : Gr w9 (w9.alloc (.cells #[] 43)) := Gr.alloc _ _
      have HO89 := Lib.hid ho89
      have HO9 := Lib.hid ho9
      have hlen : ((digs (dI S lv ys) kd).flatMap encN).length = kd * 32 := hde.1
      have hone : ∀ u ∈ (digs (dI S lv ys) kd).flatMap encN, u.oneCell' = true := by
        intro u hu
        obtain ⟨x, _, hx⟩ := List.mem_flatMap.1 hu
        exact u8s_oneCell _ u hx
      clear ho8 ho9 ho89 hG8 hG9 HNM
      go_upto_region 12 with first
        | (at_builtin; clear mk2; go_must (refine wpList_clone rfl (.tmp 90) (.tmp 91) 38 rfl w9.heap.size 43 iD zD 32 32 Tryd.underlying38 hiD hzD0 hzD1 hzD2 hzD3 (by omega) rfl hoe Ad kd cd _ rfl hlen (own_cells hde) hone (by unfold maxLen; omega) (by omega) hG10.size ?_; intro A10 c10 w10 ho10 hG10'; have ho11 := Gr.own (Gr.alloc w10 (.cells (u8s Z32).toArray 43)) ho10; have hAn : Arr (w10.alloc (.cells (u8s Z32).toArray 43)) w10.heap.size 43 (u8s Z32) := Arr.newAt rfl rfl; have hG11 := (hG10.trans hG10').trans (Gr.alloc w10 (.cells (u8s Z32).toArray 43))))
        | (refine wpList_valW rfl (.slice (some ⟨w10.heap.size, 0, none⟩) 1 1) _ (run_buildDg (x := .tmp 93) (X := Z32) rfl rfl) ?_)
        | (at_builtin; go_must (refine wpList_appT rfl (.tmp 92) (.tmp 94) 38 rfl w9.heap.size 43 iD zD 32 32 Tryd.underlying38 hiD hzD0 hzD1 hzD2 hzD3 (by omega) rfl ho11 ⟨w10.heap.size, 0, none⟩ 1 1 (u8s Z32) rfl rfl (fun j u h => by rw [add_row, Nat.zero_add]; exact hAn.cell h) (u8s_oneCell _) (by unfold maxLen; omega) (by omega) hG11.size ?_; intro A12 c12 w12 _ _ hT12; have hG12 : Gr w9 w12 := Below.trans hG11 ((hT12 dgT (fun _ _ _ => by simp [dgT])).below hG11.size); clear hT12))
        | (go_at_call 14; refine (HST.out.more w12 A12 c12 (hG79.trans hG12)).mono ?_; rintro e w13 ⟨rfl, hG13⟩)
      have hG913 := hG12.trans hG13
      have hG713 := hG79.trans hG913
      have hw13 : Below B w w13 := Below.trans hw7 (Below.mono hG713 hB7)
      have hB13 : B ≤ w13.heap.size := Nat.le_trans hB7 hG713.size
      have gw13 := Glob.gr hG713 gw7
      have HF13 := Lib.hid (HF7.out.gr hG713)
      have HA13 := Lib.hid (hG713.rd HA7.out)
      have HW13 := Lib.hid (hG713.rd HW7.out)
      have HD13 := Lib.hid (Gr.own hG913 HO89.out)
      have HU13 := Lib.hid (Gr.own hG913 HO9.out)
      clear hoe hde hG10 hlen hone hG10' ho10 ho11 hAn hG11 hG12 hG13 hG79 hG913 hG713 hw7 hB7 gw7 HF7 HA7 HW7 HO89 HO9
      go_upto_region 14 with first
        | (go_at_call 9; refine (pulls_any gw13).mono ?_; rintro e w14 ⟨rfl, hG14⟩)
        | (go_at_call 10; refine (same_yesZ (hG14.rd HA13.out) (hG14.rd HW13.out) (by omega)).mono ?_; rintro e w15 ⟨rfl, hG15⟩)
      have hG1315 := hG14.trans hG15
      have hw15 : Below B w w15 := Below.trans hw13 (Below.mono hG1315 hB13)
      have hB15 : B ≤ w15.heap.size := Nat.le_trans hB13 hG1315.size
      have HF15 := Lib.hid (HF13.out.gr hG1315)
      have HA15 := Lib.hid (hG1315.rd HA13.out)
      have HD15 := Lib.hid (Gr.own hG1315 HD13.out)
      have HU15 := Lib.hid (Gr.own hG1315 HU13.out)
      have hcase := HST.out.case
      clear hG14 hG15 hG1315 hw13 hB13 gw13 HF13 HA13 HW13 HD13 HU13 HST
      rcases hcase with ⟨hrf, hkp, hk0, he1, hul⟩ | ⟨hgood, hkk, he0, at_, hys, hl, hat, hul⟩
      · have hrt : rt = false := by rw [HRT.out]; exact hrf
        have hm0 : mu = 0 := by rw [hmu.out, hul]; rfl
        have hkp2 : (0 : Int) < (k : Int) := by omega
        clear hrf hul hmu HRT HU15
        subst hrt hk0 he1 hm0
        go_wp2_with fail
        go_ret
        exact ⟨rfl, hw15⟩
      · have hmuL : mu = (outU (dN R lv.toNat at_) (dI S lv ys) at_ lv.toNat k).length := by rw [hmu.out, hul]
        have hU : w15.ownsRow w8.heap.size 3 1 (.slice Au mu cu) mu (intV (outU (dN R lv.toNat at_) (dI S lv ys) at_ lv.toNat k)) := by rw [← hul]; exact HU15.out
        have HU := Lib.hid hU
        have hcond : (rt = true) ∨ (rt = false ∧ k = 0) := by
          rcases hgood with h | h
          · exact .inl (by rw [HRT.out]; exact h)
          · cases hr : rt with
            | true => exact .inl rfl
            | false => exact .inr ⟨rfl, h⟩
        have HML := Lib.hid hmuL
        have HYS := Lib.hid hys
        have HAT := Lib.hid hat
        have HLV := Lib.hid hl
        clear hgood hul hmu hU HU15 hmuL hys hat hl
        subst hkk he0
        obtain ⟨l, hl0⟩ : ∃ l, l = lv.toNat := ⟨_, rfl⟩
        obtain ⟨E, hE⟩ : ∃ E, E = dI S lv ys := ⟨_, rfl⟩
        have HE1 : Hid (∀ i x, at_[i]? = some x → (E i).1 = nodeR S (4 - l) x) := Lib.hid (fun i x hx => by
          have h1 : ys.getD i 0 = (x : Int) := by rw [HYS.out, List.getD_eq_getElem?_getD, List.getElem?_map, hx]; rfl
          rw [hE]
          unfold dI
          simp only [h1, Int.toNat_natCast, ← hl0])
        have HL0 := Lib.hid hl0
        rw [← hl0, ← hE] at HU HML
        rw [← hE] at HD15
        rw [← hl0] at HAT HLV
        clear hE hl0
        go_cut [117] from 111 to 117 (fun v wx => v = .bool false ∧ wx = w15)
        case first =>
          rcases hcond with hr | ⟨hr, hk0⟩
          · subst hr
            go_wp2_with fail
            go_meet
            exact ⟨rfl, rfl⟩
          · subst hr hk0
            go_wp2_with fail
            go_meet
            exact ⟨rfl, rfl⟩
        case rest =>
          obtain ⟨rfl, rfl⟩ := hcut
          clear hcond
          obtain ⟨w16, hw16⟩ : ∃ w, w = wc := ⟨_, rfl⟩
          rw [← hw16] at hw15 hB15 HF15 HA15 HD15 HU ⊢
          clear hw16
          go_upto_region 18 with fail
          go_loopw [20, 21] (fun v x wr => WantR (dN R l at_) E at_ l kd w16 v x wr) (fun _ x _ => kd - (intOf x).toNat)
          case atStart => exact ⟨0, 0, none, 0, by omega, rfl, rfl, rfl, ⟨rfl, .inl ⟨rfl, rfl⟩⟩, Gr.refl _⟩
          case round =>
            obtain ⟨i, m2, A2, c2, hi, hm2, rfl, rfl, ho2, hGr⟩ := WantR.out hrel
            clear hrel
            have hm4 : m2 ≤ 4 * i := by rw [hm2]; exact outU_length _ _ _ _ _
            have HM2 := Lib.hid hm2
            clear hm2
            by_cases hlt : i < kd
            · obtain ⟨hlv, hl5⟩ := HLV.out (by omega)
              subst hlv
              have hal : at_.length = kd := by rw [← HYL.out, HYS.out, List.length_map]
              obtain ⟨x, hx⟩ : ∃ x, at_[i]? = some x := ⟨_, List.getElem?_eq_getElem (by rw [hal]; exact hlt)⟩
              have hxl := HAT.out x (List.mem_of_getElem? hx)
              obtain ⟨ad, rfl, hcx⟩ := HA15.out.2 i (.int .i64 (x : Int)) (by rw [HYS.out]; exact zV_at (by rw [List.getElem?_map, hx]; rfl))
              have kx : wr.cell? (ad.add i) = some (.int .i64 (x : Int)) := Gr.cell hGr hcx
              obtain ⟨gd, rfl, rgD0⟩ := (nmr_own HD15.out (digs_length _ _)).2 i (E i) (digs_at hlt)
              obtain ⟨D1, hD1⟩ : ∃ D, D = nodeR R (4 - l) x := ⟨_, rfl⟩
              obtain ⟨D2, hD2⟩ : ∃ D, D = nodeR S (4 - l) x := ⟨_, rfl⟩
              have hDl2 : D2.length = 32 := by rw [hD2]; exact nodeR_length _ _ _
              have hEi := HE1.out i x hx
              rw [← hD2] at hEi
              have rgD : wr.rangeAt gd (i * 32) (u8s D2) := by rw [← hEi]; exact hGr.range rgD0
              have hsu := outU_succ (dN R l at_) E at_ l i
              have hgx : at_.getD i 0 = x := by rw [List.getD_eq_getElem?_getD, hx]; rfl
              have hDi : (dN R l at_ i).1 = D1 := by unfold dN; simp only [hgx]; exact hD1.symm
              rw [hDi, hEi, hgx] at hsu
              have HN1 : Hid (∀ w1, Gr wr w1 → Calls Tryd.prog 15 #[.pointer (some ⟨p, 0, none⟩), .int .i64 (l : Int), .int .i64 (x : Int)] w1 fun e w' => e = .returned (.string ⟨D1.toArray⟩) ∧ Gr w1 w') := Lib.hid (fun w1 h => by
                have h1 := refNode_any hRl (4 - l) (by omega) x (by rw [show 4 - (4 - l) = l by omega]; exact hxl) w1 (HF15.out.ra.gr (hGr.trans h))
                rw [show 4 - (4 - l) = l by omega, ← hD1] at h1
                exact h1)
              have HN2 : Hid (∀ w1, Gr wr w1 → Calls Tryd.prog 15 #[.pointer (some ⟨p', 0, none⟩), .int .i64 (l : Int), .int .i64 (x : Int)] w1 fun e w' => e = .returned (.string ⟨D2.toArray⟩) ∧ Gr w1 w') := Lib.hid (fun w1 h => by
                have h1 := refNode_any hSl (4 - l) (by omega) x (by rw [show 4 - (4 - l) = l by omega]; exact hxl) w1 (HF15.out.rb.gr (hGr.trans h))
                rw [show 4 - (4 - l) = l by omega, ← hD2] at h1
                exact h1)
              have hx256 : x < 256 := Nat.lt_of_lt_of_le hxl (Nat.pow_le_pow_right (by omega) (by omega : l ≤ 4))
              have hci : (i : Int) < (kd : Int) := by omega
              have HSU0 := Lib.hid hsu
              clear hx hcx hD1 hD2 hxl hsu hgx hDi hEi rgD0 hal
              go_upto_region 20 with fail
              refine wp_region_ssaL (by kernel_rfl) [IsV (.int .i64 ((i : Nat) : Int)), IsV (.slice (some ⟨gd, 0, none⟩) kd cd), IsV (.int .i64 ((kd : Nat) : Int)), IsV (.bool false), IsV (.bool false), IsV (.slice (some ⟨gd, 0, none⟩) kd cd), IsV (.int .i64 ((i : Nat) : Int)), IsV (.pointer (some ⟨gd, i * 32, none⟩)), IsV (.slice (some ⟨gd, i * 32, none⟩) 32 32), IsV (.string ⟨(D2).toArray⟩), IsV (.pointer (some ⟨p', 0, none⟩)), IsV (.int .i64 ((l : Nat) : Int)), IsV (.slice (some ad) kd c3), IsV (.int .i64 ((i : Nat) : Int)), IsV (.pointer (some (ad.add i))), IsV (.int .i64 ((x : Nat) : Int)), IsV (.string ⟨(D2).toArray⟩), IsV (.bool false), IsV (.bool false)] (by kernel_rfl) ?_ ?_ ?_
              · intro φ hφ v w1 w2 h hg
                simp only [List.mem_cons, List.not_mem_nil, or_false] at hφ
                rcases hφ with rfl | rfl | rfl | rfl | rfl | rfl | rfl | rfl | rfl | rfl | rfl | rfl | rfl | rfl | rfl | rfl | rfl | rfl | rfl
                all_goals first | exact h | exact RdV.gr h hg
              · refine ⟨?_, ?_, ?_, ?_, ?_, ?_, ?_, ?_, ?_, ?_, ?_, ?_, ?_, ?_, ?_, ?_, ?_, ?_, ?_, trivial⟩
                · intro a1 w1 hG hF
                  exact s_old rfl (wants0 rfl) (.tmp 21) (.inr rfl) (.int .i64 ((i : Nat) : Int)) (hF.ol 21 (by kernel_rfl)) rfl
                · intro a1 w1 hG hF
                  exact s_old rfl (wants0 rfl) (.tmp 14) (.inr rfl) (.slice (some ⟨gd, 0, none⟩) kd cd) (hF.ol 14 (by kernel_rfl)) rfl
                · intro a1 w1 hG hF
                  obtain ⟨_, e141, rfl⟩ := hF.dp 1 141 (by kernel_rfl)
                  exact s_is rfl (wants0 rfl) _ rfl (by simp only [execOp, resolve, invoke, builtin, List.map_toArray, List.map_cons, List.map_nil, e141]; go_simp)
                · intro a1 w1 hG hF
                  obtain ⟨_, e140, rfl⟩ := hF.dp 0 140 (by kernel_rfl)
                  obtain ⟨_, e142, rfl⟩ := hF.dp 2 142 (by kernel_rfl)
                  exact s_is rfl (wants0 rfl) _ rfl (by simp only [execOp, e140, e142]; go_simp; try omega)
                · intro a1 w1 hG hF
                  exact s_same rfl (wants0 rfl) (.tmp 143) (.inr rfl) (hF.dp 3 143 (by kernel_rfl))
                · intro a1 w1 hG hF
                  exact s_old rfl (wantsG hF 4 144 false rfl (by kernel_rfl) rfl) (.tmp 14) (.inr rfl) (.slice (some ⟨gd, 0, none⟩) kd cd) (hF.ol 14 (by kernel_rfl)) rfl
                · intro a1 w1 hG hF
                  exact s_old rfl (wantsG hF 4 144 false rfl (by kernel_rfl) rfl) (.tmp 21) (.inr rfl) (.int .i64 ((i : Nat) : Int)) (hF.ol 21 (by kernel_rfl)) rfl
                · intro a1 w1 hG hF
                  obtain ⟨_, e145, rfl⟩ := hF.dp 5 145 (by kernel_rfl)
                  obtain ⟨_, e146, rfl⟩ := hF.dp 6 146 (by kernel_rfl)
                  exact s_is rfl (wantsG hF 4 144 false rfl (by kernel_rfl) rfl) _ rfl (by simp only [execOp, e145, e146]; go_simp; try (intro h; omega))
                · intro a1 w1 hG hF
                  obtain ⟨_, e147, rfl⟩ := hF.dp 7 147 (by kernel_rfl)
                  exact s_is rfl (wantsG hF 4 144 false rfl (by kernel_rfl) rfl) _ rfl (by simp only [execOp, e147, Option.map, Sem.run_bind, run_cutMid (P := Tryd.prog) Tryd.underlying43 (by kernel_rfl), Result.andThen_ok, Sem.run_pure])
                · intro a1 w1 hG hF
                  obtain ⟨_, e148, rfl⟩ := hF.dp 8 148 (by kernel_rfl)
                  exact s_str rfl (wantsG hF 4 144 false rfl (by kernel_rfl) rfl) 44 9 5 (.tmp 148) rfl Tryd.underlying44 Tryd.underlying5 Tryd.underlying9 _ _ _ D2 e148 (rd_range hDl2 (((Gr.drew wr).trans hG).range rgD)) rfl
                · intro a1 w1 hG hF
                  exact s_old rfl (wantsG hF 4 144 false rfl (by kernel_rfl) rfl) (.tmp 10) (.inr rfl) (.pointer (some ⟨p', 0, none⟩)) (hF.ol 10 (by kernel_rfl)) rfl
                · intro a1 w1 hG hF
                  exact s_old rfl (wantsG hF 4 144 false rfl (by kernel_rfl) rfl) (.tmp 1) (.inr rfl) (.int .i64 ((l : Nat) : Int)) (hF.ol 1 (by kernel_rfl)) rfl
                · intro a1 w1 hG hF
                  exact s_old rfl (wantsG hF 4 144 false rfl (by kernel_rfl) rfl) (.tmp 2) (.inr rfl) (.slice (some ad) kd c3) (hF.ol 2 (by kernel_rfl)) rfl
                · intro a1 w1 hG hF
                  exact s_old rfl (wantsG hF 4 144 false rfl (by kernel_rfl) rfl) (.tmp 21) (.inr rfl) (.int .i64 ((i : Nat) : Int)) (hF.ol 21 (by kernel_rfl)) rfl
                · intro a1 w1 hG hF
                  obtain ⟨_, e152, rfl⟩ := hF.dp 12 152 (by kernel_rfl)
                  obtain ⟨_, e153, rfl⟩ := hF.dp 13 153 (by kernel_rfl)
                  exact s_is rfl (wantsG hF 4 144 false rfl (by kernel_rfl) rfl) _ rfl (by simp only [execOp, e152, e153]; go_simp; try (intro h; omega))
                · intro a1 w1 hG hF
                  obtain ⟨_, e154, rfl⟩ := hF.dp 14 154 (by kernel_rfl)
                  have hc : w1.cell? (ad.add i) = some (.int .i64 (x : Int)) := Gr.cell ((Gr.drew wr).trans hG) kx
                  exact s_is rfl (wantsG hF 4 144 false rfl (by kernel_rfl) rfl) _ rfl (by simp only [execOp, e154]; go_simp)
                · intro a1 w1 hG hF
                  obtain ⟨_, e150, rfl⟩ := hF.dp 10 150 (by kernel_rfl)
                  obtain ⟨_, e151, rfl⟩ := hF.dp 11 151 (by kernel_rfl)
                  obtain ⟨_, e155, rfl⟩ := hF.dp 15 155 (by kernel_rfl)
                  exact s_call rfl (wantsG hF 4 144 false rfl (by kernel_rfl) rfl) _ rfl _ _ (by simp only [execOp, resolve, invoke, List.map_toArray, List.map_cons, List.map_nil, e150, e151, e155]; go_simp) ((HN2.out w1 ((Gr.drew wr).trans hG)).mono fun e w2 ⟨he, hb⟩ => ⟨_, he, rfl, hb⟩)
                · intro a1 w1 hG hF
                  obtain ⟨_, e149, rfl⟩ := hF.dp 9 149 (by kernel_rfl)
                  obtain ⟨_, e156, rfl⟩ := hF.dp 16 156 (by kernel_rfl)
                  exact s_is rfl (wantsG hF 4 144 false rfl (by kernel_rfl) rfl) _ rfl (by simp only [execOp, e149, e156]; go_simp)
                · intro a1 w1 hG hF
                  obtain ⟨_, e144, rfl⟩ := hF.dp 4 144 (by kernel_rfl)
                  obtain ⟨_, e157, rfl⟩ := hF.dp 17 157 (by kernel_rfl)
                  exact s_pickF rfl (wants0 rfl) (.tmp 144) _ (.tmp 157) rfl e144 _ e157 rfl
              · intro vs w1 hG hf
                have z158 : vs 18 = .bool false := hf.2.2.2.2.2.2.2.2.2.2.2.2.2.2.2.2.2.2.1
                clear hf
                simp only [putAll, Nat.zero_add, Nat.reduceAdd, z158]
                have hG20 := (Gr.drew wr).trans hG
                have ho3 := Gr.own hG20 ho2
                have kx3 := Gr.cell hG20 kx
                obtain ⟨ws, hws⟩ : ∃ w, w = w1 := ⟨_, rfl⟩
                rw [← hws] at hG20 ho3 kx3 ⊢
                clear hws hG kx ho2 rgD
                go_simp
                by_cases hDD : D1 = D2
                · have hsu := HSU0.out
                  rw [if_pos hDD, List.append_nil] at hsu
                  have HSU := Lib.hid hsu
                  have HEQ : Hid (D1 = D2) := Lib.hid hDD
                  clear hsu hDD HSU0
                  go_upto_region 22 with fail
                  refine wp_region_ssaL (by kernel_rfl) [IsV (.pointer (some ⟨p, 0, none⟩)), IsV (.int .i64 ((l : Nat) : Int)), IsV (.slice (some ad) kd c3), IsV (.int .i64 ((i : Nat) : Int)), IsV (.pointer (some (ad.add i))), IsV (.int .i64 ((x : Nat) : Int)), IsV (.string ⟨(D1).toArray⟩), IsV (.pointer (some ⟨p', 0, none⟩)), IsV (.int .i64 ((l : Nat) : Int)), IsV (.slice (some ad) kd c3), IsV (.int .i64 ((i : Nat) : Int)), IsV (.pointer (some (ad.add i))), IsV (.int .i64 ((x : Nat) : Int)), IsV (.string ⟨(D2).toArray⟩), IsV (.bool true)] (by kernel_rfl) ?_ ?_ ?_
                  · intro φ hφ v w1 w2 h hg
                    simp only [List.mem_cons, List.not_mem_nil, or_false] at hφ
                    rcases hφ with rfl | rfl | rfl | rfl | rfl | rfl | rfl | rfl | rfl | rfl | rfl | rfl | rfl | rfl | rfl
                    all_goals first | exact h | exact RdV.gr h hg
                  · refine ⟨?_, ?_, ?_, ?_, ?_, ?_, ?_, ?_, ?_, ?_, ?_, ?_, ?_, ?_, ?_, trivial⟩
                    · intro a1 w1 hG hF
                      exact s_old rfl (wants0 rfl) (.tmp 9) (.inr rfl) (.pointer (some ⟨p, 0, none⟩)) (hF.ol 9 (by kernel_rfl)) rfl
                    · intro a1 w1 hG hF
                      exact s_old rfl (wants0 rfl) (.tmp 1) (.inr rfl) (.int .i64 ((l : Nat) : Int)) (hF.ol 1 (by kernel_rfl)) rfl
                    · intro a1 w1 hG hF
                      exact s_old rfl (wants0 rfl) (.tmp 2) (.inr rfl) (.slice (some ad) kd c3) (hF.ol 2 (by kernel_rfl)) rfl
                    · intro a1 w1 hG hF
                      exact s_old rfl (wants0 rfl) (.tmp 21) (.inr rfl) (.int .i64 ((i : Nat) : Int)) (hF.ol 21 (by kernel_rfl)) rfl
                    · intro a1 w1 hG hF
                      obtain ⟨_, e161, rfl⟩ := hF.dp 2 161 (by kernel_rfl)
                      obtain ⟨_, e162, rfl⟩ := hF.dp 3 162 (by kernel_rfl)
                      exact s_is rfl (wants0 rfl) _ rfl (by simp only [execOp, e161, e162]; go_simp; try (intro h; omega))
                    · intro a1 w1 hG hF
                      obtain ⟨_, e163, rfl⟩ := hF.dp 4 163 (by kernel_rfl)
                      have hc : w1.cell? (ad.add i) = some (.int .i64 (x : Int)) := Gr.cell ((Gr.drew ws).trans hG) kx3
                      exact s_is rfl (wants0 rfl) _ rfl (by simp only [execOp, e163]; go_simp)
                    · intro a1 w1 hG hF
                      obtain ⟨_, e159, rfl⟩ := hF.dp 0 159 (by kernel_rfl)
                      obtain ⟨_, e160, rfl⟩ := hF.dp 1 160 (by kernel_rfl)
                      obtain ⟨_, e164, rfl⟩ := hF.dp 5 164 (by kernel_rfl)
                      exact s_call rfl (wants0 rfl) _ rfl _ _ (by simp only [execOp, resolve, invoke, List.map_toArray, List.map_cons, List.map_nil, e159, e160, e164]; go_simp) ((HN1.out w1 (hG20.trans ((Gr.drew ws).trans hG))).mono fun e w2 ⟨he, hb⟩ => ⟨_, he, rfl, hb⟩)
                    · intro a1 w1 hG hF
                      exact s_old rfl (wants0 rfl) (.tmp 10) (.inr rfl) (.pointer (some ⟨p', 0, none⟩)) (hF.ol 10 (by kernel_rfl)) rfl
                    · intro a1 w1 hG hF
                      exact s_old rfl (wants0 rfl) (.tmp 1) (.inr rfl) (.int .i64 ((l : Nat) : Int)) (hF.ol 1 (by kernel_rfl)) rfl
                    · intro a1 w1 hG hF
                      exact s_old rfl (wants0 rfl) (.tmp 2) (.inr rfl) (.slice (some ad) kd c3) (hF.ol 2 (by kernel_rfl)) rfl
                    · intro a1 w1 hG hF
                      exact s_old rfl (wants0 rfl) (.tmp 21) (.inr rfl) (.int .i64 ((i : Nat) : Int)) (hF.ol 21 (by kernel_rfl)) rfl
                    · intro a1 w1 hG hF
                      obtain ⟨_, e168, rfl⟩ := hF.dp 9 168 (by kernel_rfl)
                      obtain ⟨_, e169, rfl⟩ := hF.dp 10 169 (by kernel_rfl)
                      exact s_is rfl (wants0 rfl) _ rfl (by simp only [execOp, e168, e169]; go_simp; try (intro h; omega))
                    · intro a1 w1 hG hF
                      obtain ⟨_, e170, rfl⟩ := hF.dp 11 170 (by kernel_rfl)
                      have hc : w1.cell? (ad.add i) = some (.int .i64 (x : Int)) := Gr.cell ((Gr.drew ws).trans hG) kx3
                      exact s_is rfl (wants0 rfl) _ rfl (by simp only [execOp, e170]; go_simp)
                    · intro a1 w1 hG hF
                      obtain ⟨_, e166, rfl⟩ := hF.dp 7 166 (by kernel_rfl)
                      obtain ⟨_, e167, rfl⟩ := hF.dp 8 167 (by kernel_rfl)
                      obtain ⟨_, e171, rfl⟩ := hF.dp 12 171 (by kernel_rfl)
                      exact s_call rfl (wants0 rfl) _ rfl _ _ (by simp only [execOp, resolve, invoke, List.map_toArray, List.map_cons, List.map_nil, e166, e167, e171]; go_simp) ((HN2.out w1 (hG20.trans ((Gr.drew ws).trans hG))).mono fun e w2 ⟨he, hb⟩ => ⟨_, he, rfl, hb⟩)
                    · intro a1 w1 hG hF
                      obtain ⟨_, e165, rfl⟩ := hF.dp 6 165 (by kernel_rfl)
                      obtain ⟨_, e172, rfl⟩ := hF.dp 13 172 (by kernel_rfl)
                      exact s_is rfl (wants0 rfl) _ rfl (by simp only [execOp, e165, e172]; go_simp; exact HEQ.out)
                  · intro vs w1 hG hf
                    have z173 : vs 14 = .bool true := hf.2.2.2.2.2.2.2.2.2.2.2.2.2.2.1
                    clear hf
                    simp only [putAll, Nat.zero_add, Nat.reduceAdd, z173]
                    have hG22 := (Gr.drew ws).trans hG
                    have hR9 : WantR (dN R l at_) E at_ l kd w16 (.slice A2 m2 c2) (.int .i64 ((i : Int) + 1)) w1 := ⟨i + 1, m2, A2, c2, by omega, by rw [HSU.out]; exact HM2.out, rfl, by simp, by rw [HSU.out]; exact Gr.own hG22 ho3, hGr.trans (hG20.trans hG22)⟩
                    clear hG22 ho3 hGr hG20 kx3 hG
                    go_simp
                    go_wp2_with fail
                    exact ⟨hR9, by simp only [intOf]; omega⟩
                · have hsu := HSU0.out
                  rw [if_neg hDD] at hsu
                  have HSU := Lib.hid hsu
                  have HEQ : Hid (¬ D1 = D2) := Lib.hid hDD
                  clear hsu hDD HSU0
                  go_upto_region 22 with fail
                  refine wp_region_ssaL (by kernel_rfl) [IsV (.pointer (some ⟨p, 0, none⟩)), IsV (.int .i64 ((l : Nat) : Int)), IsV (.slice (some ad) kd c3), IsV (.int .i64 ((i : Nat) : Int)), IsV (.pointer (some (ad.add i))), IsV (.int .i64 ((x : Nat) : Int)), IsV (.string ⟨(D1).toArray⟩), IsV (.pointer (some ⟨p', 0, none⟩)), IsV (.int .i64 ((l : Nat) : Int)), IsV (.slice (some ad) kd c3), IsV (.int .i64 ((i : Nat) : Int)), IsV (.pointer (some (ad.add i))), IsV (.int .i64 ((x : Nat) : Int)), IsV (.string ⟨(D2).toArray⟩), IsV (.bool false)] (by kernel_rfl) ?_ ?_ ?_
                  · intro φ hφ v w1 w2 h hg
                    simp only [List.mem_cons, List.not_mem_nil, or_false] at hφ
                    rcases hφ with rfl | rfl | rfl | rfl | rfl | rfl | rfl | rfl | rfl | rfl | rfl | rfl | rfl | rfl | rfl
                    all_goals first | exact h | exact RdV.gr h hg
                  · refine ⟨?_, ?_, ?_, ?_, ?_, ?_, ?_, ?_, ?_, ?_, ?_, ?_, ?_, ?_, ?_, trivial⟩
                    · intro a1 w1 hG hF
                      exact s_old rfl (wants0 rfl) (.tmp 9) (.inr rfl) (.pointer (some ⟨p, 0, none⟩)) (hF.ol 9 (by kernel_rfl)) rfl
                    · intro a1 w1 hG hF
                      exact s_old rfl (wants0 rfl) (.tmp 1) (.inr rfl) (.int .i64 ((l : Nat) : Int)) (hF.ol 1 (by kernel_rfl)) rfl
                    · intro a1 w1 hG hF
                      exact s_old rfl (wants0 rfl) (.tmp 2) (.inr rfl) (.slice (some ad) kd c3) (hF.ol 2 (by kernel_rfl)) rfl
                    · intro a1 w1 hG hF
                      exact s_old rfl (wants0 rfl) (.tmp 21) (.inr rfl) (.int .i64 ((i : Nat) : Int)) (hF.ol 21 (by kernel_rfl)) rfl
                    · intro a1 w1 hG hF
                      obtain ⟨_, e161, rfl⟩ := hF.dp 2 161 (by kernel_rfl)
                      obtain ⟨_, e162, rfl⟩ := hF.dp 3 162 (by kernel_rfl)
                      exact s_is rfl (wants0 rfl) _ rfl (by simp only [execOp, e161, e162]; go_simp; try (intro h; omega))
                    · intro a1 w1 hG hF
                      obtain ⟨_, e163, rfl⟩ := hF.dp 4 163 (by kernel_rfl)
                      have hc : w1.cell? (ad.add i) = some (.int .i64 (x : Int)) := Gr.cell ((Gr.drew ws).trans hG) kx3
                      exact s_is rfl (wants0 rfl) _ rfl (by simp only [execOp, e163]; go_simp)
                    · intro a1 w1 hG hF
                      obtain ⟨_, e159, rfl⟩ := hF.dp 0 159 (by kernel_rfl)
                      obtain ⟨_, e160, rfl⟩ := hF.dp 1 160 (by kernel_rfl)
                      obtain ⟨_, e164, rfl⟩ := hF.dp 5 164 (by kernel_rfl)
                      exact s_call rfl (wants0 rfl) _ rfl _ _ (by simp only [execOp, resolve, invoke, List.map_toArray, List.map_cons, List.map_nil, e159, e160, e164]; go_simp) ((HN1.out w1 (hG20.trans ((Gr.drew ws).trans hG))).mono fun e w2 ⟨he, hb⟩ => ⟨_, he, rfl, hb⟩)
                    · intro a1 w1 hG hF
                      exact s_old rfl (wants0 rfl) (.tmp 10) (.inr rfl) (.pointer (some ⟨p', 0, none⟩)) (hF.ol 10 (by kernel_rfl)) rfl
                    · intro a1 w1 hG hF
                      exact s_old rfl (wants0 rfl) (.tmp 1) (.inr rfl) (.int .i64 ((l : Nat) : Int)) (hF.ol 1 (by kernel_rfl)) rfl
                    · intro a1 w1 hG hF
                      exact s_old rfl (wants0 rfl) (.tmp 2) (.inr rfl) (.slice (some ad) kd c3) (hF.ol 2 (by kernel_rfl)) rfl
                    · intro a1 w1 hG hF
                      exact s_old rfl (wants0 rfl) (.tmp 21) (.inr rfl) (.int .i64 ((i : Nat) : Int)) (hF.ol 21 (by kernel_rfl)) rfl
                    · intro a1 w1 hG hF
                      obtain ⟨_, e168, rfl⟩ := hF.dp 9 168 (by kernel_rfl)
                      obtain ⟨_, e169, rfl⟩ := hF.dp 10 169 (by kernel_rfl)
                      exact s_is rfl (wants0 rfl) _ rfl (by simp only [execOp, e168, e169]; go_simp; try (intro h; omega))
                    · intro a1 w1 hG hF
                      obtain ⟨_, e170, rfl⟩ := hF.dp 11 170 (by kernel_rfl)
                      have hc : w1.cell? (ad.add i) = some (.int .i64 (x : Int)) := Gr.cell ((Gr.drew ws).trans hG) kx3
                      exact s_is rfl (wants0 rfl) _ rfl (by simp only [execOp, e170]; go_simp)
                    · intro a1 w1 hG hF
                      obtain ⟨_, e166, rfl⟩ := hF.dp 7 166 (by kernel_rfl)
                      obtain ⟨_, e167, rfl⟩ := hF.dp 8 167 (by kernel_rfl)
                      obtain ⟨_, e171, rfl⟩ := hF.dp 12 171 (by kernel_rfl)
                      exact s_call rfl (wants0 rfl) _ rfl _ _ (by simp only [execOp, resolve, invoke, List.map_toArray, List.map_cons, List.map_nil, e166, e167, e171]; go_simp) ((HN2.out w1 (hG20.trans ((Gr.drew ws).trans hG))).mono fun e w2 ⟨he, hb⟩ => ⟨_, he, rfl, hb⟩)
                    · intro a1 w1 hG hF
                      obtain ⟨_, e165, rfl⟩ := hF.dp 6 165 (by kernel_rfl)
                      obtain ⟨_, e172, rfl⟩ := hF.dp 13 172 (by kernel_rfl)
                      exact s_is rfl (wants0 rfl) _ rfl (by simp only [execOp, e165, e172]; go_simp; exact HEQ.out)
                  · intro vs w1 hG hf
                    have z173 : vs 14 = .bool false := hf.2.2.2.2.2.2.2.2.2.2.2.2.2.2.1
                    clear hf
                    simp only [putAll, Nat.zero_add, Nat.reduceAdd, z173]
                    have hG22 := (Gr.drew ws).trans hG
                    have hG9 := hGr.trans (hG20.trans hG22)
                    have ho4 := Gr.own hG22 ho3
                    have kx4 := Gr.cell hG22 kx3
                    obtain ⟨w4, hw4⟩ : ∃ w, w = w1 := ⟨_, rfl⟩
                    rw [← hw4] at hG9 ho4 kx4 ⊢
                    clear hw4 hG hG22 hGr hG20 ho3 kx3
                    go_simp
                    by_cases hl4 : l = 4
                    · have hcl4 : ((l : Int) == 4) = true := by rw [hl4]; rfl
                      have hbl : belowL l x = [x] := by unfold belowL; rw [if_pos hl4]
                      rw [hbl] at HSU
                      have hon := Gr.own (Gr.alloc w4 (.cells #[.int .i64 (x : Int)] 3)) ho4
                      have hG5 := hG9.trans (Gr.alloc w4 (.cells #[.int .i64 (x : Int)] 3))
                      have hBn := hG5.size
                      have hAn : Arr (w4.alloc (.cells #[.int .i64 (x : Int)] 3)) w4.heap.size 3 [.int .i64 (x : Int)] := Arr.newAt rfl rfl
                      have HE : Hid (∀ A3 c3 w6, w6.ownsRow w16.heap.size 3 1 (.slice A3 (m2 + 1) c3) (m2 + 1) (intV (outU (dN R l at_) E at_ l i) ++ [.int .i64 (x : Int)]) → Gr w16 w6 → WantR (dN R l at_) E at_ l kd w16 (.slice A3 (m2 + 1) c3) (.int .i64 ((i : Int) + 1)) w6) := Lib.hid (fun A3 c3 w6 h6 hG6 =>
                        ⟨i + 1, m2 + 1, A3, c3, by omega, by rw [HSU.out, List.length_append, HM2.out]; rfl, rfl, by simp, by rw [HSU.out, intV_append]; exact h6, hG6⟩)
                      clear hG9 ho4 hbl hl4
                      go_wp2_with (at_builtin; go_must (refine wpList_appT rfl (.tmp 176) (.tmp 181) 27 rfl w16.heap.size 3 i0 (.int .i64 0) 1 8 Tryd.underlying27 hi0 hz0 hz1 hz2 rfl (by omega) rfl hon ⟨w4.heap.size, 0, none⟩ 1 1 [.int .i64 (x : Int)] rfl rfl (fun j u h => by rw [add_row, Nat.zero_add]; exact hAn.cell h) (by simp [Value.oneCell']) (by unfold maxLen; omega) (by omega) hBn ?_; intro A3 c3 w6 h6 _ hT6; have hR9 := HE.out A3 c3 w6 h6 (Below.trans hG5 ((hT6 intT (fun _ _ _ => by simp [intT])).below hBn)); clear h6 hT6))
                      exact ⟨hR9, by simp only [intOf]; omega⟩
                    · have hcl4 : ((l : Int) == 4) = false := beq_false_of_ne (by omega)
                      have hbl : belowL l x = [4 * x, 4 * x + 1, 4 * x + 2, 4 * x + 3] := by unfold belowL; rw [if_neg hl4]
                      rw [hbl] at HSU
                      clear hbl hl4
                      go_upto_region 25 with fail
                      refine wp_region_cut (by kernel_rfl) [IsV (.slice A2 m2 c2), IsV (.slice (some ad) kd c3), IsV (.int .i64 ((i : Nat) : Int)), IsV (.pointer (some (ad.add i))), IsV (.int .i64 ((x : Nat) : Int)), IsV (.int .i64 ((4 * x : Nat) : Int)), IsV (.slice (some ad) kd c3), IsV (.int .i64 ((i : Nat) : Int)), IsV (.pointer (some (ad.add i))), IsV (.int .i64 ((x : Nat) : Int)), IsV (.int .i64 ((4 * x : Nat) : Int)), IsV (.int .i64 (((4 * x) + 1 : Nat) : Int)), IsV (.slice (some ad) kd c3), IsV (.int .i64 ((i : Nat) : Int)), IsV (.pointer (some (ad.add i))), IsV (.int .i64 ((x : Nat) : Int)), IsV (.int .i64 ((4 * x : Nat) : Int)), IsV (.int .i64 (((4 * x) + 2 : Nat) : Int)), IsV (.slice (some ad) kd c3), IsV (.int .i64 ((i : Nat) : Int)), IsV (.pointer (some (ad.add i))), IsV (.int .i64 ((x : Nat) : Int)), IsV (.int .i64 ((4 * x : Nat) : Int)), IsV (.int .i64 (((4 * x) + 3 : Nat) : Int)), FourV x] 25 (by decide) (by kernel_rfl) (by kernel_rfl) (by kernel_rfl) ?_ ?_ ?_
                      · intro φ hφ v w1 w2 h hg
                        simp only [List.mem_cons, List.not_mem_nil, or_false] at hφ
                        rcases hφ with rfl | rfl | rfl | rfl | rfl | rfl | rfl | rfl | rfl | rfl | rfl | rfl | rfl | rfl | rfl | rfl | rfl | rfl | rfl | rfl | rfl | rfl | rfl | rfl | rfl
                        all_goals first | exact h | exact RdV.gr h hg | exact FourV.gr h hg
                      · refine ⟨?_, ?_, ?_, ?_, ?_, ?_, ?_, ?_, ?_, ?_, ?_, ?_, ?_, ?_, ?_, ?_, ?_, ?_, ?_, ?_, ?_, ?_, ?_, ?_, ?_, trivial⟩
                        · intro a1 w1 hG hF
                          exact s_old rfl (wants0 rfl) (.tmp 20) (.inr rfl) (.slice A2 m2 c2) (hF.ol 20 (by kernel_rfl)) rfl
                        · intro a1 w1 hG hF
                          exact s_old rfl (wants0 rfl) (.tmp 2) (.inr rfl) (.slice (some ad) kd c3) (hF.ol 2 (by kernel_rfl)) rfl
                        · intro a1 w1 hG hF
                          exact s_old rfl (wants0 rfl) (.tmp 21) (.inr rfl) (.int .i64 ((i : Nat) : Int)) (hF.ol 21 (by kernel_rfl)) rfl
                        · intro a1 w1 hG hF
                          obtain ⟨_, e184, rfl⟩ := hF.dp 1 184 (by kernel_rfl)
                          obtain ⟨_, e185, rfl⟩ := hF.dp 2 185 (by kernel_rfl)
                          exact s_is rfl (wants0 rfl) _ rfl (by simp only [execOp, e184, e185]; go_simp; try (intro h; omega))
                        · intro a1 w1 hG hF
                          obtain ⟨_, e186, rfl⟩ := hF.dp 3 186 (by kernel_rfl)
                          have hc : w1.cell? (ad.add i) = some (.int .i64 (x : Int)) := Gr.cell ((Gr.drew w4).trans hG) kx4
                          exact s_is rfl (wants0 rfl) _ rfl (by simp only [execOp, e186]; go_simp)
                        · intro a1 w1 hG hF
                          obtain ⟨_, e187, rfl⟩ := hF.dp 4 187 (by kernel_rfl)
                          exact s_is rfl (wants0 rfl) _ rfl (run_mulN (a := 4) (b := x) rfl e187 (by omega))
                        · intro a1 w1 hG hF
                          exact s_old rfl (wants0 rfl) (.tmp 2) (.inr rfl) (.slice (some ad) kd c3) (hF.ol 2 (by kernel_rfl)) rfl
                        · intro a1 w1 hG hF
                          exact s_old rfl (wants0 rfl) (.tmp 21) (.inr rfl) (.int .i64 ((i : Nat) : Int)) (hF.ol 21 (by kernel_rfl)) rfl
                        · intro a1 w1 hG hF
                          obtain ⟨_, e189, rfl⟩ := hF.dp 6 189 (by kernel_rfl)
                          obtain ⟨_, e190, rfl⟩ := hF.dp 7 190 (by kernel_rfl)
                          exact s_is rfl (wants0 rfl) _ rfl (by simp only [execOp, e189, e190]; go_simp; try (intro h; omega))
                        · intro a1 w1 hG hF
                          obtain ⟨_, e191, rfl⟩ := hF.dp 8 191 (by kernel_rfl)
                          have hc : w1.cell? (ad.add i) = some (.int .i64 (x : Int)) := Gr.cell ((Gr.drew w4).trans hG) kx4
                          exact s_is rfl (wants0 rfl) _ rfl (by simp only [execOp, e191]; go_simp)
                        · intro a1 w1 hG hF
                          obtain ⟨_, e192, rfl⟩ := hF.dp 9 192 (by kernel_rfl)
                          exact s_is rfl (wants0 rfl) _ rfl (run_mulN (a := 4) (b := x) rfl e192 (by omega))
                        · intro a1 w1 hG hF
                          obtain ⟨_, e193, rfl⟩ := hF.dp 10 193 (by kernel_rfl)
                          exact s_is rfl (wants0 rfl) _ rfl (run_addN (a := 4 * x) (b := 1) e193 rfl (by omega))
                        · intro a1 w1 hG hF
                          exact s_old rfl (wants0 rfl) (.tmp 2) (.inr rfl) (.slice (some ad) kd c3) (hF.ol 2 (by kernel_rfl)) rfl
                        · intro a1 w1 hG hF
                          exact s_old rfl (wants0 rfl) (.tmp 21) (.inr rfl) (.int .i64 ((i : Nat) : Int)) (hF.ol 21 (by kernel_rfl)) rfl
                        · intro a1 w1 hG hF
                          obtain ⟨_, e195, rfl⟩ := hF.dp 12 195 (by kernel_rfl)
                          obtain ⟨_, e196, rfl⟩ := hF.dp 13 196 (by kernel_rfl)
                          exact s_is rfl (wants0 rfl) _ rfl (by simp only [execOp, e195, e196]; go_simp; try (intro h; omega))
                        · intro a1 w1 hG hF
                          obtain ⟨_, e197, rfl⟩ := hF.dp 14 197 (by kernel_rfl)
                          have hc : w1.cell? (ad.add i) = some (.int .i64 (x : Int)) := Gr.cell ((Gr.drew w4).trans hG) kx4
                          exact s_is rfl (wants0 rfl) _ rfl (by simp only [execOp, e197]; go_simp)
                        · intro a1 w1 hG hF
                          obtain ⟨_, e198, rfl⟩ := hF.dp 15 198 (by kernel_rfl)
                          exact s_is rfl (wants0 rfl) _ rfl (run_mulN (a := 4) (b := x) rfl e198 (by omega))
                        · intro a1 w1 hG hF
                          obtain ⟨_, e199, rfl⟩ := hF.dp 16 199 (by kernel_rfl)
                          exact s_is rfl (wants0 rfl) _ rfl (run_addN (a := 4 * x) (b := 2) e199 rfl (by omega))
                        · intro a1 w1 hG hF
                          exact s_old rfl (wants0 rfl) (.tmp 2) (.inr rfl) (.slice (some ad) kd c3) (hF.ol 2 (by kernel_rfl)) rfl
                        · intro a1 w1 hG hF
                          exact s_old rfl (wants0 rfl) (.tmp 21) (.inr rfl) (.int .i64 ((i : Nat) : Int)) (hF.ol 21 (by kernel_rfl)) rfl
                        · intro a1 w1 hG hF
                          obtain ⟨_, e201, rfl⟩ := hF.dp 18 201 (by kernel_rfl)
                          obtain ⟨_, e202, rfl⟩ := hF.dp 19 202 (by kernel_rfl)
                          exact s_is rfl (wants0 rfl) _ rfl (by simp only [execOp, e201, e202]; go_simp; try (intro h; omega))
                        · intro a1 w1 hG hF
                          obtain ⟨_, e203, rfl⟩ := hF.dp 20 203 (by kernel_rfl)
                          have hc : w1.cell? (ad.add i) = some (.int .i64 (x : Int)) := Gr.cell ((Gr.drew w4).trans hG) kx4
                          exact s_is rfl (wants0 rfl) _ rfl (by simp only [execOp, e203]; go_simp)
                        · intro a1 w1 hG hF
                          obtain ⟨_, e204, rfl⟩ := hF.dp 21 204 (by kernel_rfl)
                          exact s_is rfl (wants0 rfl) _ rfl (run_mulN (a := 4) (b := x) rfl e204 (by omega))
                        · intro a1 w1 hG hF
                          obtain ⟨_, e205, rfl⟩ := hF.dp 22 205 (by kernel_rfl)
                          exact s_is rfl (wants0 rfl) _ rfl (run_addN (a := 4 * x) (b := 3) e205 rfl (by omega))
                        · intro a1 w1 hG hF
                          obtain ⟨_, e188, rfl⟩ := hF.dp 5 188 (by kernel_rfl)
                          obtain ⟨_, e194, rfl⟩ := hF.dp 11 194 (by kernel_rfl)
                          obtain ⟨_, e200, rfl⟩ := hF.dp 17 200 (by kernel_rfl)
                          obtain ⟨_, e206, rfl⟩ := hF.dp 23 206 (by kernel_rfl)
                          exact s_val rfl (wants0 rfl) _ rfl (.slice (some ⟨w1.heap.size, 0, none⟩) 4 4) (w1.alloc (.cells (intV [4 * x, 4 * x + 1, 4 * x + 2, 4 * x + 3]).toArray 3)) (by simp only [execOp, List.map_toArray, List.map_cons, List.map_nil, e188, e194, e200, e206]; go_simp; simp [intV]) ⟨_, rfl, Arr.newAt rfl rfl⟩ (Gr.alloc _ _)
                      · intro vs w1 hG hf
                        have z183 : vs 0 = .slice A2 m2 c2 := hf.1
                        have y207 : (FourV x) (vs 24) w1 := hf.2.2.2.2.2.2.2.2.2.2.2.2.2.2.2.2.2.2.2.2.2.2.2.2.1
                        clear hf
                        simp only [List.take_succ_cons, List.take_zero, List.drop_succ_cons, List.drop_zero, putAll, Nat.zero_add, Nat.reduceAdd, z183]
                        have hG5 := hG9.trans ((Gr.drew w4).trans hG)
                        have ho5 := Gr.own ((Gr.drew w4).trans hG) ho4
                        obtain ⟨g4, hy4, hA4⟩ := y207
                        simp only [hy4]
                        refine wpList_appT rfl (.tmp 183) (.tmp 207) 27 rfl w16.heap.size 3 i0 (.int .i64 0) 1 8 Tryd.underlying27 hi0 hz0 hz1 hz2 rfl (by omega) (by kernel_rfl) ho5 ⟨g4, 0, none⟩ 4 4 (intV [4 * x, 4 * x + 1, 4 * x + 2, 4 * x + 3]) (by kernel_rfl) rfl (fun j u h => by rw [add_row, Nat.zero_add]; exact hA4.cell h) (intV_one _) (by unfold maxLen; omega) (by omega) hG5.size ?_
                        intro A3 c3' w6 h6 _ hT6
                        have hG6 : Gr w16 w6 := Below.trans hG5 ((hT6 intT (fun _ _ _ => by simp [intT])).below hG5.size)
                        have hR9 : WantR (dN R l at_) E at_ l kd w16 (.slice A3 (m2 + 4) c3') (.int .i64 ((i : Int) + 1)) w6 := ⟨i + 1, m2 + 4, A3, c3', by omega, by rw [HSU.out, List.length_append, HM2.out]; rfl, rfl, by simp, by rw [HSU.out, intV_append]; exact h6, hG6⟩
                        clear h6 hT6 hG6 ho5 hG5 hA4 hy4 hG hG9 ho4 kx4
                        unfold wpList
                        go_simp
                        try refine .inl ?_
                        go_wp2_with fail
                        exact ⟨hR9, by simp only [intOf]; omega⟩
            · obtain rfl : kd = i := by omega
              have hci : ¬ (kd : Int) < (kd : Int) := by omega
              have hwe : Below B w wr := Below.trans hw15 (Below.mono hGr hB15)
              have hmm : mu = m2 := HML.out.trans HM2.out.symm
              subst hmm
              have HRU := Lib.hid (Gr.rd hGr (Rd.of_own HU.out))
              have HRW := Lib.hid (Rd.of_own ho2)
              have hmu5 : mu ≤ 100000 := by omega
              clear ho2 hm4
              go_wp2_with first
                | (go_at_call 10; refine (same_yes HRU.out HRW.out hmu5).mono ?_; rintro e w17 ⟨rfl, hG17⟩)
                | (go_at_call 16; refine (one_any _).mono ?_; rintro e w18 ⟨rfl, hG18⟩)
              go_ret
              exact ⟨rfl, Below.trans hwe (Below.mono (hG17.trans hG18) (Nat.le_trans hB15 hGr.size))⟩
end Go.Proofs.YthpgldfjcancjaaDoor
