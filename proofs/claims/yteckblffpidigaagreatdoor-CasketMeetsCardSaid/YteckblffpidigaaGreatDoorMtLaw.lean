/- The walk of the law CasketMeets. No condition. -/
import Derived.Test.YteckblffpidigaaGreatDoorMtLawN
namespace Go.Proofs.YteckblffpidigaaGreatDoor
open Go.RowKit
def LoopA (w0 : World) (B g3 g4 n : Nat) (v5 i : Value) (wr : World) : Prop := ∃ (k : Nat) (W : List WrM) (nx : Nat → Nat) (Ls : Nat → List SibV), k ≤ 24 ∧ k ≤ n ∧ i = .int .i64 (k : Int) ∧ LawS w0 B g3 g4 k W nx Ls v5 wr
def LoopR (w0 : World) (B g3 g4 k : Nat) (W : List WrM) (nx : Nat → Nat) (v5 : Value) (m : Nat) (P : (Nat → List SibV) → Nat → Prop) (i : Value) (wr : World) : Prop := ∃ (r : Nat) (Ls : Nat → List SibV), r ≤ m ∧ i = .int .i64 (r : Int) ∧ LawS w0 B g3 g4 k W nx Ls v5 wr ∧ P Ls r
def LoopE (w0 : World) (B g3 g4 : Nat) (v5 : Value) (wr : World) : Prop := ∃ (k : Nat) (W : List WrM) (nx : Nat → Nat) (Ls : Nat → List SibV), k ≤ 24 ∧ LawS w0 B g3 g4 k W nx Ls v5 wr
/-- Where the last write is looked for. -/
def LastR (W : List WrM) (L : List SibV) (n0 : Nat) (w3 : World) (v i : Value) (wr : World) : Prop := ∃ (j : Nat) (r : Bool), j ≤ n0 ∧ v = .bool r ∧ i = .int .i64 (j : Int) ∧ Gr w3 wr ∧ (r = false → ∃ z, W[W.length - 1]? = some z ∧ ∀ p x, p < j → L[p]? = some x → x.d ≠ z.1)
set_option maxRecDepth 100000 in
set_option maxHeartbeats 40000000 in
theorem law_meets (A : Option Addr) (n c : Nat) (f : Nat → TrnM) (w : World) (hR : TrnRow w A n f) (gw : Glob w) :
    Calls Tryz.prog 3 #[.slice A n c] w fun e w' => e = .returned (.bool true) ∧ Gr w w' := by
  obtain ⟨iD, zD, hiD, hz0, hz1, hz2, hz3⟩ := infoDt_parts
  have HR := Lib.hid hR
  clear hR
  go_enter Tryz.func3, Tryz.ntmps3
  go_upto_region 4 with fail
  change Code.wp _ _ _ _ ((w.alloc (.cells (row3 fun _ => .slice none 0 0).toArray 24)).alloc (.cells (row4 fun _ => 0).toArray 25))
  have hA3 : Arr ((w.alloc (.cells (row3 fun _ => .slice none 0 0).toArray 24)).alloc (.cells (row4 fun _ => 0).toArray 25)) w.heap.size 24 (row3 fun _ => .slice none 0 0) := (Arr.newAt rfl rfl : Arr (w.alloc (.cells (row3 fun _ => .slice none 0 0).toArray 24)) w.heap.size 24 (row3 fun _ => .slice none 0 0)).gr (Gr.alloc _ _)
  have hsz : (w.alloc (.cells (row3 fun _ => .slice none 0 0).toArray 24)).heap.size = w.heap.size + 1 := Array.size_push _
  have hA4 : Arr ((w.alloc (.cells (row3 fun _ => .slice none 0 0).toArray 24)).alloc (.cells (row4 fun _ => 0).toArray 25)) (w.heap.size + 1) 25 (row4 fun _ => 0) := by rw [← hsz]; exact Arr.newAt rfl rfl
  have hG : Gr w ((w.alloc (.cells (row3 fun _ => .slice none 0 0).toArray 24)).alloc (.cells (row4 fun _ => 0).toArray 25)) := (Gr.alloc _ _).trans (Gr.alloc _ _)
  generalize (w.alloc (.cells (row3 fun _ => .slice none 0 0).toArray 24)).alloc (.cells (row4 fun _ => 0).toArray 25) = w0 at hA3 hA4 hG ⊢
  obtain ⟨g3, hg3⟩ : ∃ g, g = w.heap.size := ⟨_, rfl⟩
  obtain ⟨g4, hg4⟩ : ∃ g, g = w.heap.size + 1 := ⟨_, rfl⟩
  rw [← hg4] at hA4 ⊢
  rw [← hg3] at hA3 ⊢
  have hw3 : w.heap.size ≤ g3 := by omega
  have hw4 : w.heap.size ≤ g4 := by omega
  have h34 : g4 ≠ g3 := by omega
  clear hg3 hg4 hsz
  go_upto_region 6 with (go_at_call 4; refine (stands_any (gw.gr hG)).mono ?_; rintro e w1 ⟨rfl, hG1⟩)
  have hA31 := hA3.gr hG1
  have hA41 := hA4.gr hG1
  have hGw := hG.trans hG1
  obtain ⟨B, hB⟩ : ∃ B, B = w1.heap.size := ⟨_, rfl⟩
  have h3B : g3 < B := by rw [hB]; exact hA31.lt
  have h4B : g4 < B := by rw [hB]; exact hA41.lt
  have hwB : w.heap.size ≤ B := by rw [hB]; exact hGw.size
  have HL0 : Hid (LawS w B g3 g4 0 [] (fun _ => 0) (fun _ => []) (.slice none 0 0) w1) := Lib.hid ⟨WritesP.nil, fun _ _ => PlaceP.nil _, by simp, ⟨fun _ => .slice none 0 0, none, 0, rfl, OwnD.nil _ _, fun _ _ => PlaceS.nil _ _ _, hA31⟩, hA41, hGw, Nat.le_of_eq hB⟩
  clear hA3 hA4 hG hG1 hA31 hA41 hGw hB gw
  go_upto_block 0 with fail
  go_cut [3, 4, 5] from 2 to 139 (fun p q v wx => p = .pointer (some ⟨g3, 0, none⟩) ∧ q = .pointer (some ⟨g4, 0, none⟩) ∧ LoopE w B g3 g4 v wx)
  case first =>
    go_wp2_with fail
    go_simp
    go_loopw [5, 6] (fun v i wr => LoopA w B g3 g4 n v i wr) (fun _ i _ => 24 - (intOf i).toNat)
    case atStart => exact ⟨0, [], fun _ => 0, fun _ => [], by omega, Nat.zero_le _, rfl, HL0.out⟩
    case round =>
      obtain ⟨k, W, nx, Ls, hk24, hkn, rfl, hS⟩ := hrel
      obtain ⟨vs, A5, c5, rfl, hown, hpl, hA3⟩ := hS.mem
      have HS := Lib.hid hS
      have HOwn := Lib.hid hown
      have HPl := Lib.hid hpl
      have hA4 := hS.num
      have hGw := hS.gr
      have hBs := hS.size
      have hWl : W.length ≤ 24 := Nat.le_trans hS.wr.len hk24
      clear hS hown hpl HL0
      by_cases hlt : k < n ∧ k < 24
      · obtain ⟨hlt1, hlt2⟩ := hlt
        have hki1 : (k : Int) < (n : Int) := by omega
        have hki2 : (k : Int) < 24 := by omega
        obtain ⟨bA, oA, rfl, hr⟩ := (HR.out.gr hGw) k hlt1
        obtain ⟨T, hT⟩ : ∃ T, T = f k := ⟨_, rfl⟩
        rw [← hT] at hr
        clear hT
        obtain ⟨tk, ta, to_, tc, tb⟩ := T
        obtain ⟨k1, hk1, hka⟩ := wrap_remN ta 3 (by omega) (by omega)
        replace hka : wrap64 ((IntKind.u64.wrap ta).tmod 3) = (k1 : Int) := hka
        have HI := Lib.hid (infoTrn ⟨tk, ta, to_, tc, tb⟩)
        have hone : ∀ v ∈ trnC ⟨tk, ta, to_, tc, tb⟩, v.oneCell' = true := by simp [trnC, Value.oneCell']
        go_upto_region 10 with first
          | (refine wpList_load_mid rfl _ _ rfl bA (oA + k * 5) rfl (trnC ⟨tk, ta, to_, tc, tb⟩) _ hr Tryz.underlying29 rfl HI.out ?_)
          | (refine wpList_new (w := wr) (t := 29) rfl _ _ _ rfl wr.heap.size (trnC ⟨tk, ta, to_, tc, tb⟩) rfl rfl rfl rfl HI.out hone ?_; intro w2 hA7 hG2)
        have hc0 := hA7.cell (i := 0) (v := .bool tk) rfl
        have hc1 := hA7.cell (i := 1) (v := .int .i64 ta) rfl
        have hc2 := hA7.cell (i := 2) (v := .int .i64 to_) rfl
        have hc3 := hA7.cell (i := 3) (v := .int .i64 tc) rfl
        have hc4 := hA7.cell (i := 4) (v := .bool tb) rfl
        obtain ⟨g7, hg7⟩ : ∃ g, g = wr.heap.size := ⟨_, rfl⟩
        rw [← hg7] at hc0 hc1 hc2 hc3 hc4
        simp only [← hg7]
        have hg7B : B ≤ g7 := by omega
        rw [← hg7] at hA7
        have HA7 := Lib.hid hA7
        clear hA7 hr hone hg7
        go_upto_region 11 with fail
        simp only [hka]
        have hA32 := hA3.gr hG2
        have hA42 := hA4.gr hG2
        have HPl2 : Hid (∀ j, j < 3 → PlaceS w2 B A5 (vs j) (Ls j)) := Lib.hid (fun j hj => (HPl.out j hj).gr hG2)
        have HWr := Lib.hid HS.out.wr
        have HPp := Lib.hid HS.out.place
        have hs2 := Nat.le_trans hBs hG2.size
        obtain ⟨Ap, np, cp, hvp, hsp, hbp⟩ := (HPl2.out k1 hk1).ex
        have hnp : np ≤ 24 := by
          rw [← hsp.1]
          exact Nat.le_trans (HPp.out k1 hk1).len hWl
        have hcp := hA32.cell (row3_at vs hk1)
        rw [hvp] at hcp
        have HSp := Lib.hid hsp
        have HGp := Lib.hid ((HPp.out k1 hk1).good (by omega))
        have HVp := Lib.hid hvp
        clear hsp hbp hvp hc1
        cases tk with
        | true =>
          obtain ⟨k2, hk2, hkb⟩ := wrap_remN to_ 3 (by omega) (by omega)
          replace hkb : wrap64 ((IntKind.u64.wrap to_).tmod 3) = (k2 : Int) := hkb
          obtain ⟨Aq, nq, cq, hvq, hsq, hbq⟩ := (HPl2.out k2 hk2).ex
          have hnq : nq ≤ 24 := by
            rw [← hsq.1]
            exact Nat.le_trans (HPp.out k2 hk2).len hWl
          have hcq := hA32.cell (row3_at vs hk2)
          rw [hvq] at hcq
          have HGq := Lib.hid ((HPp.out k2 hk2).good (by omega))
          have HOq := Lib.hid ((HPp.out k2 hk2).okV HWr.out.hist)
          have hlq : (Ls k2).length ≤ 32 := by rw [hsq.1]; omega
          have HWq := Lib.hid (swrite_any (c := cq) hsq HGq.out (by omega))
          clear hvq hbq hsq hc3 hc4
          go_upto_region 13 with first
            | (refine wpList_valW rfl (.int .i64 (k2 : Int)) _ (run_toI (x := .tmp 58) Tryz.underlying30 Tryz.underlying3 hkb rfl) ?_)
            | (go_at_call 5; refine HWq.out.mono ?_; rintro e w3 ⟨A9, c9, rfl, hO9, hn9, hG9⟩; have HR9 := Lib.hid (Rd.of_own hO9); have HN9 := Lib.hid hn9; clear hO9 hn9)
          have HRd := Lib.hid (sread_any (cX := c9) HOq.out HGq.out hlq HR9.out HN9.out)
          clear HWq HR9 HN9 HGq HOq
          go_upto_region 14 with (go_at_call 6; refine HRd.out.mono ?_; rintro e w4 ⟨A8, n8, c8, L8, rfl, hs8, hk8, hG8⟩; have HS8 := Lib.hid hs8; have HK8 := Lib.hid hk8; clear hs8 hk8)
          have hP8 := (HPp.out k2 hk2).like HK8.out
          have hn8 : n8 ≤ 24 := by
            rw [← HS8.out.1]
            exact Nat.le_trans hP8.len hWl
          have hG4 := hG9.trans hG8
          have hA34 := hA32.gr hG4
          have hcp4 := Gr.cell hG4 hcp
          have HM := Lib.hid (merge_any (c1 := cp) (c2 := c8) (HSp.out.gr hG4) HS8.out HGp.out (hP8.good (by omega)) (by omega))
          have HP8 := Lib.hid hP8
          clear HRd hlq hP8
          go_upto_region 15 with (go_at_call 7; refine HM.out.mono ?_; rintro e w5 ⟨Am, nm, cm, LM, rfl, hsm, hMm, hbm, hGm⟩; have HSm := Lib.hid hsm; have HMm := Lib.hid hMm; have HBm := Lib.hid hbm; clear hsm hMm hbm)
          have hA35 := hA34.gr hGm
          have hl3 : (row3 vs).length = 3 := rfl
          clear hcp hcq hcp4 hc0 hc2 HM
          go_upto_region 8 with (refine wpList_setSl hA35 rfl 23 (.tmp 90) (.tmp 89) rfl (by kernel_rfl) k1 rfl rfl (by omega) ?_; intro w6 hw6 hA36; have hK6 : InK g3 w5 w6 := (by rw [hw6]; exact InK.set _ _); clear hw6)
          have HREL : Hid (LoopA w B g3 g4 n (.slice A5 W.length c5) (.int .i64 ((k + 1 : Nat) : Int)) w6) := Lib.hid (by
            have hG24 := hG2.trans hG4
            have hS4 := HS.out.grow hG24
            exact ⟨k + 1, W, nx, upd Ls k1 LM, by omega, by omega, rfl, ((hS4.merge hk1 HP8.out HMm.out HSm.out HBm.out hGm rfl (Gr.own hG24 HOwn.out) (fun j hj => (HPl.out j hj).gr hG24) h3B h34 hK6 hA36 hw3).1).later⟩)
          clear hA36 hK6 HSm HMm HBm hGm hA35 hA34 HS8 HK8 HP8 hG8 hG9 hG4 hA32 hA42 HPl2 HS HOwn HPl hG2 hGw
          go_wp2_with fail
          exact ⟨by rw [show (k : Int) + 1 = ((k + 1 : Nat) : Int) by omega]; exact HREL.out, by simp [intOf]; omega⟩
        | false =>
          obtain ⟨kc, hkc, hkcb⟩ := wrap_remN tc 3 (by omega) (by omega)
          replace hkcb : wrap64 ((IntKind.u64.wrap tc).tmod 3) = (kc : Int) := hkcb
          clear hc2
          go_upto_region 19 with (refine wpList_valW rfl (.int .i64 (kc : Int)) _ (run_toI (x := .tmp 94) Tryz.underlying30 Tryz.underlying3 hkcb rfl) ?_)
          obtain ⟨cc, hcc⟩ : ∃ cc, cc = kc + 1 := ⟨_, rfl⟩
          have ecc : (1 : Int) + (kc : Int) = (cc : Int) := by omega
          have hcc1 : 1 ≤ cc := by omega
          have hcc3 : cc ≤ 3 := by omega
          have hcc4 : cc < 4 := by omega
          simp only [ecc]
          have hnx := HWr.out.few cc
          have hcn := hA42.cell (row4_at nx hcc4)
          have hl4 : (row4 nx).length = 4 := rfl
          clear hcc ecc hkcb hkc
          go_upto_region 20 with (refine wpList_setI hA42 rfl 3 (.tmp 101) (.tmp 100) rfl (by kernel_rfl) cc .i64 ((nx cc : Int) + 1) rfl rfl (by omega) ?_; intro w3 hA43 hK4)
          have hA43' : Arr w3 g4 25 ((row4 nx).set cc (.int .i64 ((nx cc + 1 : Nat) : Int))) := hA43
          have hcn3 := hA43'.cell (i := cc) (v := .int .i64 ((nx cc + 1 : Nat) : Int)) (by rw [List.getElem?_set_self (by omega)])
          obtain ⟨sz, hsz⟩ : ∃ s : SibV, s = { sib0 with d := (cc, nx cc + 1) } := ⟨_, rfl⟩
          have HIz := Lib.hid (infoSib (x := sz) (by rw [hsz]; rfl))
          have hoz := sibC_one sz
          have hlz : (sibC sz).length = 20 := by rw [hsz]; rfl
          have HSz0 := Lib.hid hsz
          have HCz : Hid ((sibC sz).toArray = #[.int .i64 (cc : Int), .int .i64 ((nx cc + 1 : Nat) : Int), .int .i64 0, .int .i64 0, .int .i64 0, .int .i64 0, .int .i64 0, .int .i64 0, .int .i64 0, .int .i64 0, .int .i64 0, .int .i64 0, .int .i64 0, .int .i64 0, .int .i64 0, .int .i64 0, .int .i64 0, .int .i64 0, .slice none 0 0, .slice none 0 0]) := Lib.hid (by rw [hsz]; rfl)
          have hnx24 : nx cc ≤ 24 := by omega
          have hcell2 : w3.cell? ⟨g4, cc, none⟩ = some (.int .i64 ((nx cc : Int) + 1)) := hcn3
          clear hsz hA43 hcn hcn3
          go_upto_region 21 with (refine wpList_new (w := w3) (t := 44) rfl _ _ _ rfl w3.heap.size (sibC sz) rfl (by rw [HCz.out]; rfl) rfl (by rw [hlz]; rfl) HIz.out hoz ?_; intro w4 hA16 hG34)
          obtain ⟨g16, hg16⟩ : ∃ g, g = w3.heap.size := ⟨_, rfl⟩
          rw [← hg16] at hA16
          simp only [← hg16]
          have hg16w : w3.heap.size ≤ g16 := Nat.le_of_eq hg16.symm
          have hg163 : g16 ≠ g3 := by have := hK4.size; omega
          have hb4 := ((hK4.arr HA7.out (by omega)).gr hG34).cell (i := 4) (v := .bool tb) rfl
          have hdr := HWr.out.add (p := ctx0) hlt2 ⟨hcc1, hcc3⟩ (PastP.none HWr.out.hist)
          have HDr := Lib.hid hdr.1
          clear hg16 hoz hlz HIz HCz hl4 hcell2 hc0 hc3 hc4 hdr
          cases tb with
          | true =>
            obtain ⟨s, hs⟩ : ∃ s, s = sz := ⟨_, rfl⟩
            rw [← hs] at hA16 HSz0
            obtain ⟨wz, hwz⟩ : ∃ v, v = w4 := ⟨_, rfl⟩
            subst hwz
            have hGz := hG34
            have HSd : Hid (s.d = (cc, nx cc + 1)) := Lib.hid (by rw [HSz0.out])
            have HSb : Hid (s.body = []) := Lib.hid (by rw [HSz0.out]; rfl)
            have HPast : Hid (PastP W s.c) := Lib.hid (by rw [HSz0.out]; exact PastP.none HWr.out.hist)
            have HSz : Hid (SOk wz s) := Lib.hid (by
              rw [HSz0.out]
              exact ⟨HDr.out, ctx0_ok, not_has0 HDr.out, Nat.zero_le _, DotsR.nil _ _, fun _ => rfl, Rd.nil _ _, fun _ => rfl⟩)
            clear hs hG34
            go_upto_region 26 with fail
            have hA3z := (hK4.arr hA32 (fun e => h34 e.symm)).gr hGz
            have hOwnz : Hid (OwnD wz B A5 W.length c5 (W.map (·.1))) := Lib.hid (Gr.own hGz (hK4.own (Gr.own hG2 HOwn.out) h4B))
            have hcpz := hA3z.cell (row3_at vs hk1)
            rw [HVp.out] at hcpz
            have hspz : SibsR wz Ap np (Ls k1) := by
              obtain ⟨A0, n0, c0, e0, h0, hb0⟩ := ((((HPl2.out k1 hk1).ink hK4 h4B).gr hGz)).ex
              rw [HVp.out] at e0
              injection e0 with e1 e2 e3
              subst e1 e2 e3
              exact h0
            have HPut := Lib.hid (fun w9 (h : Gr wz w9) => put1_any (c := cp) (hspz.gr h) HGp.out (HSz.out.gr h) (by omega))
            have HIs := Lib.hid (infoSib HSz.out.ctx.len)
            have hs20 := sibC_length HSz.out.ctx.len
            clear hspz hcp
            refine wp_region_ssaL (by kernel_rfl) [IsV (.int .i64 (k1 : Int)), IsV (.pointer (some ⟨g3, k1, none⟩)), IsV (.slice Ap np cp), IsV (.agg (sibC s).toArray), PutV (Ls k1) s wz.heap.size tupS, PutV (Ls k1) s wz.heap.size tupS, PutV (Ls k1) s wz.heap.size sliS, IsV (.int .i64 0), PutV (Ls k1) s wz.heap.size sliS, IsV (.int .i64 0)] (by kernel_rfl) ?_ ?_ ?_
            · intro φ hφ v w1 w2 h hg
              simp only [List.mem_cons, List.not_mem_nil, or_false] at hφ
              rcases hφ with rfl | rfl | rfl | rfl | rfl | rfl | rfl | rfl | rfl | rfl
              all_goals first | exact h | exact PutV.gr h hg
            · refine ⟨?_, ?_, ?_, ?_, ?_, ?_, ?_, ?_, ?_, ?_, trivial⟩
              · intro a1 w9 hG hF
                exact s_old rfl (wants0 rfl) (.tmp 8) (.inr rfl) (.int .i64 (k1 : Int)) (hF.ol 8 (by kernel_rfl)) rfl
              · intro a1 w9 hG hF
                obtain ⟨_, e123, rfl⟩ := hF.dp 0 123 (by kernel_rfl)
                have e3 : a1.eval (.tmp 3) = .pointer (some ⟨g3, 0, none⟩) := hF.ol 3 (by kernel_rfl)
                exact s_is rfl (wants0 rfl) _ rfl (run_idx (P := Tryz.prog) Tryz.underlying24 (by kernel_rfl) e3 e123 hk1)
              · intro a1 w9 hG hF
                obtain ⟨_, e124, rfl⟩ := hF.dp 1 124 (by kernel_rfl)
                exact s_is rfl (wants0 rfl) _ rfl (run_load1B (.inr (.inr (.inr (.inl ⟨_, Tryz.underlying23⟩)))) e124 (Gr.cell ((Gr.drew wz).trans hG) hcpz))
              · intro a1 w9 hG hF
                have e16 : a1.eval (.tmp 16) = .pointer (some ⟨g16, 0, none⟩) := hF.ol 16 (by kernel_rfl)
                exact s_wp rfl (wants0 rfl) (wp_load_mid _ _ rfl g16 0 e16 (sibC s) _ (((Gr.drew wz).trans hG).range (Arr.range hA16)) Tryz.underlying44 rfl HIs.out ⟨_, rfl, rfl, Gr.refl _⟩)
              · intro a1 w9 hG hF
                obtain ⟨_, e125, rfl⟩ := hF.dp 2 125 (by kernel_rfl)
                obtain ⟨_, e126, rfl⟩ := hF.dp 3 126 (by kernel_rfl)
                exact s_call rfl (wants0 rfl) _ rfl _ _ (by simp only [execOp, resolve, invoke, List.map_toArray, List.map_cons, List.map_nil, e125, e126]; go_simp) ((HPut.out w9 ((Gr.drew wz).trans hG)).mono fun e w10 ⟨A9, n9, c9, L9, he, h9, hm9, hb9, hg9⟩ => ⟨_, he, ⟨A9, n9, c9, L9, rfl, h9, hm9, fun b hb => ⟨Nat.le_trans ((Gr.drew wz).trans hG).size (hb9 b hb).1, (hb9 b hb).2⟩⟩, hg9⟩)
              · intro a1 w9 hG hF
                exact s_same rfl (wants0 rfl) (.tmp 127) (.inr rfl) (hF.dp 4 127 (by kernel_rfl))
              · intro a1 w9 hG hF
                obtain ⟨x122, e122, A9, n9, c9, L9, rfl, h9⟩ := hF.dp 5 122 (by kernel_rfl)
                exact s_val rfl (wants0 rfl) _ rfl (.slice A9 n9 c9) w9 (by simp only [execOp, e122, tupS]; go_simp) ⟨A9, n9, c9, L9, rfl, h9⟩ (Gr.refl _)
              · intro a1 w9 hG hF
                obtain ⟨x122, e122, A9, n9, c9, L9, rfl, h9⟩ := hF.dp 5 122 (by kernel_rfl)
                exact s_is rfl (wants0 rfl) _ rfl (by simp only [execOp, e122, tupS]; go_simp)
              · intro a1 w9 hG hF
                exact s_same rfl (wants0 rfl) (.tmp 128) (.inl rfl) (hF.dp 6 128 (by kernel_rfl))
              · intro a1 w9 hG hF
                obtain ⟨_, e129, rfl⟩ := hF.dp 7 129 (by kernel_rfl)
                exact s_old rfl (wants0 rfl) (.tmp 129) (.inl rfl) (.int .i64 0) e129 rfl
            · intro vs9 wq hGq hf
              have y19 : PutV (Ls k1) s wz.heap.size sliS (vs9 8) wq := hf.2.2.2.2.2.2.2.2.1
              have z20 : vs9 9 = .int .i64 0 := hf.2.2.2.2.2.2.2.2.2.1
              clear hf
              obtain ⟨Am, nm, cm, LM, e19, hsm, hMm, hbm⟩ := y19
              unfold sliS at e19
              simp only [putAll, Nat.zero_add, Nat.reduceAdd, e19, z20]
              have hGzq : Gr wz wq := (Gr.drew wz).trans hGq
              have HSm := Lib.hid hsm
              have HMm := Lib.hid hMm
              have HBm := Lib.hid hbm
              have hA3q := hA3z.gr hGzq
              have hA16q := hA16.gr hGzq
              have hOwnq := Lib.hid (Gr.own hGzq hOwnz.out)
              have hl3 : (row3 vs).length = 3 := rfl
              clear hsm hMm hbm hGq e19 z20 hA3z hA16 hOwnz hcpz HPut
              go_simp
              go_upto_region 29 with fail
              go_upto_region 30 with (refine wpList_setSl hA3q rfl 23 (.tmp 134) (.tmp 133) rfl (by kernel_rfl) k1 rfl rfl (by omega) ?_; intro w10 hw10 hA310; have hK10 : InK g3 wq w10 := (by rw [hw10]; exact InK.set _ _); clear hw10)
              have hA1610 := hK10.arr hA16q hg163
              have hr1610 : w10.rangeAt g16 0 (encD s.d) := (SibAt.of HSz.out.ctx.len (Arr.range hA1610)).dot
              have hOwn10 : OwnD w10 B A5 W.length c5 (W.map (·.1)) := hK10.own hOwnq.out h3B
              have hGal : Gr w10 (w10.alloc (.cells (encD s.d).toArray 39)) := Gr.alloc _ _
              have hOwnA : Hid (OwnD (w10.alloc (.cells (encD s.d).toArray 39)) B A5 W.length c5 (W.map (·.1))) := Lib.hid (OwnD.gr hOwn10 hGal)
              have hs10 : B ≤ (w10.alloc (.cells (encD s.d).toArray 39)).heap.size := Nat.le_trans hs2 (Nat.le_trans hK4.size (Nat.le_trans hGz.size (Nat.le_trans hGzq.size (Nat.le_trans hK10.size hGal.size))))
              clear hA1610 hA16q hA3q hOwn10 hOwnq
              go_upto_region 8 with first
                | (refine wpList_load_mid rfl _ _ rfl g16 0 rfl (encD s.d) _ hr1610 Tryz.underlying39 rfl (infoDot _) ?_)
                | (refine wpList_valW rfl (.slice (some ⟨w10.heap.size, 0, none⟩) 1 1) _ (run_buildD (x := .tmp 137) rfl) ?_)
                | (at_builtin; go_must (refine wpList_appKL _ rfl (.tmp 135) (.tmp 138) 26 rfl B 39 iD zD 2 16 Tryz.underlying26 hiD hz0 hz1 hz2 hz3 (by omega) rfl hOwnA.out ⟨w10.heap.size, 0, none⟩ 1 1 (encD s.d) rfl rfl (fun j u h => newCells w10 _ _ j u h) (encD_one _) (by unfold maxLen; omega) (by omega) hs10 ?_; intro A6 c6 w11 ho11 hT11 hl11; have HO11 := Lib.hid ho11; have HT11 := Lib.hid hT11; have HL11 := Lib.hid hl11; clear ho11 hT11 hl11))
              have HREL : Hid (LoopA w B g3 g4 n (.slice A6 (W.length + 1) c6) (.int .i64 ((k + 1 : Nat) : Int)) w11) := Lib.hid
                ⟨k + 1, W ++ [keyW s], nxSet nx cc, upd Ls k1 LM, by omega, by omega, rfl, (HS.out.grow hG2).write hlt2 ⟨hcc1, hcc3⟩ hk1 HPast.out HSd.out rfl HSb.out HMm.out (Gr.own hG2 HOwn.out) HPl2.out h3B h4B h34 hw3 hw4 hwB hK4 hA43' hGz HSm.out HBm.out hGzq hK10 hA310 hGal HT11.out HL11.out HO11.out⟩
              clear hr1610 hGal hOwnA hs10 HO11 HT11 HL11 hA310 hK10 HSm HMm HBm hGzq
              go_wp2_with fail
              exact ⟨by rw [show (k : Int) + 1 = ((k + 1 : Nat) : Int) by omega]; exact HREL.out, by simp [intOf]; omega⟩
            
          | false =>
            have hsp4 : SibsR w4 Ap np (Ls k1) := by
              obtain ⟨A0, n0, c0, e0, h0, hb0⟩ := ((((HPl2.out k1 hk1).ink hK4 h4B).gr hG34)).ex
              rw [HVp.out] at e0
              injection e0 with e1 e2 e3
              subst e1 e2 e3
              exact h0
            have hcp4 := ((hK4.arr hA32 (fun e => h34 e.symm)).gr hG34).cell (row3_at vs hk1)
            rw [HVp.out] at hcp4
            have HSe := Lib.hid (sseen_any (c := cp) (D := W.map (·.1)) hsp4 HGp.out (rest_in HWr.out.hist (HPp.out k1 hk1)) (by rw [List.length_map]; omega))
            clear hsp4
            go_upto_region 23 with first
              | (go_at_call 8; refine HSe.out.mono ?_; rintro e w5 ⟨cx, M, mm, cM, rfl, ⟨hcx, hcv⟩, hOM, hG5⟩; have HCx := Lib.hid hcx; have HCv := Lib.hid hcv; have HOM := Lib.hid hOM; have hl17 := ctxC_length hcx.len M mm cM; have HIc := Lib.hid (infoCtx hcx.len M mm cM); have honc := ctxC_one cx M mm cM; clear hcx hcv hOM)
              | (refine wpList_new (w := w5) (t := 42) rfl _ _ _ rfl w5.heap.size (ctxC cx M mm cM) rfl rfl rfl (by rw [hl17]; rfl) HIc.out honc ?_; intro w6 hA17 hG6)
            have hr17 : w6.rangeAt w5.heap.size 0 (ctxC cx M mm cM) := Arr.range hA17
            generalize w5.heap.size = g17 at hr17 ⊢
            have hA166 := (hA16.gr hG5).gr hG6
            have hl20 : (sibC sz).length = 20 := by rw [HSz0.out]; rfl
            have HOM6 : Hid (OwnD w6 w4.heap.size M mm cM cx.more) := Lib.hid (OwnD.gr HOM.out hG6)
            clear hA17 HSe hcp4 HOM
            go_upto_region 26 with first
              | (refine wpList_load_mid rfl _ _ rfl g17 0 rfl (ctxC cx M mm cM) _ hr17 Tryz.underlying42 rfl HIc.out ?_)
              | (refine wpList_midK (off := 2) hA166 rfl _ _ _ rfl (ctxC cx M mm cM) rfl rfl (by rw [hl17, hl20]; omega) HIc.out honc ?_; intro wz hA16z hK7)
            obtain ⟨s, hs⟩ : ∃ s : SibV, s = ⟨(cc, nx cc + 1), cx, M, cM, [], none, 0⟩ := ⟨_, rfl⟩
            have hmm : mm = cx.more.length := HOM6.out.len.symm
            have HSs := Lib.hid hs
            have e16 : (sibC sz).take 2 ++ ctxC cx M mm cM ++ (sibC sz).drop (2 + (ctxC cx M mm cM).length) = sibC s := by
              rw [hl17, hmm, hs, HSz0.out]
              unfold sibC
              rw [List.append_assoc]
              rfl
            rw [e16] at hA16z
            have hGz : Gr w3 wz := hK7.gr_after ((hG34.trans hG5).trans hG6) hg16w
            have HSd : Hid (s.d = (cc, nx cc + 1)) := Lib.hid (by rw [hs])
            have HSb : Hid (s.body = []) := Lib.hid (by rw [hs])
            have HPast : Hid (PastP W s.c) := Lib.hid (by rw [hs]; exact PastP.seen HWr.out.hist (HPp.out k1 hk1) HCx.out HCv.out)
            have HSz : Hid (SOk wz s) := Lib.hid (by
              have hOz : OwnD wz w4.heap.size M mm cM cx.more := hK7.ownT HOM6.out hA166 (by decide)
              have hf := (HWr.out.add (p := cx) hlt2 ⟨hcc1, hcc3⟩ (PastP.seen HWr.out.hist (HPp.out k1 hk1) HCx.out HCv.out)).2.1
              rw [hs]
              rw [hmm] at hOz
              exact ⟨HDr.out, HCx.out, hf, Nat.zero_le _, hOz.dots, hOz.nil0, Rd.nil _ _, fun _ => rfl⟩)
            have hA16 := hA16z
            clear hs hA16z hA166 hr17 HOM6 e16 hK7 hG6 hG5 hG34 hl17 honc HIc hl20 hmm
            have hA3z := (hK4.arr hA32 (fun e => h34 e.symm)).gr hGz
            have hOwnz : Hid (OwnD wz B A5 W.length c5 (W.map (·.1))) := Lib.hid (Gr.own hGz (hK4.own (Gr.own hG2 HOwn.out) h4B))
            have hcpz := hA3z.cell (row3_at vs hk1)
            rw [HVp.out] at hcpz
            have hspz : SibsR wz Ap np (Ls k1) := by
              obtain ⟨A0, n0, c0, e0, h0, hb0⟩ := ((((HPl2.out k1 hk1).ink hK4 h4B).gr hGz)).ex
              rw [HVp.out] at e0
              injection e0 with e1 e2 e3
              subst e1 e2 e3
              exact h0
            have HPut := Lib.hid (fun w9 (h : Gr wz w9) => put1_any (c := cp) (hspz.gr h) HGp.out (HSz.out.gr h) (by omega))
            have HIs := Lib.hid (infoSib HSz.out.ctx.len)
            have hs20 := sibC_length HSz.out.ctx.len
            clear hspz hcp
            refine wp_region_ssaL (by kernel_rfl) [IsV (.int .i64 (k1 : Int)), IsV (.pointer (some ⟨g3, k1, none⟩)), IsV (.slice Ap np cp), IsV (.agg (sibC s).toArray), PutV (Ls k1) s wz.heap.size tupS, PutV (Ls k1) s wz.heap.size tupS, PutV (Ls k1) s wz.heap.size sliS, IsV (.int .i64 0), PutV (Ls k1) s wz.heap.size sliS, IsV (.int .i64 0)] (by kernel_rfl) ?_ ?_ ?_
            · intro φ hφ v w1 w2 h hg
              simp only [List.mem_cons, List.not_mem_nil, or_false] at hφ
              rcases hφ with rfl | rfl | rfl | rfl | rfl | rfl | rfl | rfl | rfl | rfl
              all_goals first | exact h | exact PutV.gr h hg
            · refine ⟨?_, ?_, ?_, ?_, ?_, ?_, ?_, ?_, ?_, ?_, trivial⟩
              · intro a1 w9 hG hF
                exact s_old rfl (wants0 rfl) (.tmp 8) (.inr rfl) (.int .i64 (k1 : Int)) (hF.ol 8 (by kernel_rfl)) rfl
              · intro a1 w9 hG hF
                obtain ⟨_, e123, rfl⟩ := hF.dp 0 123 (by kernel_rfl)
                have e3 : a1.eval (.tmp 3) = .pointer (some ⟨g3, 0, none⟩) := hF.ol 3 (by kernel_rfl)
                exact s_is rfl (wants0 rfl) _ rfl (run_idx (P := Tryz.prog) Tryz.underlying24 (by kernel_rfl) e3 e123 hk1)
              · intro a1 w9 hG hF
                obtain ⟨_, e124, rfl⟩ := hF.dp 1 124 (by kernel_rfl)
                exact s_is rfl (wants0 rfl) _ rfl (run_load1B (.inr (.inr (.inr (.inl ⟨_, Tryz.underlying23⟩)))) e124 (Gr.cell ((Gr.drew wz).trans hG) hcpz))
              · intro a1 w9 hG hF
                have e16 : a1.eval (.tmp 16) = .pointer (some ⟨g16, 0, none⟩) := hF.ol 16 (by kernel_rfl)
                exact s_wp rfl (wants0 rfl) (wp_load_mid _ _ rfl g16 0 e16 (sibC s) _ (((Gr.drew wz).trans hG).range (Arr.range hA16)) Tryz.underlying44 rfl HIs.out ⟨_, rfl, rfl, Gr.refl _⟩)
              · intro a1 w9 hG hF
                obtain ⟨_, e125, rfl⟩ := hF.dp 2 125 (by kernel_rfl)
                obtain ⟨_, e126, rfl⟩ := hF.dp 3 126 (by kernel_rfl)
                exact s_call rfl (wants0 rfl) _ rfl _ _ (by simp only [execOp, resolve, invoke, List.map_toArray, List.map_cons, List.map_nil, e125, e126]; go_simp) ((HPut.out w9 ((Gr.drew wz).trans hG)).mono fun e w10 ⟨A9, n9, c9, L9, he, h9, hm9, hb9, hg9⟩ => ⟨_, he, ⟨A9, n9, c9, L9, rfl, h9, hm9, fun b hb => ⟨Nat.le_trans ((Gr.drew wz).trans hG).size (hb9 b hb).1, (hb9 b hb).2⟩⟩, hg9⟩)
              · intro a1 w9 hG hF
                exact s_same rfl (wants0 rfl) (.tmp 127) (.inr rfl) (hF.dp 4 127 (by kernel_rfl))
              · intro a1 w9 hG hF
                obtain ⟨x122, e122, A9, n9, c9, L9, rfl, h9⟩ := hF.dp 5 122 (by kernel_rfl)
                exact s_val rfl (wants0 rfl) _ rfl (.slice A9 n9 c9) w9 (by simp only [execOp, e122, tupS]; go_simp) ⟨A9, n9, c9, L9, rfl, h9⟩ (Gr.refl _)
              · intro a1 w9 hG hF
                obtain ⟨x122, e122, A9, n9, c9, L9, rfl, h9⟩ := hF.dp 5 122 (by kernel_rfl)
                exact s_is rfl (wants0 rfl) _ rfl (by simp only [execOp, e122, tupS]; go_simp)
              · intro a1 w9 hG hF
                exact s_same rfl (wants0 rfl) (.tmp 128) (.inl rfl) (hF.dp 6 128 (by kernel_rfl))
              · intro a1 w9 hG hF
                obtain ⟨_, e129, rfl⟩ := hF.dp 7 129 (by kernel_rfl)
                exact s_old rfl (wants0 rfl) (.tmp 129) (.inl rfl) (.int .i64 0) e129 rfl
            · intro vs9 wq hGq hf
              have y19 : PutV (Ls k1) s wz.heap.size sliS (vs9 8) wq := hf.2.2.2.2.2.2.2.2.1
              have z20 : vs9 9 = .int .i64 0 := hf.2.2.2.2.2.2.2.2.2.1
              clear hf
              obtain ⟨Am, nm, cm, LM, e19, hsm, hMm, hbm⟩ := y19
              unfold sliS at e19
              simp only [putAll, Nat.zero_add, Nat.reduceAdd, e19, z20]
              have hGzq : Gr wz wq := (Gr.drew wz).trans hGq
              have HSm := Lib.hid hsm
              have HMm := Lib.hid hMm
              have HBm := Lib.hid hbm
              have hA3q := hA3z.gr hGzq
              have hA16q := hA16.gr hGzq
              have hOwnq := Lib.hid (Gr.own hGzq hOwnz.out)
              have hl3 : (row3 vs).length = 3 := rfl
              clear hsm hMm hbm hGq e19 z20 hA3z hA16 hOwnz hcpz HPut
              go_simp
              go_upto_region 29 with fail
              go_upto_region 30 with (refine wpList_setSl hA3q rfl 23 (.tmp 134) (.tmp 133) rfl (by kernel_rfl) k1 rfl rfl (by omega) ?_; intro w10 hw10 hA310; have hK10 : InK g3 wq w10 := (by rw [hw10]; exact InK.set _ _); clear hw10)
              have hA1610 := hK10.arr hA16q hg163
              have hr1610 : w10.rangeAt g16 0 (encD s.d) := (SibAt.of HSz.out.ctx.len (Arr.range hA1610)).dot
              have hOwn10 : OwnD w10 B A5 W.length c5 (W.map (·.1)) := hK10.own hOwnq.out h3B
              have hGal : Gr w10 (w10.alloc (.cells (encD s.d).toArray 39)) := Gr.alloc _ _
              have hOwnA : Hid (OwnD (w10.alloc (.cells (encD s.d).toArray 39)) B A5 W.length c5 (W.map (·.1))) := Lib.hid (OwnD.gr hOwn10 hGal)
              have hs10 : B ≤ (w10.alloc (.cells (encD s.d).toArray 39)).heap.size := Nat.le_trans hs2 (Nat.le_trans hK4.size (Nat.le_trans hGz.size (Nat.le_trans hGzq.size (Nat.le_trans hK10.size hGal.size))))
              clear hA1610 hA16q hA3q hOwn10 hOwnq
              go_upto_region 8 with first
                | (refine wpList_load_mid rfl _ _ rfl g16 0 rfl (encD s.d) _ hr1610 Tryz.underlying39 rfl (infoDot _) ?_)
                | (refine wpList_valW rfl (.slice (some ⟨w10.heap.size, 0, none⟩) 1 1) _ (run_buildD (x := .tmp 137) rfl) ?_)
                | (at_builtin; go_must (refine wpList_appKL _ rfl (.tmp 135) (.tmp 138) 26 rfl B 39 iD zD 2 16 Tryz.underlying26 hiD hz0 hz1 hz2 hz3 (by omega) rfl hOwnA.out ⟨w10.heap.size, 0, none⟩ 1 1 (encD s.d) rfl rfl (fun j u h => newCells w10 _ _ j u h) (encD_one _) (by unfold maxLen; omega) (by omega) hs10 ?_; intro A6 c6 w11 ho11 hT11 hl11; have HO11 := Lib.hid ho11; have HT11 := Lib.hid hT11; have HL11 := Lib.hid hl11; clear ho11 hT11 hl11))
              have HREL : Hid (LoopA w B g3 g4 n (.slice A6 (W.length + 1) c6) (.int .i64 ((k + 1 : Nat) : Int)) w11) := Lib.hid
                ⟨k + 1, W ++ [keyW s], nxSet nx cc, upd Ls k1 LM, by omega, by omega, rfl, (HS.out.grow hG2).write hlt2 ⟨hcc1, hcc3⟩ hk1 HPast.out HSd.out rfl HSb.out HMm.out (Gr.own hG2 HOwn.out) HPl2.out h3B h4B h34 hw3 hw4 hwB hK4 hA43' hGz HSm.out HBm.out hGzq hK10 hA310 hGal HT11.out HL11.out HO11.out⟩
              clear hr1610 hGal hOwnA hs10 HO11 HT11 HL11 hA310 hK10 HSm HMm HBm hGzq
              go_wp2_with fail
              exact ⟨by rw [show (k : Int) + 1 = ((k + 1 : Nat) : Int) by omega]; exact HREL.out, by simp [intOf]; omega⟩
            
      · have hE : Hid (LoopE w B g3 g4 (.slice A5 W.length c5) wr) := Lib.hid ⟨k, W, nx, Ls, hk24, HS.out⟩
        by_cases hkn2 : k < n
        · have hki1 : (k : Int) < (n : Int) := by omega
          have hki2 : ¬ (k : Int) < 24 := by omega
          go_wp2_with fail
          go_meet
          exact ⟨rfl, rfl, hE.out⟩
        · have hki1 : ¬ (k : Int) < (n : Int) := by omega
          go_wp2_with fail
          go_meet
          exact ⟨rfl, rfl, hE.out⟩
  case rest =>
    obtain ⟨rfl, rfl, k, W, nx, Ls, hk24, hS⟩ := hcut
    have hWl : W.length ≤ 24 := Nat.le_trans hS.wr.len hk24
    have HWr := Lib.hid hS.wr
    have HS := Lib.hid hS
    clear hS HL0
    go_upto_region 31 with fail
    go_wp2_with fail
    go_simp
    go_loopw [21] (fun i wr => LoopR w B g3 g4 k W nx u5 2 (fun Ls r => FullF W Ls r 0) i wr) (fun i _ => 2 - (intOf i).toNat)
    case atStart => exact ⟨0, Ls, by omega, rfl, HS.out, FullF.start W Ls⟩
    case round =>
      obtain ⟨r, Ls1, hr2, rfl, hS1, hF1⟩ := hrel
      have HS1 := Lib.hid hS1
      have HF1 := Lib.hid hF1
      clear hS1 hF1
      by_cases hr : r < 2
      · have hri : (r : Int) < 2 := by omega
        go_upto_region 34 with fail
        go_wp2_with fail
        go_simp
        go_loopw [22] (fun i wr => LoopR w B g3 g4 k W nx u5 3 (fun Ls j => FullF W Ls r j) i wr) (fun i _ => 3 - (intOf i).toNat)
        case atStart => exact ⟨0, Ls1, by omega, rfl, HS1.out, HF1.out⟩
        case round =>
          obtain ⟨j, Ls2, hj3, rfl, hS2, hF2⟩ := hrel
          have HS2 := Lib.hid hS2
          have HF2 := Lib.hid hF2
          clear hS2 hF2
          by_cases hj : j < 3
          · have hji : (j : Int) < 3 := by omega
            go_upto_region 37 with fail
            go_wp2_with fail
            go_simp
            go_loopw [23] (fun i wr => LoopR w B g3 g4 k W nx u5 3 (fun Ls o => FullF W Ls r j ∧ InclF W Ls j o) i wr) (fun i _ => 3 - (intOf i).toNat)
            case atStart => exact ⟨0, Ls2, by omega, rfl, HS2.out, HF2.out, InclF.zero⟩
            case round =>
              obtain ⟨o, Ls3, ho3, rfl, hS3, hF3, hI3⟩ := hrel
              have HS3 := Lib.hid hS3
              have HF3 := Lib.hid hF3
              have HI3 := Lib.hid hI3
              clear hS3 hF3 hI3
              by_cases ho : o < 3
              · have hoi : (o : Int) < 3 := by omega
                go_upto_region 40 with fail
                obtain ⟨vs, A5, c5, e5, hown, hpl, hA3⟩ := HS3.out.mem
                have hPj := HS3.out.place j hj
                have hPo := HS3.out.place o ho
                obtain ⟨Aj, nj, cj, hvj, hsj, _⟩ := (hpl j hj)
                obtain ⟨Ao, no, co, hvo, hso, _⟩ := (hpl o ho)
                have hcj := hA3.cell (row3_at vs hj)
                have hco := hA3.cell (row3_at vs ho)
                rw [hvj] at hcj
                rw [hvo] at hco
                have hnj : nj ≤ 24 := by rw [← hsj.1]; exact Nat.le_trans hPj.len hWl
                have hno : no ≤ 24 := by rw [← hso.1]; exact Nat.le_trans hPo.len hWl
                have HM := Lib.hid (fun w1 (h : Gr wr w1) => merge_any (c1 := cj) (c2 := co) (hsj.gr h) (hso.gr h) (hPj.good (by omega)) (hPo.good (by omega)) (by omega))
                have HPo := Lib.hid hPo
                have HOwn := Lib.hid hown
                have HPl := Lib.hid hpl
                have HE5 := Lib.hid e5
                clear hPj hPo hvj hvo hsj hso hown hpl e5
                refine wp_region_ssaL (by kernel_rfl) [IsV (.int .i64 (j : Int)), IsV (.pointer (some ⟨g3, j, none⟩)), IsV (.slice Aj nj cj), IsV (.int .i64 (o : Int)), IsV (.pointer (some ⟨g3, o, none⟩)), IsV (.slice Ao no co), MrgV (Ls3 j) (Ls3 o) wr.heap.size tupS, MrgV (Ls3 j) (Ls3 o) wr.heap.size tupS, MrgV (Ls3 j) (Ls3 o) wr.heap.size sliS, IsV (.int .i64 0), MrgV (Ls3 j) (Ls3 o) wr.heap.size sliS, IsV (.int .i64 0)] (by kernel_rfl) ?_ ?_ ?_
                · intro φ hφ v w1 w2 h hg
                  simp only [List.mem_cons, List.not_mem_nil, or_false] at hφ
                  rcases hφ with rfl | rfl | rfl | rfl | rfl | rfl | rfl | rfl | rfl | rfl | rfl | rfl
                  all_goals first | exact h | exact MrgV.gr h hg
                · refine ⟨?_, ?_, ?_, ?_, ?_, ?_, ?_, ?_, ?_, ?_, ?_, ?_, trivial⟩
                  · intro a1 w9 hG hF
                    exact s_old rfl (wants0 rfl) (.tmp 22) (.inr rfl) (.int .i64 (j : Int)) (hF.ol 22 (by kernel_rfl)) rfl
                  · intro a1 w9 hG hF
                    obtain ⟨_, e153, rfl⟩ := hF.dp 0 153 (by kernel_rfl)
                    have e3 : a1.eval (.tmp 3) = .pointer (some ⟨g3, 0, none⟩) := hF.ol 3 (by kernel_rfl)
                    exact s_is rfl (wants0 rfl) _ rfl (run_idx (P := Tryz.prog) Tryz.underlying24 (by kernel_rfl) e3 e153 hj)
                  · intro a1 w9 hG hF
                    obtain ⟨_, e154, rfl⟩ := hF.dp 1 154 (by kernel_rfl)
                    exact s_is rfl (wants0 rfl) _ rfl (run_load1B (.inr (.inr (.inr (.inl ⟨_, Tryz.underlying23⟩)))) e154 (Gr.cell ((Gr.drew wr).trans hG) hcj))
                  · intro a1 w9 hG hF
                    exact s_old rfl (wants0 rfl) (.tmp 23) (.inr rfl) (.int .i64 (o : Int)) (hF.ol 23 (by kernel_rfl)) rfl
                  · intro a1 w9 hG hF
                    obtain ⟨_, e156, rfl⟩ := hF.dp 3 156 (by kernel_rfl)
                    have e3 : a1.eval (.tmp 3) = .pointer (some ⟨g3, 0, none⟩) := hF.ol 3 (by kernel_rfl)
                    exact s_is rfl (wants0 rfl) _ rfl (run_idx (P := Tryz.prog) Tryz.underlying24 (by kernel_rfl) e3 e156 ho)
                  · intro a1 w9 hG hF
                    obtain ⟨_, e157, rfl⟩ := hF.dp 4 157 (by kernel_rfl)
                    exact s_is rfl (wants0 rfl) _ rfl (run_load1B (.inr (.inr (.inr (.inl ⟨_, Tryz.underlying23⟩)))) e157 (Gr.cell ((Gr.drew wr).trans hG) hco))
                  · intro a1 w9 hG hF
                    obtain ⟨_, e155, rfl⟩ := hF.dp 2 155 (by kernel_rfl)
                    obtain ⟨_, e158, rfl⟩ := hF.dp 5 158 (by kernel_rfl)
                    exact s_call rfl (wants0 rfl) _ rfl _ _ (by simp only [execOp, resolve, invoke, List.map_toArray, List.map_cons, List.map_nil, e155, e158]; go_simp) ((HM.out w9 ((Gr.drew wr).trans hG)).mono fun e w10 ⟨A9, n9, c9, L9, he, h9, hm9, hb9, hg9⟩ => ⟨_, he, ⟨A9, n9, c9, L9, rfl, h9, hm9, fun b hb => ⟨Nat.le_trans ((Gr.drew wr).trans hG).size (hb9 b hb).1, (hb9 b hb).2⟩⟩, hg9⟩)
                  · intro a1 w9 hG hF
                    exact s_same rfl (wants0 rfl) (.tmp 159) (.inr rfl) (hF.dp 6 159 (by kernel_rfl))
                  · intro a1 w9 hG hF
                    obtain ⟨x152, e152, A9, n9, c9, L9, rfl, h9⟩ := hF.dp 7 152 (by kernel_rfl)
                    exact s_val rfl (wants0 rfl) _ rfl (.slice A9 n9 c9) w9 (by simp only [execOp, e152, tupS]; go_simp) ⟨A9, n9, c9, L9, rfl, h9⟩ (Gr.refl _)
                  · intro a1 w9 hG hF
                    obtain ⟨x152, e152, A9, n9, c9, L9, rfl, h9⟩ := hF.dp 7 152 (by kernel_rfl)
                    exact s_is rfl (wants0 rfl) _ rfl (by simp only [execOp, e152, tupS]; go_simp)
                  · intro a1 w9 hG hF
                    exact s_same rfl (wants0 rfl) (.tmp 160) (.inl rfl) (hF.dp 8 160 (by kernel_rfl))
                  · intro a1 w9 hG hF
                    obtain ⟨_, e161, rfl⟩ := hF.dp 9 161 (by kernel_rfl)
                    exact s_old rfl (wants0 rfl) (.tmp 161) (.inl rfl) (.int .i64 0) e161 rfl
                · intro vs9 wq hGq hf
                  have y24 : MrgV (Ls3 j) (Ls3 o) wr.heap.size sliS (vs9 10) wq := hf.2.2.2.2.2.2.2.2.2.2.1
                  have z25 : vs9 11 = .int .i64 0 := hf.2.2.2.2.2.2.2.2.2.2.2.1
                  clear hf
                  obtain ⟨Am, nm, cm, LM, e24, hsm, hMm, hbm⟩ := y24
                  unfold sliS at e24
                  simp only [putAll, Nat.zero_add, Nat.reduceAdd, e24, z25]
                  have hGzq : Gr wr wq := (Gr.drew wr).trans hGq
                  have HSm := Lib.hid hsm
                  have HMm := Lib.hid hMm
                  have HBm := Lib.hid hbm
                  have hA3q := hA3.gr hGzq
                  have hl3 : (row3 vs).length = 3 := rfl
                  clear hsm hMm hbm hGq e24 z25 hA3 hcj hco HM
                  go_simp
                  go_upto_region 43 with fail
                  go_wp2_with (refine wpList_setSl hA3q rfl 23 (.tmp 166) (.tmp 165) rfl (by kernel_rfl) j rfl rfl (by omega) ?_; intro w10 hw10 hA310; have HK10 : Hid (InK g3 wq w10) := Lib.hid (by rw [hw10]; exact InK.set _ _); have HA310 := Lib.hid hA310; clear hw10 hA310)
                  obtain ⟨hN, hcN⟩ := HS3.out.merge hj HPo.out HMm.out HSm.out HBm.out hGzq HE5.out HOwn.out HPl.out h3B h34 HK10.out HA310.out hw3
                  exact ⟨⟨o + 1, upd Ls3 j LM, by omega, by go_num, hN, HF3.out.step HWr.out.hist.right hcN, HI3.out.step HWr.out.hist.right hcN⟩, by simp [intOf]; omega⟩
              · have hoi : ¬ (o : Int) < 3 := by omega
                have hoe : o = 3 := by omega
                have HF4 : Hid (FullF W Ls3 r (j + 1)) := Lib.hid (by
                  have h1 := HI3.out
                  rw [hoe] at h1
                  exact HF3.out.next h1 HS3.out.union)
                clear hoe
                go_wp2_with fail
                exact ⟨⟨j + 1, Ls3, by omega, by go_num, HS3.out, HF4.out⟩, by simp [intOf]; omega⟩
          · have hji : ¬ (j : Int) < 3 := by omega
            have hje : j = 3 := by omega
            have HF4 : Hid (FullF W Ls2 (r + 1) 0) := Lib.hid (by
              have h1 := HF2.out
              rw [hje] at h1
              exact h1.round)
            clear hje
            go_wp2_with fail
            exact ⟨⟨r + 1, Ls2, by omega, by go_num, HS2.out, HF4.out⟩, by simp [intOf]; omega⟩
      · have hri : ¬ (r : Int) < 2 := by omega
        have hre : r = 2 := by omega
        have HFull : Hid (∀ j, j < 3 → FullP W (Ls1 j)) := Lib.hid (fun j hj => HF1.out j hj (.inr (by omega)))
        obtain ⟨vs, A5, c5, rfl, hown, hpl, hA3⟩ := HS1.out.mem
        have hGw := HS1.out.gr
        have hP0 := HS1.out.place 0 (by omega)
        have hP1 := HS1.out.place 1 (by omega)
        have hP2 := HS1.out.place 2 (by omega)
        obtain ⟨A0, n0, c0, hv0, hs0, _⟩ := hpl 0 (by omega)
        obtain ⟨A1, n1, c1, hv1, hs1, _⟩ := hpl 1 (by omega)
        obtain ⟨A2, n2, c2, hv2, hs2, _⟩ := hpl 2 (by omega)
        have hc0 := hA3.cell (row3_at vs (k := 0) (by omega))
        have hc1 := hA3.cell (row3_at vs (k := 1) (by omega))
        have hc2 := hA3.cell (row3_at vs (k := 2) (by omega))
        rw [hv0] at hc0
        rw [hv1] at hc1
        rw [hv2] at hc2
        have hn0 : n0 ≤ 24 := by rw [← hs0.1]; exact Nat.le_trans hP0.len hWl
        have HSe := Lib.hid (sseen_any (c := c0) (D := W.map (·.1)) hs0 (hP0.good (by omega)) (rest_in HWr.out.hist hP0) (by rw [List.length_map]; omega))
        have HS0 := Lib.hid hs0
        have HS1b := Lib.hid hs1
        have HS2 := Lib.hid hs2
        have HP0 := Lib.hid hP0
        have HP1 := Lib.hid hP1
        have HP2 := Lib.hid hP2
        have HOwn := Lib.hid hown
        clear hre hs0 hs1 hs2 hP0 hP1 hP2 hv0 hv1 hv2 hown hpl hA3
        go_upto_region 45 with first
          | (go_at_call 8; refine HSe.out.mono ?_; rintro e w2 ⟨cx, M, mm, cM, rfl, ⟨hcx, hcv⟩, hOM, hG2⟩; have HCx := Lib.hid hcx; have HCv := Lib.hid hcv; have HOM := Lib.hid hOM; have hl17 := ctxC_length hcx.len M mm cM; have HIc := Lib.hid (infoCtx hcx.len M mm cM); have honc := ctxC_one cx M mm cM; clear hcx hcv hOM)
          | (refine wpList_new (w := w2) (t := 42) rfl _ _ _ rfl w2.heap.size (ctxC cx M mm cM) rfl rfl rfl (by rw [hl17]; rfl) HIc.out honc ?_; intro w3 hA26 hG3)
        obtain ⟨g26, hg26⟩ : ∃ g, g = w2.heap.size := ⟨_, rfl⟩
        rw [← hg26] at hA26
        simp only [← hg26]
        have hG23 := hG2.trans hG3
        have HM3 := Lib.hid (HOM.out.dots.gr hG3)
        have HA26 := Lib.hid hA26
        have HOwn3 := Lib.hid (HOwn.out.gr hG23)
        have hc03 := Gr.cell hG23 hc0
        have hc13 := Gr.cell hG23 hc1
        have hc23 := Gr.cell hG23 hc2
        have HS03 := Lib.hid (HS0.out.gr hG23)
        have HS13 := Lib.hid (HS1b.out.gr hG23)
        have HS23 := Lib.hid (HS2.out.gr hG23)
        have hGw3 := hGw.trans hG23
        have HDot : Hid (∀ (q : Nat) (x : WrM), W[q]? = some x → rightD x.1 ∧ hasC cx x.1) := Lib.hid (fun q x hx => by
          have hm := List.mem_of_getElem? hx
          have hr := HWr.out.hist.right x hm
          exact ⟨hr, (HCv.out _ hr).2 (HFull.out 0 (by omega) x hm)⟩)
        clear hA26 hg26 hG2 hG3 hc0 hc1 hc2 hl17 honc HS0 HS1b HS2 HOwn HOM HSe hGw
        go_wp2_with fail
        go_simp
        go_loopw [28] (fun i wr => ∃ q : Nat, q ≤ W.length ∧ i = .int .i64 (q : Int) ∧ Gr w3 wr) (fun i _ => W.length - (intOf i).toNat)
        case atStart => exact ⟨0, Nat.zero_le _, rfl, Gr.refl _⟩
        case round =>
          obtain ⟨q, hqW, rfl, hGr⟩ := hrel
          by_cases hlt : q < W.length
          · have hqi : (q : Int) < (W.length : Int) := by omega
            obtain ⟨x, hx⟩ : ∃ x, W[q]? = some x := ⟨_, List.getElem?_eq_getElem hlt⟩
            obtain ⟨d, hd⟩ : ∃ d, d = x.1 := ⟨_, rfl⟩
            obtain ⟨hrd, hhas⟩ := HDot.out q x hx
            rw [← hd] at hrd hhas
            obtain ⟨b, o, e5, hr⟩ := (HOwn3.out.gr hGr).dots.2 q d (by rw [List.getElem?_map, hx, hd]; rfl)
            subst e5
            have HH := Lib.hid (fun w9 (h : Gr wr w9) => hasP_any (cM := cM) HCx.out hrd (HM3.out.gr (hGr.trans h)))
            have HHas := Lib.hid hhas
            have hrC : wr.rangeAt g26 0 (ctxC cx M mm cM) := Arr.range (HA26.out.gr hGr)
            clear hx hd hrd hhas
            go_upto_region 48 with fail
            refine wp_region_ssaL (by kernel_rfl) [IsV (.agg (ctxC cx M mm cM).toArray), IsV (.slice (some ⟨b, o, none⟩) W.length c5), IsV (.int .i64 (q : Int)), IsV (.pointer (some ⟨b, o + q * 2, none⟩)), IsV (.agg (encD d).toArray), IsV (.bool true), IsV (.bool false)] (by kernel_rfl) ?_ ?_ ?_
            · intro φ hφ v w1 w2 h hg
              simp only [List.mem_cons, List.not_mem_nil, or_false] at hφ
              rcases hφ with rfl | rfl | rfl | rfl | rfl | rfl | rfl
              all_goals exact h
            · refine ⟨?_, ?_, ?_, ?_, ?_, ?_, ?_, trivial⟩
              · intro a1 w9 hG hF
                have e26 : a1.eval (.tmp 26) = .pointer (some ⟨g26, 0, none⟩) := hF.ol 26 (by kernel_rfl)
                exact s_wp rfl (wants0 rfl) (wp_load_mid _ _ rfl g26 0 e26 (ctxC cx M mm cM) _ (((Gr.drew wr).trans hG).range hrC) Tryz.underlying42 rfl HIc.out ⟨_, rfl, rfl, Gr.refl _⟩)
              · intro a1 w9 hG hF
                exact s_old rfl (wants0 rfl) (.tmp 5) (.inr rfl) (.slice (some ⟨b, o, none⟩) W.length c5) (hF.ol 5 (by kernel_rfl)) rfl
              · intro a1 w9 hG hF
                exact s_old rfl (wants0 rfl) (.tmp 28) (.inr rfl) (.int .i64 (q : Int)) (hF.ol 28 (by kernel_rfl)) rfl
              · intro a1 w9 hG hF
                obtain ⟨_, e180, rfl⟩ := hF.dp 1 180 (by kernel_rfl)
                obtain ⟨_, e181, rfl⟩ := hF.dp 2 181 (by kernel_rfl)
                exact s_is rfl (wants0 rfl) _ rfl (by simp only [execOp, e180, e181]; go_simp; try (intro h; omega))
              · intro a1 w9 hG hF
                obtain ⟨_, e182, rfl⟩ := hF.dp 3 182 (by kernel_rfl)
                exact s_wp rfl (wants0 rfl) (wp_load_mid _ _ rfl b (o + q * 2) e182 (encD d) _ (((Gr.drew wr).trans hG).range hr) Tryz.underlying39 rfl (infoDot d) ⟨_, rfl, rfl, Gr.refl _⟩)
              · intro a1 w9 hG hF
                obtain ⟨_, e179, rfl⟩ := hF.dp 0 179 (by kernel_rfl)
                obtain ⟨_, e183, rfl⟩ := hF.dp 4 183 (by kernel_rfl)
                exact s_call rfl (wants0 rfl) _ rfl _ _ (by simp only [execOp, resolve, invoke, List.map_toArray, List.map_cons, List.map_nil, e179, e183]; go_simp) ((HH.out w9 ((Gr.drew wr).trans hG)).mono fun e w10 ⟨he, hg9⟩ => ⟨_, he, by rw [decide_eq_true HHas.out]; rfl, hg9⟩)
              · intro a1 w9 hG hF
                obtain ⟨_, e184, rfl⟩ := hF.dp 5 184 (by kernel_rfl)
                exact s_is rfl (wants0 rfl) _ rfl (by simp only [execOp, e184]; go_simp)
            · intro vs9 wq hGq hf
              have z6 : vs9 6 = .bool false := hf.2.2.2.2.2.2.1
              clear hf
              have hGrq : Gr w3 wq := hGr.trans ((Gr.drew wr).trans hGq)
              simp only [putAll, Nat.zero_add, Nat.reduceAdd, z6]
              clear z6 hGq hGr hr hrC HH
              go_simp
              go_wp2_with fail
              exact ⟨⟨q + 1, by omega, by go_num, hGrq⟩, by simp [intOf]; omega⟩
          · have hqi : ¬ (q : Int) < (W.length : Int) := by omega
            obtain ⟨wE, hwE⟩ : ∃ v, v = wr := ⟨_, rfl⟩
            subst hwE
            have hcr0 := Gr.cell hGr hc03
            have HG3 := Lib.hid hGr
            clear hqW hlt
            go_upto_region 51 with fail
            go_wp2_with fail
            go_simp
            go_loopw [29, 30] (fun v i wr => LastR W (Ls1 0) n0 wE v i wr) (fun _ i _ => n0 - (intOf i).toNat)
            case atStart =>
              refine ⟨0, _, Nat.zero_le _, rfl, rfl, Gr.refl _, fun h => ?_⟩
              have hne : W.length ≠ 0 := by
                intro h0
                rw [h0] at h
                simp at h
              exact ⟨W[W.length - 1]'(by omega), List.getElem?_eq_getElem _, fun p x hp => absurd hp (by omega)⟩
            case round =>
              obtain ⟨j, r6, hjn, rfl, rfl, hG8, hno⟩ := hrel
              have HNo := Lib.hid hno
              clear hno
              have hcw0 := Gr.cell hG8 hcr0
              by_cases hjl : j < n0
              · have hji : (j : Int) < (n0 : Int) := by omega
                cases r6 with
                | true =>
                  go_upto_region 55 with fail
                  have hG38 := HG3.out.trans hG8
                  have hd1 := Gr.cell hG38 hc13
                  have hd2 := Gr.cell hG38 hc23
                  have HSm1 := Lib.hid (ssame_yes (c := c0) (d := c1) (HS03.out.gr hG38) (HS13.out.gr hG38) (full_keys HWr.out.hist HP0.out HP1.out (HFull.out 0 (by omega)) (HFull.out 1 (by omega))) (by omega))
                  have HSm2 := Lib.hid (fun w9 (h : Gr wr w9) => ssame_yes (c := c1) (d := c2) (HS13.out.gr (hG38.trans h)) (HS23.out.gr (hG38.trans h)) (full_keys HWr.out.hist HP1.out HP2.out (HFull.out 1 (by omega)) (HFull.out 2 (by omega))) (by rw [← HS13.out.1]; exact Nat.le_trans HP1.out.len (by omega)))
                  have HGwr := Lib.hid (hGw3.trans hG38)
                  have mk := Lib.hid trivial
                  go_wp2_with first
                    | (go_at_call 11; clear mk; refine HSm1.out.mono ?_; rintro e w9 ⟨rfl, hG9⟩; have hd19 := Gr.cell hG9 hd1; have hd29 := Gr.cell hG9 hd2)
                    | (go_at_call 11; refine (HSm2.out _ hG9).mono ?_; rintro e w10 ⟨rfl, hG10⟩)
                  go_ret
                  exact ⟨rfl, HGwr.out.trans (hG9.trans hG10)⟩
                | false =>
                  obtain ⟨z, hz, hall⟩ := HNo.out rfl
                  obtain ⟨m, hm⟩ : ∃ m, m = W.length - 1 := ⟨_, rfl⟩
                  rw [← hm] at hz
                  have hmW : m < W.length := (List.getElem?_eq_some_iff.1 hz).1
                  have hmi : (m : Int) < (W.length : Int) := by omega
                  have hm1 : (W.length : Int) - 1 = (m : Int) := by omega
                  have rA : IntKind.i64.wrap (m : Int) = (m : Int) := by rw [IntKind.wrap_i64]; omega
                  obtain ⟨x, hx⟩ : ∃ x, (Ls1 0)[j]? = some x := ⟨_, List.getElem?_eq_getElem (by rw [HS03.out.1]; exact hjl)⟩
                  obtain ⟨⟨b0, o0, eA0, hr0⟩, hs0⟩ := (HS03.out.gr (HG3.out.trans hG8)).2 j x hx
                  obtain ⟨b5, o5, e5, hr5⟩ := (HOwn3.out.gr (HG3.out.trans hG8)).dots.2 m z.1 (by rw [List.getElem?_map, hz]; rfl)
                  subst eA0 e5
                  have hr0d := (SibAt.of hs0.ctx.len hr0).dot
                  obtain ⟨p, hp⟩ : ∃ p, p = x.d := ⟨_, rfl⟩
                  obtain ⟨q, hq⟩ : ∃ q, q = z.1 := ⟨_, rfl⟩
                  rw [← hp] at hr0d
                  rw [← hq] at hr5
                  have HX := Lib.hid hx
                  have HZ := Lib.hid hz
                  have HAll := Lib.hid hall
                  have HP := Lib.hid hp
                  have HQ := Lib.hid hq
                  have HM := Lib.hid hm
                  obtain ⟨a, b⟩ := p
                  obtain ⟨c', d'⟩ := q
                  obtain ⟨k0, k1⟩ := rangeD hr0d
                  obtain ⟨k2, k3⟩ := rangeD hr5
                  simp only at k0 k1 k2 k3
                  clear hx hz hall hp hq hm hr0 hs0 hr0d hr5
                  go_upto_region 54 with fail
                  by_cases hxy : (a, b) = (c', d')
                  · have hq := eqDotF (p := (a, b)) (q := (c', d')) (decide_eq_true hxy)
                    simp only at hq
                    clear hxy
                    go_quiet (fail)
                    have hGn : Gr wr (wr.drewN nq) := below_dr ⟨_, rfl⟩
                    generalize wr.drewN nq = w9 at hGn ⊢
                    have HREL : Hid (LastR W (Ls1 0) n0 wE (.bool true) (.int .i64 ((j + 1 : Nat) : Int)) w9) := Lib.hid ⟨j + 1, true, hjl, rfl, rfl, hG8.trans hGn, fun h => by cases h⟩
                    clear hq k0 k1 k2 k3 hm1 rA hcw0 hGn
                    go_wp2_with fail
                    exact ⟨by rw [show (j : Int) + 1 = ((j + 1 : Nat) : Int) by omega]; exact HREL.out, by simp [intOf]; omega⟩
                  · have hq := eqDotF (p := (a, b)) (q := (c', d')) (decide_eq_false hxy)
                    simp only at hq
                    have HNE := Lib.hid hxy
                    clear hxy
                    go_quiet (fail)
                    have hGn : Gr wr (wr.drewN nq) := below_dr ⟨_, rfl⟩
                    generalize wr.drewN nq = w9 at hGn ⊢
                    have HREL : Hid (LastR W (Ls1 0) n0 wE (.bool false) (.int .i64 ((j + 1 : Nat) : Int)) w9) := Lib.hid ⟨j + 1, false, hjl, rfl, rfl, hG8.trans hGn, fun _ => ⟨z, by rw [← HM.out]; exact HZ.out, fun p y hp hy => by
                      rcases Nat.lt_or_eq_of_le (Nat.le_of_lt_succ hp) with h1 | h1
                      · exact HAll.out p y h1 hy
                      · subst h1
                        rw [HX.out] at hy
                        obtain rfl := Option.some.inj hy
                        rw [← HP.out, ← HQ.out]
                        exact HNE.out⟩⟩
                    clear hq k0 k1 k2 k3 hm1 rA hcw0 hGn
                    go_wp2_with fail
                    exact ⟨by rw [show (j : Int) + 1 = ((j + 1 : Nat) : Int) by omega]; exact HREL.out, by simp [intOf]; omega⟩
              · have hji : ¬ (j : Int) < (n0 : Int) := by omega
                cases r6 with
                | false =>
                  exfalso
                  obtain ⟨z, hz, hall⟩ := HNo.out rfl
                  obtain ⟨x, hx, hxd⟩ := full_lastD HWr.out.hist HP0.out (HFull.out 0 (by omega)) hz
                  obtain ⟨p, hp⟩ := List.getElem?_of_mem hx
                  have hpl : p < n0 := by rw [← HS03.out.1]; exact (List.getElem?_eq_some_iff.1 hp).1
                  exact hall p x (by omega) hp hxd
                | true =>
                  go_upto_region 55 with fail
                  have hG38 := HG3.out.trans hG8
                  have hd1 := Gr.cell hG38 hc13
                  have hd2 := Gr.cell hG38 hc23
                  have HSm1 := Lib.hid (ssame_yes (c := c0) (d := c1) (HS03.out.gr hG38) (HS13.out.gr hG38) (full_keys HWr.out.hist HP0.out HP1.out (HFull.out 0 (by omega)) (HFull.out 1 (by omega))) (by omega))
                  have HSm2 := Lib.hid (fun w9 (h : Gr wr w9) => ssame_yes (c := c1) (d := c2) (HS13.out.gr (hG38.trans h)) (HS23.out.gr (hG38.trans h)) (full_keys HWr.out.hist HP1.out HP2.out (HFull.out 1 (by omega)) (HFull.out 2 (by omega))) (by rw [← HS13.out.1]; exact Nat.le_trans HP1.out.len (by omega)))
                  have HGwr := Lib.hid (hGw3.trans hG38)
                  have mk := Lib.hid trivial
                  go_wp2_with first
                    | (go_at_call 11; clear mk; refine HSm1.out.mono ?_; rintro e w9 ⟨rfl, hG9⟩; have hd19 := Gr.cell hG9 hd1; have hd29 := Gr.cell hG9 hd2)
                    | (go_at_call 11; refine (HSm2.out _ hG9).mono ?_; rintro e w10 ⟨rfl, hG10⟩)
                  go_ret
                  exact ⟨rfl, HGwr.out.trans (hG9.trans hG10)⟩
end Go.Proofs.YteckblffpidigaaGreatDoor
