/- The walk of the law PullSelf. No condition. -/
import Derived.Test.YthpgldfjcancjaaDoorPuFour
import Derived.Test.YthpgldfjcancjaaDoorPuSelfP
namespace Go.Proofs.YthpgldfjcancjaaDoor
open Go.RowKit
theorem encN_cell0 (x : Nm) : ∃ z, (encN x)[0]? = some (.int .u8 z) := by
  obtain ⟨l, hl⟩ := x
  match l, hl with
  | y :: l, _ => exact ⟨_, rfl⟩
/-- Names in memory stay while a tree turns. -/
theorem NmR.tree {w w' : World} {A : Option Addr} {n n' C g b : Nat} {L : List Nm} {R : Rw} (h : NmR w A n L) (hTr : TreeIs w g b n' R) (hT : Tn (treeT g b) C w w') : NmR w' A n L := by
  refine ⟨h.1, fun i x hx => ?_⟩
  obtain ⟨b0, e, hr⟩ := h.2 i x hx
  refine ⟨b0, e, fun j u hu => ?_⟩
  have hc := hr j u hu
  have hne : b0 ≠ g := by
    intro eg
    have hl := (List.getElem?_eq_some_iff.1 hx).1
    obtain ⟨x0, hx0⟩ : ∃ x0, L[0]? = some x0 := ⟨_, List.getElem?_eq_getElem (by omega)⟩
    obtain ⟨b1, e1, hr1⟩ := h.2 0 x0 hx0
    rw [e] at e1
    injection e1 with e1
    injection e1 with e1
    obtain ⟨z, hz⟩ := encN_cell0 x0
    have hc0 := hr1 0 _ hz
    obtain ⟨⟨N, h1, _⟩, _⟩ := hTr
    have := h1.cell0
    rw [← e1, eg] at hc0
    rw [show 0 * 32 + 0 = 0 from rfl, this] at hc0
    cases hc0
  refine (World.cell?_of_block ?_).trans hc
  refine hT.block b0 (lt_of_cell hc) (.inr ?_)
  unfold World.cell? at hc
  split at hc
  · rename_i h1
    rw [h1]
    simp [Turns, treeT, hne]
  · simp at hc
theorem keys_row {w : World} {g b n : Nat} {R : Rw} (hT : TreeIs w g b n R) (hn : n ≤ 1000000) (a : Nat) :
    Calls Tryd.prog 17 #[.pointer (some ⟨g, 0, none⟩), .int .i64 (a : Int)] w fun e w' => ∃ (A : Option Addr) (m c : Nat), e = .returned (.slice A m c) ∧ NmR w' A m (namesR R a) ∧ Hid (m = (inLeaf R a).length) ∧ m ≤ n ∧ Gr w w' :=
  (keys_is hT hn a).mono fun _ _ ⟨A, m, c, h1, h2, h3, h4, h5⟩ => ⟨A, m, c, h1, h2, Lib.hid h3, h4, h5⟩
theorem names_len {R : Rw} {a m : Nat} (h : m = (inLeaf R a).length) : m = (namesR R a).length := by
  unfold namesR
  rw [List.length_map]
  exact h
theorem zeros_val : Value.agg (u8s ZNm.1).toArray = .agg (List.replicate 32 (.int .u8 0)).toArray := rfl
theorem run_eqD32 {ev : Operand → Value} {d : Option Tmp} {t : TypeId} {p : String} {af : Array Edge} {gd : Option (Nat × Bool)} {w : World} {x y : Operand} {T : TypeId} {D E : List UInt8} (hD : D.length = 32) (hE : E.length = 32) (h1 : ev x = .agg (u8s D).toArray) (h2 : ev y = .agg (u8s E).toArray) :
    (execOp ev ⟨d, .binOp .eql 43 x y T, t, p, af, gd⟩).run Tryd.prog w = .ok (.value (.bool (D == E))) w := by
  have h3 := run_equalIn_bytes (P := Tryd.prog) w 9998 43 5 32 Tryd.underlying43 Tryd.underlying5 (fun w => by kernel_rfl) D E hD hE
  have h4 : (Op.equalIn 10000 43 (.agg (u8s D).toArray) (.agg (u8s E).toArray)).run Tryd.prog w = .ok (D == E) w := h3
  simp only [execOp, h1, h2]
  go_simp
/-- The loop over the leaves. -/
def SelfR (g b B q : Nat) (R S : Rw) (w0 : World) (k : Value) (w : World) : Prop := ∃ (i n : Nat) (T : Rw), i ≤ q ∧ k = .int .i64 (i : Int) ∧ TreeIs w g b n T ∧ n ≤ 20 + 60 * i ∧ Half R S T ((levelL R S 5).take i) ∧ Tn (treeT g b) B w0 w
theorem SelfR.out {g b B q : Nat} {R S : Rw} {w0 : World} {k : Value} {w : World} (h : SelfR g b B q R S w0 k w) : ∃ (i n : Nat) (T : Rw), i ≤ q ∧ k = .int .i64 (i : Int) ∧ TreeIs w g b n T ∧ n ≤ 20 + 60 * i ∧ Half R S T ((levelL R S 5).take i) ∧ Tn (treeT g b) B w0 w := h
/-- The loops over the names of a leaf. -/
def GoneR (g b B n q : Nat) (T : Rw) (L : List Nm) (w0 : World) (k : Value) (w : World) : Prop := ∃ (j : Nat) (T1 : Rw), j ≤ q ∧ k = .int .i64 (j : Int) ∧ TreeIs w g b (n + j) T1 ∧ Gone T T1 (L.take j) ∧ Tn (treeT g b) B w0 w
theorem GoneR.out {g b B n q : Nat} {T : Rw} {L : List Nm} {w0 : World} {k : Value} {w : World} (h : GoneR g b B n q T L w0 k w) : ∃ (j : Nat) (T1 : Rw), j ≤ q ∧ k = .int .i64 (j : Int) ∧ TreeIs w g b (n + j) T1 ∧ Gone T T1 (L.take j) ∧ Tn (treeT g b) B w0 w := h
def LaidR (g b B n q : Nat) (T S : Rw) (L : List Nm) (w0 : World) (k : Value) (w : World) : Prop := ∃ (j : Nat) (T1 : Rw), j ≤ q ∧ k = .int .i64 (j : Int) ∧ TreeIs w g b (n + j) T1 ∧ Laid T S T1 (L.take j) ∧ Tn (treeT g b) B w0 w
theorem LaidR.out {g b B n q : Nat} {T S : Rw} {L : List Nm} {w0 : World} {k : Value} {w : World} (h : LaidR g b B n q T S L w0 k w) : ∃ (j : Nat) (T1 : Rw), j ≤ q ∧ k = .int .i64 (j : Int) ∧ TreeIs w g b (n + j) T1 ∧ Laid T S T1 (L.take j) ∧ Tn (treeT g b) B w0 w := h
/-- The look for unlike leaves above which a node is the same. -/
def SeekR (R S : Rw) (w0 : World) (k : Value) (w : World) : Prop := ∃ i : Nat, i ≤ 256 ∧ k = .int .i64 (i : Int) ∧ (∃ c, i ≤ c ∧ BadL R S c) ∧ Gr w0 w
theorem SeekR.out {R S : Rw} {w0 : World} {k : Value} {w : World} (h : SeekR R S w0 k w) : ∃ i : Nat, i ≤ 256 ∧ k = .int .i64 (i : Int) ∧ (∃ c, i ≤ c ∧ BadL R S c) ∧ Gr w0 w := h
def PathR (R S : Rw) (c : Nat) (w0 : World) (v k : Value) (w : World) : Prop := ∃ h : Nat, h ≤ 5 ∧ v = .int .i64 ((c / 4 ^ h : Nat) : Int) ∧ k = .int .i64 (4 - (h : Int)) ∧ (∀ j, j < h → nodeR R j (c / 4 ^ j) ≠ nodeR S j (c / 4 ^ j)) ∧ Gr w0 w
theorem PathR.out {R S : Rw} {c : Nat} {w0 : World} {v k : Value} {w : World} (h : PathR R S c w0 v k w) : ∃ h : Nat, h ≤ 5 ∧ v = .int .i64 ((c / 4 ^ h : Nat) : Int) ∧ k = .int .i64 (4 - (h : Int)) ∧ (∀ j, j < h → nodeR R j (c / 4 ^ j) ≠ nodeR S j (c / 4 ^ j)) ∧ Gr w0 w := h
set_option maxRecDepth 100000 in
set_option maxHeartbeats 8000000 in
theorem law_self (A : Option Addr) (n c : Nat) (f : Nat → RowM) (w : World) (hA : Rows3 w A n f) (gw : Glob w) :
    Calls Tryd.prog 5 #[.slice A n c] w fun e w' => e = .returned (.bool true) ∧ Below w.heap.size w w' := by
  have gl := Glob.lowG gw
  have HT := Lib.hid (trees_any (c := c) hA gw)
  obtain ⟨B, hBe⟩ : ∃ B, B = w.heap.size := ⟨_, rfl⟩
  have hBw : Hid (B = w.heap.size) := Lib.hid hBe
  rw [← hBe] at gl HT ⊢
  clear hA hBe
  have mk1 : True := trivial
  go_enter Tryd.func5, Tryd.ntmps5
  go_upto_region 2 with (go_at_call 6; refine HT.out.mono ?_; rintro e w1 ⟨g, b, g', b', p, p', m, R, S, rfl, hm, hF, hAp, hG1⟩)
  have gw1 : Glob w1 := Glob.gr hG1 gw
  have HF := Lib.hid hF
  have HAP := Lib.hid hAp
  have hB1 : B ≤ w1.heap.size := by rw [hBw.out]; exact hG1.size
  have hw1 : Below B w w1 := by rw [hBw.out]; exact hG1
  obtain ⟨q, hq⟩ : ∃ q, q = (levelL R S 5).length := ⟨_, rfl⟩
  obtain ⟨T5, hT5⟩ : ∃ T, T = toldL R S 5 := ⟨_, rfl⟩
  have hRl : R.length ≤ 20 := by have := hF.fa; omega
  have hSl : S.length ≤ 20 := by have := hF.fb; omega
  have hq40 : q ≤ 40 := by rw [hq]; have := told_few R S; omega
  have HL1 : Hid (∀ w2, Gr w1 w2 → Calls Tryd.prog 7 #[.pointer (some ⟨g, 0, none⟩), .pointer (some ⟨g, 0, none⟩)] w2 fun e w' => ∃ A c, e = .returned (.tuple #[.slice A 0 c, .int .i64 1, .int .i64 0]) ∧ Gr w2 w') := Lib.hid (fun w2 h => (leaves_own (HF.out.gr h).ta (HF.out.gr h).ta (by rw [level_self R 4]; rfl) (told_self R).symm).mono fun e w' ⟨A, c, h1, _, h2⟩ => ⟨A, c, h1, h2⟩)
  have HL : Hid (∀ w2, Gr w1 w2 → Calls Tryd.prog 7 #[.pointer (some ⟨g, 0, none⟩), .pointer (some ⟨g', 0, none⟩)] w2 fun e w' => ∃ A c, e = .returned (.tuple #[.slice A q c, .int .i64 (T5 : Int), .int .i64 0]) ∧ w'.ownsRow w2.heap.size 3 1 (.slice A q c) q (intV (levelL R S 5)) ∧ Gr w2 w') := Lib.hid (fun w2 h => leaves_own (HF.out.gr h).ta (HF.out.gr h).tb hq hT5)
  have HQ := Lib.hid hq
  clear hq hT5 hF hAp HT
  go_upto_region 5 with first
    | (clear mk1; go_at_call 7; refine (HL1.out w1 (Gr.refl _)).mono ?_; rintro e w2 ⟨A2, c2, rfl, hG2⟩; have gw2 := Glob.gr hG2 gw1)
    | (go_at_call 9; refine (pulls_any gw2).mono ?_; rintro e w3 ⟨rfl, hG3⟩)
  go_upto_block 0 with (go_at_call 7; refine (HL.out w3 (hG2.trans hG3)).mono ?_; rintro e w4 ⟨A4, c4, rfl, ho4, hG4⟩)
  have hG14 := hG2.trans (hG3.trans hG4)
  have HF4 := Lib.hid (HF.out.gr hG14)
  have HO4 := Lib.hid ho4
  have hw4 : Below B w w4 := Below.trans hw1 (Below.mono hG14 hB1)
  have hB4 : B ≤ w4.heap.size := Nat.le_trans hB1 hG14.size
  have gw4 := Glob.gr hG14 gw1
  have h04 : SelfR g b B q R S w4 (.int .i64 0) w4 := ⟨0, m, R, by omega, rfl, HF4.out.ta, by omega, by rw [List.take_zero]; exact Half.nil R S, Tn.refl _⟩
  have H04 := Lib.hid h04
  clear hG2 hG3 hG4 hG14 ho4 HL HL1 HF gw1 gw2 hw1 hB1 hG1 h04
  go_cut [] from 13 to 106 (fun wx => SelfR g b B q R S w4 (.int .i64 (q : Int)) wx)
  case first =>
    go_upto_region 9 with fail
    go_loopw [13] (fun k wr => SelfR g b B q R S w4 k wr) (fun k _ => q - (intOf k).toNat)
    case atStart => exact H04.out
    case round =>
      obtain ⟨i, n5, T, hi, rfl, hTr, hn5, hHf, hTn⟩ := SelfR.out hrel
      clear hrel H04
      have HTr := Lib.hid hTr
      have HTn := Lib.hid hTn
      have HHf := Lib.hid hHf
      have hBr : B ≤ wr.heap.size := Nat.le_trans hB4 hTn.size
      have HRR := Lib.hid (Rd.of_own (own_tn HO4.out HTn.out (fun k C f => treeT_cells rfl)))
      clear hTr hTn hHf
      by_cases hlt : i < q
      · obtain ⟨x, hx⟩ : ∃ x, (levelL R S 5)[i]? = some x := ⟨_, List.getElem?_eq_getElem (by rw [← HQ.out]; exact hlt)⟩
        have hx256 := (leaves_unlike (List.mem_of_getElem? hx)).1
        have HX := Lib.hid hx
        obtain ⟨ad, rfl, hcx⟩ := HRR.out.2 i (.int .i64 (x : Int)) (intV_at hx)
        have c1 : (i : Int) < (q : Int) := by omega
        have hsT := HTr.out.sorted
        have hfew := HHf.out.few hsT HF4.out.ta.sorted HF4.out.tb.sorted x
        have HK := Lib.hid (keys_row HTr.out (by omega) x)
        have HFW := Lib.hid hfew
        clear hx hsT hfew
        go_upto_region 13 with (go_at_call 17; refine HK.out.mono ?_; rintro e w5 ⟨A5, m5, c5, rfl, hN5, hm5, _, hG5⟩)
        have hm20 : m5 ≤ 40 := by have := HFW.out; have := hm5.out; omega
        have HN5 := Lib.hid hN5
        have HM5 := Lib.hid (names_len hm5.out)
        have HT5 := Lib.hid (HTr.out.gr hG5)
        have hB5 : B ≤ w5.heap.size := Nat.le_trans hBr hG5.size
        have HTn5 := Lib.hid (HTn.out.trans (Tn.of_gr hG5))
        have h05 : GoneR g b B n5 m5 T (namesR T x) w5 (.int .i64 0) w5 := ⟨0, T, by omega, rfl, HT5.out, by rw [List.take_zero]; exact Gone.nil T, Tn.refl _⟩
        have H05 := Lib.hid h05
        clear hN5 hm5 hG5 HK HFW h05 hcx HTn
        go_loopw [15] (fun k wq => GoneR g b B n5 m5 T (namesR T x) w5 k wq) (fun k _ => m5 - (intOf k).toNat)
        case atStart => exact H05.out
        case round =>
          obtain ⟨j, T1, hj, rfl, hT1, hGo, hTn1⟩ := GoneR.out hrel
          clear hrel H05
          have HT1 := Lib.hid hT1
          have HGO := Lib.hid hGo
          have HTN1 := Lib.hid hTn1
          clear hT1 hGo hTn1
          by_cases hjl : j < m5
          · obtain ⟨y, hy⟩ : ∃ y, (namesR T x)[j]? = some y := ⟨_, List.getElem?_eq_getElem (by rw [← HM5.out]; exact hjl)⟩
            obtain ⟨bK, rfl, rgK⟩ := (HN5.out.tree HT5.out HTN1.out).2 j y hy
            have c2 : (j : Int) < (m5 : Int) := by omega
            have hB6 := Nat.le_trans hB5 HTN1.out.size
            have hw6 : Below B w wr := Below.trans hw4 ((HTn5.out.trans HTN1.out).below hB4)
            have hSet := set_is HT1.out (by omega : n5 + j ≤ 9000) y ZNm HAP.out.hg HAP.out.hb hB6 (gw.keep hw6 gl) gl
            have HSet := Lib.hid hSet
            have HY := Lib.hid hy
            clear hSet hy hB6 hw6
            go_wp2_with first
              | (refine wpList_load_mid rfl _ _ rfl bK (j * 32) rfl (encN y) _ rgK Tryd.underlying51 rfl (infoN y) ?_)
              | (go_at_call 18; refine HSet.out.mono ?_; rintro e w6 ⟨rfl, hT6, hTn6⟩; have hR6 : GoneR g b B n5 m5 T (namesR T x) w5 (.int .i64 ((j : Int) + 1)) w6 := ⟨j + 1, _, by omega, by simp, hT6, HGO.out.step HY.out, HTN1.out.trans hTn6⟩; clear hT6 hTn6)
            exact ⟨hR6, by simp only [intOf]; omega⟩
          · obtain rfl : m5 = j := by omega
            have c2 : ¬ (m5 : Int) < (m5 : Int) := by omega
            have hGo := HGO.out
            have hT1 := HT1.out
            have hTn1 := HTN1.out
            rw [List.take_of_length_le (Nat.le_of_eq HM5.out.symm)] at hGo
            clear HGO HTN1
            have HGO := Lib.hid hGo
            have hTnc := HTn5.out.trans hTn1
            have HTnc := Lib.hid hTnc
            have hBc : B ≤ wr.heap.size := Nat.le_trans hB5 hTn1.size
            obtain ⟨ad2, he2, hcx2⟩ := (Rd.of_own (own_tn HO4.out hTnc (fun k C f => treeT_cells rfl))).2 i (.int .i64 (x : Int)) (intV_at HX.out)
            injection he2 with he2
            subst he2
            have HK2 := Lib.hid (keys_row (HF4.out.tb.other hTnc HAP.out.gg.symm HAP.out.bb.symm) (by omega) x)
            have hS20 := List.length_filter_le (fun p : Nm × Nm => decide (leafOf p.1 = x)) S
            have HS20 := Lib.hid hS20
            clear hT1 hGo hTn1 hTnc hj hjl HN5 HT5 HTn5 hB5 hS20
            go_upto_region 18 with (go_at_call 17; refine HK2.out.mono ?_; rintro e w7 ⟨A7, m7, c7, rfl, hN7, hm7, _, hG7⟩)
            have hm7b : m7 ≤ 20 := by have := HS20.out; have h7 := hm7.out; unfold inLeaf at h7; omega
            have HN7 := Lib.hid hN7
            have HM7 := Lib.hid (names_len hm7.out)
            have HT7 := Lib.hid (HT1.out.gr hG7)
            have hB7 : B ≤ w7.heap.size := Nat.le_trans hBc hG7.size
            have HTn7 := Lib.hid (HTnc.out.trans (Tn.of_gr hG7))
            have h07 : LaidR g b B (n5 + m5) m7 T1 S (namesR S x) w7 (.int .i64 0) w7 := ⟨0, T1, by omega, rfl, HT7.out, by rw [List.take_zero]; exact Laid.nil T1 S, Tn.refl _⟩
            have H07 := Lib.hid h07
            clear hN7 hm7 hG7 HK2 HS20 h07 hcx2 HTnc HT1 hBc
            go_loopw [16] (fun k wq => LaidR g b B (n5 + m5) m7 T1 S (namesR S x) w7 k wq) (fun k _ => m7 - (intOf k).toNat)
            case atStart => exact H07.out
            case round =>
              obtain ⟨j, T2, hj, rfl, hT2, hLa, hTn2⟩ := LaidR.out hrel
              clear hrel H07
              have HT2 := Lib.hid hT2
              have HLA := Lib.hid hLa
              have HTN2 := Lib.hid hTn2
              clear hT2 hLa hTn2
              by_cases hjl : j < m7
              · obtain ⟨y, hy⟩ : ∃ y, (namesR S x)[j]? = some y := ⟨_, List.getElem?_eq_getElem (by rw [← HM7.out]; exact hjl)⟩
                obtain ⟨bK, rfl, rgK⟩ := (HN7.out.tree HT7.out HTN2.out).2 j y hy
                have c2 : (j : Int) < (m7 : Int) := by omega
                have hB8 := Nat.le_trans hB7 HTN2.out.size
                have hw8 : Below B w wr := Below.trans hw4 ((HTn7.out.trans HTN2.out).below hB4)
                have HY := Lib.hid hy
                obtain ⟨G, hG⟩ : ∃ G, G = (look S y.1).getD Z32 := ⟨_, rfl⟩
                have hGl : G.length = 32 := by
                  rw [hG]
                  cases hlk : look S y.1 with
                  | none => rfl
                  | some d =>
                    obtain ⟨pp, _, _, e2⟩ := look_some hlk
                    rw [← e2]
                    exact pp.2.2
                have HGet : Hid (∀ w8, Gr wr w8 → Calls Tryd.prog 19 #[.pointer (some ⟨g', 0, none⟩), by32 y.1] w8 fun e w' => e = .returned (by32 G) ∧ Gr w8 w') := Lib.hid (fun w8 h8 => by
                  rw [hG]
                  exact get_is ((HF4.out.tb.other (HTn7.out.trans HTN2.out) HAP.out.gg.symm HAP.out.bb.symm).gr h8) y)
                have HG := Lib.hid hG
                have HW8 := Lib.hid hw8
                clear hy hG hw8
                obtain ⟨wp, hwp⟩ : ∃ w, w = wr := ⟨_, rfl⟩
                rw [← hwp] at rgK hB8 HW8 HT2 HTN2 HGet ⊢
                clear hwp
                go_upto_region 20 with fail
                refine wp_region_cut (by kernel_rfl) [IsV (.pointer (some ⟨g, 0, none⟩)), IsV (.slice (some ⟨bK, 0, none⟩) m7 c7), IsV (.int .i64 (j : Int)), IsV (.pointer (some ⟨bK, j * 32, none⟩)), IsV (by32 y.1), IsV (.pointer (some ⟨g', 0, none⟩)), IsV (.slice (some ⟨bK, 0, none⟩) m7 c7), IsV (.int .i64 (j : Int)), IsV (.pointer (some ⟨bK, j * 32, none⟩)), IsV (by32 y.1), IsV (by32 G)] 11 (by decide) (by kernel_rfl) (by kernel_rfl) (by kernel_rfl) ?_ ?_ ?_
                · intro φ hφ v w1 w2 h hg
                  simp only [List.mem_cons, List.not_mem_nil, or_false] at hφ
                  rcases hφ with rfl | rfl | rfl | rfl | rfl | rfl | rfl | rfl | rfl | rfl | rfl <;> exact h
                · refine ⟨?_, ?_, ?_, ?_, ?_, ?_, ?_, ?_, ?_, ?_, ?_, trivial⟩
                  · intro a1 w1 hG hF
                    exact s_old rfl (wants0 rfl) (.tmp 3) (.inr rfl) (.pointer (some ⟨g, 0, none⟩)) (hF.ol 3 (by kernel_rfl)) rfl
                  · intro a1 w1 hG hF
                    exact s_old rfl (wants0 rfl) (.tmp 14) (.inr rfl) (.slice (some ⟨bK, 0, none⟩) m7 c7) (hF.ol 14 (by kernel_rfl)) rfl
                  · intro a1 w1 hG hF
                    exact s_old rfl (wants0 rfl) (.tmp 16) (.inr rfl) (.int .i64 (j : Int)) (hF.ol 16 (by kernel_rfl)) rfl
                  · intro a1 w1 hG hF
                    obtain ⟨_, e1, rfl⟩ := hF.dp 1 96 (by kernel_rfl)
                    obtain ⟨_, e2, rfl⟩ := hF.dp 2 97 (by kernel_rfl)
                    exact s_is rfl (wants0 rfl) _ rfl (by simp only [execOp, e1, e2]; go_simp; try (intro h; omega))
                  · intro a1 w1 hG hF
                    obtain ⟨_, e1, rfl⟩ := hF.dp 3 98 (by kernel_rfl)
                    exact s_wp rfl (wants0 rfl) (wp_load_mid _ _ rfl bK (j * 32) e1 (encN y) _ (((Gr.drew wp).trans hG).range rgK) Tryd.underlying51 rfl (infoN y) ⟨_, rfl, rfl, Gr.refl _⟩)
                  · intro a1 w1 hG hF
                    exact s_old rfl (wants0 rfl) (.tmp 4) (.inr rfl) (.pointer (some ⟨g', 0, none⟩)) (hF.ol 4 (by kernel_rfl)) rfl
                  · intro a1 w1 hG hF
                    exact s_old rfl (wants0 rfl) (.tmp 14) (.inr rfl) (.slice (some ⟨bK, 0, none⟩) m7 c7) (hF.ol 14 (by kernel_rfl)) rfl
                  · intro a1 w1 hG hF
                    exact s_old rfl (wants0 rfl) (.tmp 16) (.inr rfl) (.int .i64 (j : Int)) (hF.ol 16 (by kernel_rfl)) rfl
                  · intro a1 w1 hG hF
                    obtain ⟨_, e1, rfl⟩ := hF.dp 6 101 (by kernel_rfl)
                    obtain ⟨_, e2, rfl⟩ := hF.dp 7 102 (by kernel_rfl)
                    exact s_is rfl (wants0 rfl) _ rfl (by simp only [execOp, e1, e2]; go_simp; try (intro h; omega))
                  · intro a1 w1 hG hF
                    obtain ⟨_, e1, rfl⟩ := hF.dp 8 103 (by kernel_rfl)
                    exact s_wp rfl (wants0 rfl) (wp_load_mid _ _ rfl bK (j * 32) e1 (encN y) _ (((Gr.drew wp).trans hG).range rgK) Tryd.underlying51 rfl (infoN y) ⟨_, rfl, rfl, Gr.refl _⟩)
                  · intro a1 w1 hG hF
                    obtain ⟨_, e1, rfl⟩ := hF.dp 5 100 (by kernel_rfl)
                    obtain ⟨_, e2, rfl⟩ := hF.dp 9 104 (by kernel_rfl)
                    exact s_call rfl (wants0 rfl) _ rfl _ _ (by simp only [execOp, resolve, invoke, List.map_toArray, List.map_cons, List.map_nil, e1, e2]; go_simp) ((HGet.out w1 ((Gr.drew wp).trans hG)).mono fun e w2 ⟨he, hb⟩ => ⟨_, he, rfl, hb⟩)
                · intro vs w1 hG hf
                  have y0 : vs 0 = .pointer (some ⟨g, 0, none⟩) := hf.1
                  have y4 : vs 4 = by32 y.1 := hf.2.2.2.2.1
                  have y10 : vs 10 = by32 G := hf.2.2.2.2.2.2.2.2.2.2.1
                  clear hf
                  simp only [List.take_succ_cons, List.take_zero, List.drop_succ_cons, List.drop_zero, putAll, Nat.zero_add, Nat.reduceAdd, y0, y4, y10]
                  have hG1 := (Gr.drew wp).trans hG
                  have hSet := set_is (HT2.out.gr hG1) (by omega : n5 + m5 + j ≤ 9000) y ⟨G, hGl⟩ HAP.out.hg HAP.out.hb (Nat.le_trans hB8 hG1.size) (Glob.gr hG1 (gw.keep HW8.out gl)) gl
                  have HSet := Lib.hid hSet
                  clear hSet y0 y4 y10
                  unfold wpList
                  go_simp
                  refine .inl (HSet.out.mono ?_)
                  rintro e w9 ⟨rfl, hT9, hTn9⟩
                  have hR9 : LaidR g b B (n5 + m5) m7 T1 S (namesR S x) w7 (.int .i64 ((j : Int) + 1)) w9 := ⟨j + 1, _, by omega, by simp, hT9, Laid.step HF4.out.nb HLA.out HY.out HG.out, HTN2.out.trans ((Tn.of_gr hG1).trans hTn9)⟩
                  clear hT9 hTn9 HSet hG1 hG
                  unfold wpList
                  go_simp
                  go_wp2_with fail
                  exact ⟨hR9, by simp only [intOf]; omega⟩
              · obtain rfl : j = m7 := by omega
                have c2 : ¬ (j : Int) < (j : Int) := by omega
                have hLa := HLA.out
                rw [List.take_of_length_le (Nat.le_of_eq HM7.out.symm)] at hLa
                have hR9 : SelfR g b B q R S w4 (.int .i64 ((i : Int) + 1)) wr := ⟨i + 1, n5 + m5 + j, T2, by omega, by simp, HT2.out, by omega, HHf.out.step HX.out HTr.out.sorted HF4.out.tb.sorted HGO.out hLa, HTn7.out.trans HTN2.out⟩
                clear hLa HTr HTn7 HT7 HGO HHf HN7 HM7 hB7 HT2 HLA HTN2
                go_wp2_with fail
                exact ⟨hR9, by simp only [intOf]; omega⟩
      · obtain rfl : i = q := by omega
        have c1 : ¬ (i : Int) < (i : Int) := by omega
        go_wp2_with fail
        go_meet
        exact ⟨i, n5, T, by omega, rfl, HTr.out, hn5, HHf.out, HTn.out⟩
  case rest =>
    obtain ⟨i, n5, T, hi, hik, hTr, hn5, hHf, hTn⟩ := hcut
    obtain rfl : q = i := by injection hik with _ hik; omega
    rw [List.take_of_length_le (Nat.le_of_eq HQ.out.symm)] at hHf
    have hBc : B ≤ wc.heap.size := Nat.le_trans hB4 hTn.size
    have hwc : Below B w wc := Below.trans hw4 (hTn.below hB4)
    obtain ⟨D, hD⟩ : ∃ D, D = nodeR T 4 0 := ⟨_, rfl⟩
    obtain ⟨E, hE⟩ : ∃ E, E = nodeR S 4 0 := ⟨_, rfl⟩
    have hDl : D.length = 32 := by rw [hD]; exact nodeR_length _ _ _
    have hEl : E.length = 32 := by rw [hE]; exact nodeR_length _ _ _
    have HRa : Hid (Calls Tryd.prog 20 #[.pointer (some ⟨g, 0, none⟩)] wc fun e w' => e = .returned (by32 D) ∧ Gr wc w') := Lib.hid (by rw [hD]; exact root_is hTr)
    have HRb : Hid (∀ w1, Gr wc w1 → Calls Tryd.prog 20 #[.pointer (some ⟨g', 0, none⟩)] w1 fun e w' => e = .returned (by32 E) ∧ Gr w1 w') := Lib.hid (fun w1 h1 => by rw [hE]; exact root_is ((HF4.out.tb.other hTn HAP.out.gg.symm HAP.out.bb.symm).gr h1))
    have hra : RT B wc p R := HF4.out.ra.tree hTn
    have hrb : RT B wc p' S := HF4.out.rb.tree hTn
    have HRA := Lib.hid hra
    have HRB := Lib.hid hrb
    have mk2 : True := trivial
    by_cases hDE : D = E
    · subst hDE
      clear hTr hHf hTn hD hE hra hrb hik hi hn5 H04
      go_wp2_with first
        | (clear mk2; go_at_call 20; refine HRa.out.mono ?_; rintro e w9 ⟨rfl, hG9⟩)
        | (go_at_call 20; refine (HRb.out _ hG9).mono ?_; rintro e w10 ⟨rfl, hG10⟩)
        | (refine wpList_valW rfl (.bool true) _ (run_eqA32 (x := .tmp 108) (y := .tmp 110) (D := D) hDl rfl rfl) ?_)
      go_ret
      exact ⟨rfl, Below.trans hwc (Below.mono (Gr.trans hG9 hG10) hBc)⟩
    · have hbad := bad_there HF4.out.ta.sorted HF4.out.tb.sorted hTr.sorted hHf (by rw [← hD, ← hE]; exact hDE)
      have HBAD := Lib.hid hbad
      have HDE : Hid (false = (D == E)) := Lib.hid (beq_false_of_ne hDE).symm
      clear hTr hHf hTn hD hE hra hrb hik hi hn5 H04 hDE hbad
      go_upto_region 24 with first
        | (clear mk2; go_at_call 20; refine HRa.out.mono ?_; rintro e w9 ⟨rfl, hG9⟩)
        | (go_at_call 20; refine (HRb.out _ hG9).mono ?_; rintro e w10 ⟨rfl, hG10⟩)
        | (refine wpList_valW rfl (.bool false) _ (by rw [HDE.out]; exact run_eqD32 (x := .tmp 108) (y := .tmp 110) hDl hEl rfl rfl) ?_)
      have hGc := hG9.trans hG10
      have HRA2 := Lib.hid (HRA.out.gr hGc)
      have HRB2 := Lib.hid (HRB.out.gr hGc)
      have hwt : Below B w w10 := Below.trans hwc (Below.mono hGc hBc)
      have hBt : B ≤ w10.heap.size := Nat.le_trans hBc hGc.size
      have hs0 : SeekR R S w10 (.int .i64 0) w10 := by
        obtain ⟨c0, hc0⟩ := HBAD.out
        exact ⟨0, by omega, rfl, ⟨c0, Nat.zero_le _, hc0⟩, Gr.refl _⟩
      have HS0 := Lib.hid hs0
      clear hG9 hG10 HRA HRB HRa HRb hGc hs0 HBAD hwc hBc hw4 hB4 gw4
      go_loopw [17] (fun k wr => SeekR R S w10 k wr) (fun k _ => 256 - (intOf k).toNat)
      case atStart => exact HS0.out
      case round =>
        obtain ⟨i, hi, rfl, hbd, hGr⟩ := SeekR.out hrel
        clear hrel HS0
        have HBD := Lib.hid hbd
        clear hbd
        by_cases hi256 : i < 256
        · have c3 : (i : Int) < 256 := by omega
          have HRA3 := Lib.hid (HRA2.out.gr hGr)
          have HRB3 := Lib.hid (HRB2.out.gr hGr)
          have hwr : Below B w wr := Below.trans hwt (Below.mono hGr hBt)
          have hBr : B ≤ wr.heap.size := Nat.le_trans hBt hGr.size
          obtain ⟨wl, hwl⟩ : ∃ w, w = wr := ⟨_, rfl⟩
          rw [← hwl] at hGr HRA3 HRB3 hwr hBr ⊢
          clear hwl
          have HNEXT : Hid (¬ BadL R S i → ∀ w1, Gr wl w1 → SeekR R S w10 (.int .i64 ((i : Int) + 1)) w1) := Lib.hid (fun hnb w1 h1 => ⟨i + 1, by omega, by simp, by
            obtain ⟨c0, h1, h2⟩ := HBD.out
            refine ⟨c0, ?_, h2⟩
            rcases Nat.lt_or_eq_of_le h1 with h3 | h3
            · exact h3
            · subst h3
              exact absurd h2 hnb, hGr.trans h1⟩)
          go_upto_region 28 with fail
          go_loopw [18, 19] (fun v k wq => PathR R S i wl v k wq) (fun _ k _ => (intOf k + 1).toNat)
          case atStart => exact ⟨0, by omega, by simp, rfl, fun j hj => absurd hj (by omega), Gr.refl _⟩
          case round =>
            obtain ⟨h, hh, hv, hk, hun, hGq⟩ := PathR.out hrel
            clear hrel
            obtain ⟨a, ha⟩ : ∃ a : Nat, a = i / 4 ^ h := ⟨_, rfl⟩
            rw [← ha] at hv
            have HUN := Lib.hid hun
            have HA := Lib.hid ha
            subst hv hk
            clear hun ha
            by_cases h5 : h = 5
            · subst h5
              have hnb : ¬ BadL R S i := fun ⟨_, _, kk, hkk, he⟩ => HUN.out kk (by omega) he
              have HNB := Lib.hid hnb
              clear hnb
              have hR9 := HNEXT.out HNB.out _ hGq
              clear HNB hGq
              go_wp2_with fail
              exact ⟨hR9, by simp only [intOf]; omega⟩
            · have hh4 : h ≤ 4 := by omega
              have ch : (0 : Int) ≤ 4 - (h : Int) := by omega
              have ha256 : a < 256 := by rw [HA.out]; exact Nat.lt_of_le_of_lt (Nat.div_le_self _ _) hi256
              have hap := apart_any (HRA3.out.gr hGq) (HRB3.out.gr hGq) (by omega) (by omega) i
              by_cases hsm : inLeaf R i = inLeaf S i
              · rw [decide_eq_true hsm] at hap
                have HAp := Lib.hid hap
                have HNB : Hid (¬ BadL R S i) := Lib.hid (fun hb => hb.2.1 hsm)
                clear hap hsm
                go_wp2_with (go_at_call 11; refine HAp.out.mono ?_; rintro e w11 ⟨rfl, hG11⟩)
                exact ⟨HNEXT.out HNB.out _ (hGq.trans hG11), by simp only [intOf]; omega⟩
              · rw [decide_eq_false hsm] at hap
                have HAp := Lib.hid hap
                obtain ⟨D1, hD1⟩ : ∃ D, D = nodeR R h a := ⟨_, rfl⟩
                obtain ⟨D2, hD2⟩ : ∃ D, D = nodeR S h a := ⟨_, rfl⟩
                have halt : a < 4 ^ (4 - h) := by
                  rw [HA.out]
                  refine Nat.div_lt_of_lt_mul ?_
                  rw [← Nat.pow_add, show h + (4 - h) = 4 by omega]
                  exact hi256
                have hlv : ((4 - h : Nat) : Int) = 4 - (h : Int) := by omega
                have HN1 : Hid (∀ w1, Gr wr w1 → Calls Tryd.prog 15 #[.pointer (some ⟨p, 0, none⟩), .int .i64 (4 - (h : Int)), .int .i64 (a : Int)] w1 fun e w' => e = .returned (.string ⟨D1.toArray⟩) ∧ Gr w1 w') := Lib.hid (fun w1 h1 => by
                  have h2 := refNode_any (by omega) h hh4 a halt w1 (HRA3.out.gr (hGq.trans h1))
                  rw [hlv, ← hD1] at h2
                  exact h2)
                have HN2 : Hid (∀ w1, Gr wr w1 → Calls Tryd.prog 15 #[.pointer (some ⟨p', 0, none⟩), .int .i64 (4 - (h : Int)), .int .i64 (a : Int)] w1 fun e w' => e = .returned (.string ⟨D2.toArray⟩) ∧ Gr w1 w') := Lib.hid (fun w1 h1 => by
                  have h2 := refNode_any (by omega) h hh4 a halt w1 (HRB3.out.gr (hGq.trans h1))
                  rw [hlv, ← hD2] at h2
                  exact h2)
                have HD1 := Lib.hid hD1
                have HD2 := Lib.hid hD2
                have mk3 : True := trivial
                clear hap hsm hD1 hD2 halt hlv
                by_cases hDD : D1 = D2
                · have hb : (D1 == D2) = true := by simpa using hDD
                  clear hDD
                  go_wp2_with first
                    | (go_at_call 11; refine HAp.out.mono ?_; rintro e w11 ⟨rfl, hG11⟩)
                    | (clear mk3; go_at_call 15; refine (HN1.out _ hG11).mono ?_; rintro e w12 ⟨rfl, hG12⟩)
                    | (go_at_call 15; refine (HN2.out _ (hG11.trans hG12)).mono ?_; rintro e w13 ⟨rfl, hG13⟩)
                  go_ret
                  exact ⟨rfl, Below.trans hwr (Below.mono (hGq.trans (hG11.trans (hG12.trans hG13))) hBr)⟩
                · have hb : (D1 == D2) = false := beq_false_of_ne hDD
                  have HR9 : Hid (∀ w1, Gr wr w1 → PathR R S i wl (.int .i64 ((a : Int) / 4)) (.int .i64 (4 - (h : Int) - 1)) w1) := Lib.hid (fun w1 h1 => ⟨h + 1, by omega, by rw [HA.out, Nat.pow_succ, ← Nat.div_div_eq_div_mul]; simp, by congr 1; omega, fun j hj => by
                    rcases Nat.lt_or_eq_of_le (Nat.lt_succ_iff.1 hj) with h2 | h2
                    · exact HUN.out j h2
                    · subst h2
                      rw [← HA.out, ← HD1.out, ← HD2.out]
                      exact hDD, hGq.trans h1⟩)
                  clear hDD
                  go_wp2_with first
                    | (go_at_call 11; refine HAp.out.mono ?_; rintro e w11 ⟨rfl, hG11⟩)
                    | (clear mk3; go_at_call 15; refine (HN1.out _ hG11).mono ?_; rintro e w12 ⟨rfl, hG12⟩)
                    | (go_at_call 15; refine (HN2.out _ (hG11.trans hG12)).mono ?_; rintro e w13 ⟨rfl, hG13⟩)
                  exact ⟨HR9.out _ (hG11.trans (hG12.trans hG13)), by simp only [intOf]; omega⟩
        · exfalso
          obtain ⟨c0, h1, h2⟩ := HBD.out
          have := h2.1
          omega
end Go.Proofs.YthpgldfjcancjaaDoor
