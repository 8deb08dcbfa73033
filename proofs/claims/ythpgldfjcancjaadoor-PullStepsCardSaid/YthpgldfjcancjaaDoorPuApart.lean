/- The walk of the reference's Apart. No condition. -/
import Derived.Test.YthpgldfjcancjaaDoorMkRefT
import Derived.Test.YthpgldfjcancjaaDoorPuUnl
import Derived.BigQuiet
namespace Go.Proofs.YthpgldfjcancjaaDoor
open Go.RowKit
/-- A loop that gathers a leaf's rows. -/
def ApR (R : Rw) (a : Nat) (w0 : World) (v k : Value) (w : World) : Prop := ∃ (i m : Nat) (A : Option Addr) (c : Nat), i ≤ R.length ∧ k = .int .i64 (i : Int) ∧ Hid (m = (inLeaf (R.take i) a).length) ∧ v = .slice A m c ∧ w.ownsRow w0.heap.size 63 2 (.slice A m c) m (rowsC (inLeaf (R.take i) a)) ∧ Gr w0 w
theorem ApR.out {R : Rw} {a : Nat} {w0 : World} {v k : Value} {w : World} (h : ApR R a w0 v k w) : ∃ (i m : Nat) (A : Option Addr) (c : Nat), i ≤ R.length ∧ k = .int .i64 (i : Int) ∧ Hid (m = (inLeaf (R.take i) a).length) ∧ v = .slice A m c ∧ w.ownsRow w0.heap.size 63 2 (.slice A m c) m (rowsC (inLeaf (R.take i) a)) ∧ Gr w0 w := h
theorem not_dec {p : Prop} [Decidable p] (h : ¬ p) : (!decide p) = true := by simp [h]
theorem not_dec0 {p : Prop} [Decidable p] (h : p) : (!decide p) = false := by simp [h]
theorem row_ne {p q : Nm × Nm} (h : ¬ p = q) : ¬ (p.1.1 = q.1.1 ∧ p.2.1 = q.2.1) := fun e => h (Prod.ext (Subtype.ext e.1) (Subtype.ext e.2))
set_option maxRecDepth 100000 in
set_option maxHeartbeats 8000000 in
theorem apart_any {w : World} {B p p' : Nat} {R S : Rw} (hR : RT B w p R) (hS : RT B w p' S) (hRl : R.length ≤ 1000) (hSl : S.length ≤ 1000) (a : Nat) :
    Calls Tryd.prog 11 #[.pointer (some ⟨p, 0, none⟩), .pointer (some ⟨p', 0, none⟩), .int .i64 (a : Int)] w fun e w' => e = .returned (.bool (!decide (inLeaf R a = inLeaf S a))) ∧ Gr w w' := by
  have HRl := Lib.hid hRl
  have HSl := Lib.hid hSl
  obtain ⟨AR, cR, hAR, hOR⟩ := hR.mem
  obtain ⟨AS, cS, hAS, hOS⟩ := hS.mem
  obtain ⟨nR, hnR⟩ : ∃ n, n = R.length := ⟨_, rfl⟩
  obtain ⟨nS, hnS⟩ : ∃ n, n = S.length := ⟨_, rfl⟩
  rw [← hnR] at hAR hOR hRl
  rw [← hnS] at hAS hOS hSl
  have HNR := Lib.hid hnR
  have HNS := Lib.hid hnS
  clear hnR hnS hR hS
  go_enter Tryd.func11, Tryd.ntmps11
  go_upto_region 3 with fail
  go_loopw [7, 9] (fun v k wr => ApR R a w v k wr) (fun _ k _ => nR - (intOf k).toNat)
  case atStart => exact ⟨0, 0, none, 0, by omega, rfl, Lib.hid rfl, rfl, ⟨rfl, .inl ⟨rfl, rfl⟩⟩, Gr.refl _⟩
  case round =>
    obtain ⟨i, m, A, c, hi, rfl, HM, rfl, ho, hG⟩ := ApR.out hrel
    rw [← HNR.out] at hi
    clear hrel
    have hm1000 : m ≤ 1000 := by
      have h1 := inLeaf_length (R.take i) a
      have h2 : (R.take i).length ≤ i := by rw [List.length_take]; omega
      have h3 := HM.out
      omega
    have c0r : wr.cell? ⟨p, 0, none⟩ = some (.slice AR nR cR) := (hAR.gr hG).cell rfl
    by_cases hlt : i < nR
    · have hlR : i < R.length := by rw [← HNR.out]; exact hlt
      obtain ⟨r, hr⟩ : ∃ r, R[i]? = some r := ⟨_, List.getElem?_eq_getElem hlR⟩
      obtain ⟨gN, rfl, hgN, hrng⟩ := own_at2 hOR hlt hr
      obtain ⟨sX, hsX⟩ : ∃ s : ByteArray, s = ⟨r.1.1.toArray⟩ := ⟨_, rfl⟩
      obtain ⟨sY, hsY⟩ : ∃ s : ByteArray, s = ⟨r.2.1.toArray⟩ := ⟨_, rfl⟩
      have hXs : sX.size = 32 := (str_len hsX).trans r.1.2
      have HRC : Hid (rowC r = [.string sX, .string sY]) := Lib.hid (by rw [hsX, hsY]; rfl)
      rw [HRC.out] at hrng
      have rgq := hG.range hrng
      have kcq : wr.cell? ⟨gN, i * 2, none⟩ = some (.string sX) := rgq 0 _ rfl
      have dcq : wr.cell? ⟨gN, i * 2 + 1, none⟩ = some (.string sY) := rgq 1 _ rfl
      have hlti : (i : Int) < (nR : Int) := by omega
      have hx0 := first_byte hsX
      clear hsX hsY
      have hle : leafOf r.1 < 256 := leafOf_lt r.1
      have hwr : wrap64 (leafOf r.1 : Int) = (leafOf r.1 : Int) := by unfold wrap64; omega
      by_cases hla : leafOf r.1 = a
      · have hcmp : ∀ h, (wrap64 ((sX[0]'h).toNat : Int) == (a : Int)) = true := fun h => by rw [hx0 h, hwr, hla]; simp
        have hT := inLeaf_take (a := a) hr
        rw [if_pos hla] at hT
        have HT := Lib.hid hT
        clear hx0 hwr hla hle hT
        have hAn : Arr (wr.alloc (.cells #[.string sX, .string sY] 63)) wr.heap.size 63 [.string sX, .string sY] := Arr.newAt rfl rfl
        have hOn := Gr.own (Gr.alloc wr (.cells #[.string sX, .string sY] 63)) ho
        have hG2 := hG.trans (Gr.alloc wr (.cells #[.string sX, .string sY] 63))
        have hBn := hG2.size
        have hm100 : m ≤ 100000 := by omega
        have HE : Hid (∀ A3 c3 w3, w3.ownsRow w.heap.size 63 2 (.slice A3 (m + 1) c3) (m + 1) (rowsC (inLeaf (R.take i) a ++ [r])) → Gr w w3 → ApR R a w (.slice A3 (m + 1) c3) (.int .i64 ((i : Int) + 1)) w3) := Lib.hid (fun A3 c3 w3 h3 hG3 =>
          ⟨i + 1, m + 1, A3, c3, by omega, by simp, Lib.hid (by rw [HT.out, List.length_append, HM.out]; rfl), rfl, by rw [HT.out]; exact h3, hG3⟩)
        clear ho hG
        go_wp2_with first
          | (refine wpList_load_mid rfl _ _ rfl gN _ rfl [.string sX, .string sY] _ (rangeEq rgq (by omega)) Tryd.underlying63 rfl (by kernel_rfl) ?_)
          | (at_builtin; go_must (refine wpList_appRow rfl (.tmp 33) (.tmp 41) rfl rfl hOn r HRC.out wr.heap.size rfl hAn hm100 hBn ?_; intro A3 c3 w3 hO3 hT3; have hR9 := HE.out A3 c3 w3 hO3 (Below.trans hG2 (hT3.below hBn)); clear hO3 hT3))
        exact ⟨hR9, by simp only [intOf]; omega⟩
      · have hcmp : ∀ h, (wrap64 ((sX[0]'h).toNat : Int) == (a : Int)) = false := fun h => by rw [hx0 h, hwr]; exact beq_false_of_ne (fun e => hla (Int.ofNat.inj e))
        have hT := inLeaf_take (a := a) hr
        rw [if_neg hla, List.append_nil] at hT
        have hR9 : ApR R a w (.slice A m c) (.int .i64 ((i : Int) + 1)) wr := ⟨i + 1, m, A, c, by omega, by simp, Lib.hid (by rw [hT]; exact HM.out), rfl, by rw [hT]; exact ho, hG⟩
        clear hx0 hwr hla hle hT ho hG
        go_wp2_with fail
        exact ⟨hR9, by simp only [intOf]; omega⟩
    · obtain rfl : nR = i := by omega
      have hlti : ¬ (nR : Int) < (nR : Int) := by omega
      have HL : Hid (m = (inLeaf R a).length) := Lib.hid (by
        have h1 := HM.out
        rw [List.take_of_length_le (Nat.le_of_eq HNR.out.symm)] at h1
        exact h1)
      rw [List.take_of_length_le (Nat.le_of_eq HNR.out.symm)] at ho
      clear HM hlt hi
      go_upto_region 8 with fail
      obtain ⟨w1, hw1⟩ : ∃ w, w = wr := ⟨_, rfl⟩
      rw [← hw1] at ho hG c0r ⊢
      clear hw1
      have hAS1 := hAS.gr hG
      have hOS1 := Gr.own hG hOS
      obtain ⟨mx, Ax, cx, HLx, hox⟩ : ∃ mx Ax cx, mx = m ∧ Ax = A ∧ cx = c := ⟨m, A, c, rfl, rfl, rfl⟩
      subst HLx
      obtain ⟨rfl, rfl⟩ := hox
      have HLX := HL
      have hoX := ho
      have hGX := hG
      have hmX := hm1000
      clear HL ho hG hm1000 c0r hAR hOR hAS hOS
      go_loopw [8, 10] (fun v k wr => ApR S a w1 v k wr) (fun _ k _ => nS - (intOf k).toNat)
      case atStart => exact ⟨0, 0, none, 0, by omega, rfl, Lib.hid rfl, rfl, ⟨rfl, .inl ⟨rfl, rfl⟩⟩, Gr.refl _⟩
      case round =>
        obtain ⟨i, m, A, c, hi, rfl, HM, rfl, ho, hG⟩ := ApR.out hrel
        rw [← HNS.out] at hi
        clear hrel
        have hm1000 : m ≤ 1000 := by
          have h1 := inLeaf_length (S.take i) a
          have h2 : (S.take i).length ≤ i := by rw [List.length_take]; omega
          have h3 := HM.out
          omega
        have c0r : wr.cell? ⟨p', 0, none⟩ = some (.slice AS nS cS) := (hAS1.gr hG).cell rfl
        by_cases hlt : i < nS
        · have hlR : i < S.length := by rw [← HNS.out]; exact hlt
          obtain ⟨r, hr⟩ : ∃ r, S[i]? = some r := ⟨_, List.getElem?_eq_getElem hlR⟩
          obtain ⟨gN, rfl, hgN, hrng⟩ := own_at2 hOS1 hlt hr
          obtain ⟨sX, hsX⟩ : ∃ s : ByteArray, s = ⟨r.1.1.toArray⟩ := ⟨_, rfl⟩
          obtain ⟨sY, hsY⟩ : ∃ s : ByteArray, s = ⟨r.2.1.toArray⟩ := ⟨_, rfl⟩
          have hXs : sX.size = 32 := (str_len hsX).trans r.1.2
          have HRC : Hid (rowC r = [.string sX, .string sY]) := Lib.hid (by rw [hsX, hsY]; rfl)
          rw [HRC.out] at hrng
          have rgq := hG.range hrng
          have kcq : wr.cell? ⟨gN, i * 2, none⟩ = some (.string sX) := rgq 0 _ rfl
          have dcq : wr.cell? ⟨gN, i * 2 + 1, none⟩ = some (.string sY) := rgq 1 _ rfl
          have hlti : (i : Int) < (nS : Int) := by omega
          have hx0 := first_byte hsX
          clear hsX hsY
          have hle : leafOf r.1 < 256 := leafOf_lt r.1
          have hwr : wrap64 (leafOf r.1 : Int) = (leafOf r.1 : Int) := by unfold wrap64; omega
          by_cases hla : leafOf r.1 = a
          · have hcmp : ∀ h, (wrap64 ((sX[0]'h).toNat : Int) == (a : Int)) = true := fun h => by rw [hx0 h, hwr, hla]; simp
            have hT := inLeaf_take (a := a) hr
            rw [if_pos hla] at hT
            have HT := Lib.hid hT
            clear hx0 hwr hla hle hT
            have hAn : Arr (wr.alloc (.cells #[.string sX, .string sY] 63)) wr.heap.size 63 [.string sX, .string sY] := Arr.newAt rfl rfl
            have hOn := Gr.own (Gr.alloc wr (.cells #[.string sX, .string sY] 63)) ho
            have hG2 := hG.trans (Gr.alloc wr (.cells #[.string sX, .string sY] 63))
            have hBn := hG2.size
            have hm100 : m ≤ 100000 := by omega
            have HE : Hid (∀ A3 c3 w3, w3.ownsRow w1.heap.size 63 2 (.slice A3 (m + 1) c3) (m + 1) (rowsC (inLeaf (S.take i) a ++ [r])) → Gr w1 w3 → ApR S a w1 (.slice A3 (m + 1) c3) (.int .i64 ((i : Int) + 1)) w3) := Lib.hid (fun A3 c3 w3 h3 hG3 =>
              ⟨i + 1, m + 1, A3, c3, by omega, by simp, Lib.hid (by rw [HT.out, List.length_append, HM.out]; rfl), rfl, by rw [HT.out]; exact h3, hG3⟩)
            clear ho hG
            go_wp2_with first
              | (refine wpList_load_mid rfl _ _ rfl gN _ rfl [.string sX, .string sY] _ (rangeEq rgq (by omega)) Tryd.underlying63 rfl (by kernel_rfl) ?_)
              | (at_builtin; go_must (refine wpList_appRow rfl (.tmp 64) (.tmp 72) rfl rfl hOn r HRC.out wr.heap.size rfl hAn hm100 hBn ?_; intro A3 c3 w3 hO3 hT3; have hR9 := HE.out A3 c3 w3 hO3 (Below.trans hG2 (hT3.below hBn)); clear hO3 hT3))
            exact ⟨hR9, by simp only [intOf]; omega⟩
          · have hcmp : ∀ h, (wrap64 ((sX[0]'h).toNat : Int) == (a : Int)) = false := fun h => by rw [hx0 h, hwr]; exact beq_false_of_ne (fun e => hla (Int.ofNat.inj e))
            have hT := inLeaf_take (a := a) hr
            rw [if_neg hla, List.append_nil] at hT
            have hR9 : ApR S a w1 (.slice A m c) (.int .i64 ((i : Int) + 1)) wr := ⟨i + 1, m, A, c, by omega, by simp, Lib.hid (by rw [hT]; exact HM.out), rfl, by rw [hT]; exact ho, hG⟩
            clear hx0 hwr hla hle hT ho hG
            go_wp2_with fail
            exact ⟨hR9, by simp only [intOf]; omega⟩
        · obtain rfl : nS = i := by omega
          have hlti : ¬ (nS : Int) < (nS : Int) := by omega
          have HL : Hid (m = (inLeaf S a).length) := Lib.hid (by
            have h1 := HM.out
            rw [List.take_of_length_le (Nat.le_of_eq HNS.out.symm)] at h1
            exact h1)
          rw [List.take_of_length_le (Nat.le_of_eq HNS.out.symm)] at ho
          clear HM hlt hi
          have hoX2 := Gr.own hG hoX
          have hG2 := hGX.trans hG
          by_cases hmm : mx = m
          · have hmi : (mx : Int) = (m : Int) := by omega
            have HLXm : Hid (m = (inLeaf R a).length) := Lib.hid (by rw [← hmm]; exact HLX.out)
            go_upto_region 15 with fail
            subst hmm
            clear hoX hGX hG c0r
            obtain ⟨w2, hw2⟩ : ∃ w, w = wr := ⟨_, rfl⟩
            rw [← hw2] at ho hoX2 hG2 ⊢
            clear hw2
            go_loopw [11] (fun k wr => ∃ i : Nat, i ≤ mx ∧ k = .int .i64 (i : Int) ∧ Hid ((inLeaf R a).take i = (inLeaf S a).take i) ∧ Gr w2 wr) (fun k _ => mx - (intOf k).toNat)
            case atStart => exact ⟨0, by omega, rfl, Lib.hid (by simp), Gr.refl _⟩
            case round =>
              obtain ⟨i, hi, rfl, HTK, hG⟩ := hrel
              by_cases hlt : i < mx
              · have hlti : (i : Int) < (mx : Int) := by omega
                obtain ⟨r, hr⟩ : ∃ r, (inLeaf R a)[i]? = some r := ⟨_, List.getElem?_eq_getElem (by rw [← HLX.out]; exact hlt)⟩
                obtain ⟨s, hs⟩ : ∃ s, (inLeaf S a)[i]? = some s := ⟨_, List.getElem?_eq_getElem (by rw [← HL.out]; exact hlt)⟩
                obtain ⟨g1, hg1e, _, hrng1⟩ := own_at2 hoX2 hlt hr
                obtain ⟨g2, hg2e, _, hrng2⟩ := own_at2 ho hlt hs
                subst hg1e hg2e
                obtain ⟨sX, hsX⟩ : ∃ s : ByteArray, s = ⟨r.1.1.toArray⟩ := ⟨_, rfl⟩
                obtain ⟨sY, hsY⟩ : ∃ s : ByteArray, s = ⟨r.2.1.toArray⟩ := ⟨_, rfl⟩
                obtain ⟨tX, htX⟩ : ∃ t : ByteArray, t = ⟨s.1.1.toArray⟩ := ⟨_, rfl⟩
                obtain ⟨tY, htY⟩ : ∃ t : ByteArray, t = ⟨s.2.1.toArray⟩ := ⟨_, rfl⟩
                have rg1 : wr.rangeAt g1 (i * 2) [.string sX, .string sY] := by
                  rw [hsX, hsY]
                  exact hG.range hrng1
                have rg2 : wr.rangeAt g2 (i * 2) [.string tX, .string tY] := by
                  rw [htX, htY]
                  exact hG.range hrng2
                have HRS : Hid (r = s ∨ ¬ r = s) := Lib.hid (Classical.em _)
                have hee : (r = s → sX = tX ∧ sY = tY) ∧ (¬ r = s → (sX.toList = tX.toList → ¬ sY.toList = tY.toList)) := by
                  refine ⟨fun e => by subst e; exact ⟨hsX.trans htX.symm, hsY.trans htY.symm⟩, fun hne e1 e2 => row_ne hne ?_⟩
                  rw [hsX, htX] at e1
                  rw [hsY, htY] at e2
                  exact ⟨by simpa using e1, by simpa using e2⟩
                have HEE := Lib.hid hee
                have HR := Lib.hid hr
                have HS := Lib.hid hs
                clear hr hs hrng1 hrng2 hsX hsY htX htY hee
                by_cases hrs : r = s
                · obtain ⟨e1, e2⟩ := HEE.out.1 hrs
                  have HRS2 := Lib.hid hrs
                  subst e1 e2
                  clear hrs HRS HEE
                  go_upto_region 17 with fail
                  refine wp_region_ssaL (by kernel_rfl) [IsV (.slice (some ⟨g1, 0, none⟩) mx cx), IsV (.int .i64 ((i : Nat) : Int)), IsV (.pointer (some ⟨g1, i * 2, none⟩)), IsV (.agg #[.string sX, .string sY]), IsV (.slice (some ⟨g2, 0, none⟩) mx c), IsV (.int .i64 ((i : Nat) : Int)), IsV (.pointer (some ⟨g2, i * 2, none⟩)), IsV (.agg #[.string sX, .string sY]), IsV (.bool false)] (by kernel_rfl) ?_ ?_ ?_
                  · intro φ hφ v w1 w2 h hg
                    simp only [List.mem_cons, List.not_mem_nil, or_false] at hφ
                    rcases hφ with rfl | rfl | rfl | rfl | rfl | rfl | rfl | rfl | rfl
                    all_goals first | exact h | exact RdV.gr h hg
                  · refine ⟨?_, ?_, ?_, ?_, ?_, ?_, ?_, ?_, ?_, trivial⟩
                    · intro a1 w1 hG hF
                      exact s_old rfl (wants0 rfl) (.tmp 7) (.inr rfl) (.slice (some ⟨g1, 0, none⟩) mx cx) (hF.ol 7 (by kernel_rfl)) rfl
                    · intro a1 w1 hG hF
                      exact s_old rfl (wants0 rfl) (.tmp 11) (.inr rfl) (.int .i64 ((i : Nat) : Int)) (hF.ol 11 (by kernel_rfl)) rfl
                    · intro a1 w1 hG hF
                      obtain ⟨_, e85, rfl⟩ := hF.dp 0 85 (by kernel_rfl)
                      obtain ⟨_, e86, rfl⟩ := hF.dp 1 86 (by kernel_rfl)
                      exact s_is rfl (wants0 rfl) _ rfl (by simp only [execOp, e85, e86]; go_simp; try (intro h; omega))
                    · intro a1 w1 hG hF
                      obtain ⟨_, e87, rfl⟩ := hF.dp 2 87 (by kernel_rfl)
                      exact s_wp rfl (wants0 rfl) (wp_load_mid _ _ rfl g1 (i * 2) e87 [.string sX, .string sY] _ (((Gr.drew wr).trans hG).range rg1) Tryd.underlying63 rfl (by kernel_rfl) ⟨_, rfl, rfl, Gr.refl _⟩)
                    · intro a1 w1 hG hF
                      exact s_old rfl (wants0 rfl) (.tmp 8) (.inr rfl) (.slice (some ⟨g2, 0, none⟩) mx c) (hF.ol 8 (by kernel_rfl)) rfl
                    · intro a1 w1 hG hF
                      exact s_old rfl (wants0 rfl) (.tmp 11) (.inr rfl) (.int .i64 ((i : Nat) : Int)) (hF.ol 11 (by kernel_rfl)) rfl
                    · intro a1 w1 hG hF
                      obtain ⟨_, e89, rfl⟩ := hF.dp 4 89 (by kernel_rfl)
                      obtain ⟨_, e90, rfl⟩ := hF.dp 5 90 (by kernel_rfl)
                      exact s_is rfl (wants0 rfl) _ rfl (by simp only [execOp, e89, e90]; go_simp; try (intro h; omega))
                    · intro a1 w1 hG hF
                      obtain ⟨_, e91, rfl⟩ := hF.dp 6 91 (by kernel_rfl)
                      exact s_wp rfl (wants0 rfl) (wp_load_mid _ _ rfl g2 (i * 2) e91 [.string sX, .string sY] _ (((Gr.drew wr).trans hG).range rg2) Tryd.underlying63 rfl (by kernel_rfl) ⟨_, rfl, rfl, Gr.refl _⟩)
                    · intro a1 w1 hG hF
                      obtain ⟨_, e88, rfl⟩ := hF.dp 3 88 (by kernel_rfl)
                      obtain ⟨_, e92, rfl⟩ := hF.dp 7 92 (by kernel_rfl)
                      exact s_is rfl (wants0 rfl) _ rfl (by simp only [execOp, e88, e92]; go_simp; skip)
                  · intro vs w1 hGw hf
                    have z93 : vs 8 = .bool false := hf.2.2.2.2.2.2.2.2.1
                    clear hf
                    simp only [putAll, Nat.zero_add, Nat.reduceAdd, z93]
                    have hG9 := hG.trans ((Gr.drew wr).trans hGw)
                    have hK9 : Hid ((inLeaf R a).take (i + 1) = (inLeaf S a).take (i + 1)) := Lib.hid (by rw [List.take_add_one, List.take_add_one, HTK.out, HR.out, HS.out, HRS2.out])
                    clear hG hGw
                    go_simp
                    go_wp2_with fail
                    exact ⟨⟨i + 1, by omega, by simp, hK9, hG9⟩, by simp only [intOf]; omega⟩
                · have HNE := Lib.hid (HEE.out.2 hrs)
                  have HX : Hid ((!decide (inLeaf R a = inLeaf S a)) = true) := Lib.hid (not_dec fun e => hrs (by
                    have h1 := HR.out
                    rw [e, HS.out] at h1
                    exact (Option.some.inj h1).symm))
                  clear hrs HRS HEE HR HS
                  go_upto_region 17 with fail
                  refine wp_region_ssaL (by kernel_rfl) [IsV (.slice (some ⟨g1, 0, none⟩) mx cx), IsV (.int .i64 ((i : Nat) : Int)), IsV (.pointer (some ⟨g1, i * 2, none⟩)), IsV (.agg #[.string sX, .string sY]), IsV (.slice (some ⟨g2, 0, none⟩) mx c), IsV (.int .i64 ((i : Nat) : Int)), IsV (.pointer (some ⟨g2, i * 2, none⟩)), IsV (.agg #[.string tX, .string tY]), IsV (.bool true)] (by kernel_rfl) ?_ ?_ ?_
                  · intro φ hφ v w1 w2 h hg
                    simp only [List.mem_cons, List.not_mem_nil, or_false] at hφ
                    rcases hφ with rfl | rfl | rfl | rfl | rfl | rfl | rfl | rfl | rfl
                    all_goals first | exact h | exact RdV.gr h hg
                  · refine ⟨?_, ?_, ?_, ?_, ?_, ?_, ?_, ?_, ?_, trivial⟩
                    · intro a1 w1 hG hF
                      exact s_old rfl (wants0 rfl) (.tmp 7) (.inr rfl) (.slice (some ⟨g1, 0, none⟩) mx cx) (hF.ol 7 (by kernel_rfl)) rfl
                    · intro a1 w1 hG hF
                      exact s_old rfl (wants0 rfl) (.tmp 11) (.inr rfl) (.int .i64 ((i : Nat) : Int)) (hF.ol 11 (by kernel_rfl)) rfl
                    · intro a1 w1 hG hF
                      obtain ⟨_, e85, rfl⟩ := hF.dp 0 85 (by kernel_rfl)
                      obtain ⟨_, e86, rfl⟩ := hF.dp 1 86 (by kernel_rfl)
                      exact s_is rfl (wants0 rfl) _ rfl (by simp only [execOp, e85, e86]; go_simp; try (intro h; omega))
                    · intro a1 w1 hG hF
                      obtain ⟨_, e87, rfl⟩ := hF.dp 2 87 (by kernel_rfl)
                      exact s_wp rfl (wants0 rfl) (wp_load_mid _ _ rfl g1 (i * 2) e87 [.string sX, .string sY] _ (((Gr.drew wr).trans hG).range rg1) Tryd.underlying63 rfl (by kernel_rfl) ⟨_, rfl, rfl, Gr.refl _⟩)
                    · intro a1 w1 hG hF
                      exact s_old rfl (wants0 rfl) (.tmp 8) (.inr rfl) (.slice (some ⟨g2, 0, none⟩) mx c) (hF.ol 8 (by kernel_rfl)) rfl
                    · intro a1 w1 hG hF
                      exact s_old rfl (wants0 rfl) (.tmp 11) (.inr rfl) (.int .i64 ((i : Nat) : Int)) (hF.ol 11 (by kernel_rfl)) rfl
                    · intro a1 w1 hG hF
                      obtain ⟨_, e89, rfl⟩ := hF.dp 4 89 (by kernel_rfl)
                      obtain ⟨_, e90, rfl⟩ := hF.dp 5 90 (by kernel_rfl)
                      exact s_is rfl (wants0 rfl) _ rfl (by simp only [execOp, e89, e90]; go_simp; try (intro h; omega))
                    · intro a1 w1 hG hF
                      obtain ⟨_, e91, rfl⟩ := hF.dp 6 91 (by kernel_rfl)
                      exact s_wp rfl (wants0 rfl) (wp_load_mid _ _ rfl g2 (i * 2) e91 [.string tX, .string tY] _ (((Gr.drew wr).trans hG).range rg2) Tryd.underlying63 rfl (by kernel_rfl) ⟨_, rfl, rfl, Gr.refl _⟩)
                    · intro a1 w1 hG hF
                      obtain ⟨_, e88, rfl⟩ := hF.dp 3 88 (by kernel_rfl)
                      obtain ⟨_, e92, rfl⟩ := hF.dp 7 92 (by kernel_rfl)
                      exact s_is rfl (wants0 rfl) _ rfl (by simp only [execOp, e88, e92]; go_simp; exact HNE.out)
                  · intro vs w1 hGw hf
                    have z93 : vs 8 = .bool true := hf.2.2.2.2.2.2.2.2.1
                    clear hf
                    simp only [putAll, Nat.zero_add, Nat.reduceAdd, z93]
                    have hG9 := hG2.trans (hG.trans ((Gr.drew wr).trans hGw))
                    clear hG hGw
                    go_simp
                    go_wp2_with fail
                    go_ret
                    rw [HX.out]
                    exact ⟨rfl, hG9⟩
              · have hlti : ¬ (i : Int) < (mx : Int) := by omega
                have hX : (!decide (inLeaf R a = inLeaf S a)) = false := not_dec0 (by
                  have h1 := HTK.out
                  rw [List.take_of_length_le (by rw [← HLX.out]; omega), List.take_of_length_le (by rw [← HL.out]; omega)] at h1
                  exact h1)
                have HX := Lib.hid hX
                clear hX
                go_wp2_with fail
                go_ret
                rw [HX.out]
                exact ⟨rfl, hG2.trans hG⟩
          · have hmi : ¬ (mx : Int) = (m : Int) := by omega
            have hX : (!decide (inLeaf R a = inLeaf S a)) = true := not_dec fun e => hmm (by rw [HLX.out, HL.out, e])
            have HX := Lib.hid hX
            clear hX
            go_wp2_with fail
            go_ret
            rw [HX.out]
            exact ⟨rfl, hG2⟩
end Go.Proofs.YthpgldfjcancjaaDoor
