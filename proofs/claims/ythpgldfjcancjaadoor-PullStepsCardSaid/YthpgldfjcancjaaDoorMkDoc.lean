/- The walk of the reference's DocSet. No condition. -/
import Derived.Test.YthpgldfjcancjaaDoorMkRef
import Derived.Deep.Cut
namespace Go.Proofs.YthpgldfjcancjaaDoor
open Go.RowKit
theorem own_base {w : World} {B B' : Nat} {e : TypeId} {size : Nat} {v : Value} {n : Nat} {xs : List Value} (h : w.ownsRow B' e size v n xs) (hB : B ≤ B') : w.ownsRow B e size v n xs := by
  refine ⟨h.1, ?_⟩
  rcases h.2 with h2 | ⟨g, cap, cur, e1, h1, h2⟩
  · exact .inl h2
  · exact .inr ⟨g, cap, cur, e1, Nat.le_trans hB h1, h2⟩
theorem fin_rt {w wr : World} {B p m c n c0 : Nat} {A A0 : Option Addr} {S R' : Rw} (hA : Arr wr p 57 [.slice A0 n c0]) (hBp : B ≤ p) (hB : B ≤ w.heap.size) (hO : wr.ownsRow w.heap.size 63 2 (.slice A m c) m (rowsC S)) (hG : Gr w wr) (hm : m = S.length) (hS : S = R') :
    RT B (wr.setCell ⟨p, 0, none⟩ (.slice A m c)) p R' ∧ Tn (rtT p) B w (wr.setCell ⟨p, 0, none⟩ (.slice A m c)) := by
  subst hS
  subst hm
  have hT : Tn (rtT p) B wr (wr.setCell ⟨p, 0, none⟩ (.slice A S.length c)) := Tn.cell hA hBp (fun C f => by simp [rtT]) 0 _
  exact ⟨⟨hBp, A, c, hA.set 0 _, own_base (own_tn hO hT (fun k C f => by simp [rtT])) hB⟩, (Tn.of_gr hG).trans hT⟩
/-- The loop over the rows. -/
def DocR (w0 : World) (R : Rw) (k d : Nm) (v6 v7 v8 : Value) (w : World) : Prop :=
  ∃ (i : Nat) (A : Option Addr) (c m : Nat) (S : Rw) (b : Bool), i ≤ R.length ∧ stD k d R i = (S, b) ∧ m = S.length ∧ v6 = .slice A m c ∧ v7 = .bool b ∧ v8 = .int .i64 (i : Int) ∧ w.ownsRow w0.heap.size 63 2 (.slice A m c) m (rowsC S) ∧ Gr w0 w
theorem DocR.out {w0 : World} {R : Rw} {k d : Nm} {v6 v7 v8 : Value} {w : World} (h : DocR w0 R k d v6 v7 v8 w) :
  ∃ (i : Nat) (A : Option Addr) (c m : Nat) (S : Rw) (b : Bool), i ≤ R.length ∧ stD k d R i = (S, b) ∧ m = S.length ∧ v6 = .slice A m c ∧ v7 = .bool b ∧ v8 = .int .i64 (i : Int) ∧ w.ownsRow w0.heap.size 63 2 (.slice A m c) m (rowsC S) ∧ Gr w0 w := h
set_option maxRecDepth 100000 in
set_option maxHeartbeats 8000000 in
theorem doc_any {w : World} {B p : Nat} {R : Rw} (h : RT B w p R) (hR : R.length ≤ 1000) (k d : Nm) (hB : B ≤ w.heap.size) :
    Calls Tryd.prog 22 #[.pointer (some ⟨p, 0, none⟩), .string ⟨k.1.toArray⟩, .string ⟨d.1.toArray⟩] w fun e w' => e = .returned (.tuple #[]) ∧ RT B w' p (setR R k d) ∧ Tn (rtT p) B w w' := by
  obtain ⟨A0, c0, hA0, hO0⟩ := h.mem
  have hBp := h.lo
  obtain ⟨sK, hsK⟩ : ∃ s : ByteArray, s = ⟨k.1.toArray⟩ := ⟨_, rfl⟩
  obtain ⟨sD, hsD⟩ : ∃ s : ByteArray, s = ⟨d.1.toArray⟩ := ⟨_, rfl⟩
  obtain ⟨sZ, hsZ⟩ : ∃ s : ByteArray, s = ⟨Z32.toArray⟩ := ⟨_, rfl⟩
  rw [← hsK, ← hsD]
  have hdz : (sD.toList == sZ.toList) = decide (d.1 = Z32) := by
    by_cases e : d.1 = Z32
    · rw [str_sameL hsD hsZ e, decide_eq_true e]
    · rw [str_otherL hsD hsZ e, decide_eq_false e]
  obtain ⟨bz, hbz⟩ : ∃ b, b = decide (d.1 = Z32) := ⟨_, rfl⟩
  rw [← hbz] at hdz
  have HBZ := Lib.hid hbz
  obtain ⟨n, hn⟩ : ∃ n, n = R.length := ⟨_, rfl⟩
  rw [← hn] at hA0 hO0 hR
  have HN := Lib.hid hn
  have HZ : Hid (∀ w, Calls Tryd.prog 25 #[] w fun e w' => e = .returned (.string sZ) ∧ Gr w w') := Lib.hid (fun w => by rw [hsZ]; exact none_ref w)
  have HK := Lib.hid hsK
  have HD := Lib.hid hsD
  clear h hbz hsK hsD hsZ hn
  go_enter Tryd.func22, Tryd.ntmps22
  go_upto_region 3 with (go_at_call 25; refine (HZ.out _).mono ?_; rintro e w1 ⟨rfl, hG1⟩)
  go_loopw [6, 7, 8] (fun v6 v7 v8 wr => DocR w R k d v6 v7 v8 wr) (fun _ _ v8 _ => n - (intOf v8).toNat)
  case atStart => exact ⟨0, none, 0, 0, [], bz, by omega, by rw [HBZ.out]; rfl, rfl, rfl, rfl, rfl, ⟨rfl, .inl ⟨rfl, rfl⟩⟩, hG1⟩
  case round =>
    obtain ⟨i, A, c, m, S, b, hi, hst, hm, rfl, rfl, rfl, hO, hG⟩ := DocR.out hrel
    rw [← HN.out] at hi
    have HST := Lib.hid hst
    have hSl := stD_length k d R i
    rw [hst] at hSl
    have hml : m ≤ 2 * i := by rw [hm]; exact hSl
    have HM := Lib.hid hm
    clear hrel hst hSl hm
    by_cases hlt : i < n
    · have hlR : i < R.length := by rw [← HN.out]; exact hlt
      obtain ⟨r, hr⟩ : ∃ r, R[i]? = some r := ⟨_, List.getElem?_eq_getElem hlR⟩
      obtain ⟨gN, rfl, hgN, hrng⟩ := own_at2 hO0 hlt hr
      obtain ⟨sX, hsX⟩ : ∃ s : ByteArray, s = ⟨r.1.1.toArray⟩ := ⟨_, rfl⟩
      obtain ⟨sY, hsY⟩ : ∃ s : ByteArray, s = ⟨r.2.1.toArray⟩ := ⟨_, rfl⟩
      have HRC : Hid (rowC r = [.string sX, .string sY]) := Lib.hid (by rw [hsX, hsY]; rfl)
      have HKD : Hid (rowC (k, d) = [.string sK, .string sD]) := Lib.hid (by rw [HK.out, HD.out]; rfl)
      rw [HRC.out] at hrng
      have HX := Lib.hid hsX
      have hXl : sX.toList = r.1.1 := by rw [hsX]; simp
      have hKl : sK.toList = k.1 := by rw [HK.out]; simp
      clear hsX hsY
      have hlti : (i : Int) < (n : Int) := by omega
      cases b with
      | true =>
        clear hXl hKl
        by_cases hek : r.1 = k
        · obtain ⟨wq, hwq⟩ : ∃ q, q = wr := ⟨_, rfl⟩
          rw [← hwq] at hG hO ⊢
          clear hwq
          have hGq := hG
          have hOq := hO
          have hm2 := HM
          clear hG hO

          have c0q : wq.cell? ⟨p, 0, none⟩ = some (.slice (some ⟨gN, 0, none⟩) n c0) := (hA0.gr hGq).cell rfl
          have rgq := hGq.range hrng
          have kcq : wq.cell? ⟨gN, i * 2, none⟩ = some (.string sX) := rgq 0 _ rfl
          have dcq : wq.cell? ⟨gN, i * 2 + 1, none⟩ = some (.string sY) := rgq 1 _ rfl

          have heq : (sX.toList == sK.toList) = true := str_sameL HX.out HK.out (by rw [hek])

          have hR9 : DocR w R k d (.slice A m c) (.bool true) (.int .i64 ((i : Int) + 1)) wq := ⟨i + 1, _, _, _, S, true, by omega, by rw [stD_succ hr, HST.out]; unfold stepD; simp [hek], hm2.out, rfl, rfl, by simp, hOq, hGq⟩

          go_wp2_with fail
          exact ⟨hR9, by simp only [intOf]; omega⟩
        · obtain ⟨wq, hwq⟩ : ∃ q, q = wr := ⟨_, rfl⟩
          rw [← hwq] at hG hO ⊢
          clear hwq
          have hGq := hG
          have hOq := hO
          have hm2 := HM
          clear hG hO

          have c0q : wq.cell? ⟨p, 0, none⟩ = some (.slice (some ⟨gN, 0, none⟩) n c0) := (hA0.gr hGq).cell rfl
          have rgq := hGq.range hrng
          have kcq : wq.cell? ⟨gN, i * 2, none⟩ = some (.string sX) := rgq 0 _ rfl
          have dcq : wq.cell? ⟨gN, i * 2 + 1, none⟩ = some (.string sY) := rgq 1 _ rfl

          have heq : (sX.toList == sK.toList) = false := str_otherL HX.out HK.out (fun e => hek (Subtype.ext e))
          go_upto_region 9 with fail
          have hAn : Arr (wq.alloc (.cells #[.string sX, .string sY] 63)) wq.heap.size 63 [.string sX, .string sY] := Arr.newAt rfl rfl
          have hOn := Gr.own (Gr.alloc wq (.cells #[.string sX, .string sY] 63)) hOq
          have hBn : w.heap.size ≤ (wq.alloc (.cells #[.string sX, .string sY] 63)).heap.size := by have := hGq.size; simp only [asz]; omega
          have hm100 : m ≤ 100000 := by omega
          have HE : Hid (∀ A3 c3 w3, w3.ownsRow w.heap.size 63 2 (.slice A3 (m + 1) c3) (m + 1) (rowsC (S ++ [r])) → Tn rwT w.heap.size (wq.alloc (.cells #[.string sX, .string sY] 63)) w3 → DocR w R k d (.slice A3 (m + 1) c3) (.bool true) (.int .i64 ((i : Int) + 1)) w3) := Lib.hid (fun A3 c3 w3 hO3 hT3 =>
            ⟨i + 1, _, _, _, S ++ [r], true, by omega, by rw [stD_succ hr, HST.out]; unfold stepD; simp [hek], by rw [hm2.out]; simp, rfl, rfl, by simp, hO3, Below.trans (hGq.trans (Gr.alloc wq _)) (hT3.below hBn)⟩)
          clear hOq hGq
          go_wp2_with first
            | (refine wpList_load_mid rfl _ _ rfl gN _ rfl [.string sX, .string sY] _ (rangeEq rgq (by omega)) Tryd.underlying63 rfl (by kernel_rfl) ?_)
            | (at_builtin; go_must (refine wpList_appRow rfl (.tmp 51) (.tmp 59) rfl rfl hOn r HRC.out wq.heap.size rfl hAn hm100 hBn ?_; intro A3 c3 w3 hO3 hT3; have hR9 := HE.out A3 c3 w3 hO3 hT3; clear hO3 hT3))
          exact ⟨hR9, by simp only [intOf]; omega⟩
      | false =>
        by_cases hlt2 : Lib.compareBytes r.1.1 k.1 < 0
        · skip
          have hek : ¬ r.1 = k := fun e => by rw [e] at hlt2; exact cb_irrefl _ hlt2
          have hls : Op.bytesLess sX.toList sK.toList = true := by rw [bytesLess_cb, hXl, hKl]; exact decide_eq_true hlt2
          clear hXl hKl

          obtain ⟨wq, hwq⟩ : ∃ q, q = wr := ⟨_, rfl⟩
          rw [← hwq] at hG hO ⊢
          clear hwq
          have hGq := hG
          have hOq := hO
          have hm2 := HM
          clear hG hO

          have c0q : wq.cell? ⟨p, 0, none⟩ = some (.slice (some ⟨gN, 0, none⟩) n c0) := (hA0.gr hGq).cell rfl
          have rgq := hGq.range hrng
          have kcq : wq.cell? ⟨gN, i * 2, none⟩ = some (.string sX) := rgq 0 _ rfl
          have dcq : wq.cell? ⟨gN, i * 2 + 1, none⟩ = some (.string sY) := rgq 1 _ rfl

          have heq : (sX.toList == sK.toList) = false := str_otherL HX.out HK.out (fun e => hek (Subtype.ext e))
          go_upto_region 9 with fail
          have hAn : Arr (wq.alloc (.cells #[.string sX, .string sY] 63)) wq.heap.size 63 [.string sX, .string sY] := Arr.newAt rfl rfl
          have hOn := Gr.own (Gr.alloc wq (.cells #[.string sX, .string sY] 63)) hOq
          have hBn : w.heap.size ≤ (wq.alloc (.cells #[.string sX, .string sY] 63)).heap.size := by have := hGq.size; simp only [asz]; omega
          have hm100 : m ≤ 100000 := by omega
          have HE : Hid (∀ A3 c3 w3, w3.ownsRow w.heap.size 63 2 (.slice A3 (m + 1) c3) (m + 1) (rowsC (S ++ [r])) → Tn rwT w.heap.size (wq.alloc (.cells #[.string sX, .string sY] 63)) w3 → DocR w R k d (.slice A3 (m + 1) c3) (.bool false) (.int .i64 ((i : Int) + 1)) w3) := Lib.hid (fun A3 c3 w3 hO3 hT3 =>
            ⟨i + 1, _, _, _, S ++ [r], false, by omega, by rw [stD_succ hr, HST.out]; unfold stepD; rw [if_neg hek, if_neg (fun q => q.2 hlt2)], by rw [hm2.out]; simp, rfl, rfl, by simp, hO3, Below.trans (hGq.trans (Gr.alloc wq _)) (hT3.below hBn)⟩)
          clear hOq hGq
          go_wp2_with first
            | (refine wpList_load_mid rfl _ _ rfl gN _ rfl [.string sX, .string sY] _ (rangeEq rgq (by omega)) Tryd.underlying63 rfl (by kernel_rfl) ?_)
            | (at_builtin; go_must (refine wpList_appRow rfl (.tmp 51) (.tmp 59) rfl rfl hOn r HRC.out wq.heap.size rfl hAn hm100 hBn ?_; intro A3 c3 w3 hO3 hT3; have hR9 := HE.out A3 c3 w3 hO3 hT3; clear hO3 hT3))
          exact ⟨hR9, by simp only [intOf]; omega⟩
        · skip
          have hls : Op.bytesLess sX.toList sK.toList = false := by rw [bytesLess_cb, hXl, hKl]; exact decide_eq_false hlt2
          clear hXl hKl
          have c0r : wr.cell? ⟨p, 0, none⟩ = some (.slice (some ⟨gN, 0, none⟩) n c0) := (hA0.gr hG).cell rfl
          have rgr := hG.range hrng
          have kcr : wr.cell? ⟨gN, i * 2, none⟩ = some (.string sX) := rgr 0 _ rfl
          have hAn : Arr (wr.alloc (.cells #[.string sK, .string sD] 63)) wr.heap.size 63 [.string sK, .string sD] := Arr.newAt rfl rfl
          have hOn := Gr.own (Gr.alloc wr (.cells #[.string sK, .string sD] 63)) hO
          have hBn : w.heap.size ≤ (wr.alloc (.cells #[.string sK, .string sD] 63)).heap.size := by have := hG.size; simp only [asz]; omega
          have hm100 : m ≤ 100000 := by omega
          have hG2 := hG.trans (Gr.alloc wr (.cells #[.string sK, .string sD] 63))
          have hm2 : Hid (m + 1 = (S ++ [(k, d)]).length) := Lib.hid (by rw [HM.out]; simp)
          clear hG hO
          go_upto_region 8 with (at_builtin; go_must (refine wpList_appRow rfl (.tmp 35) (.tmp 39) rfl rfl hOn (k, d) HKD.out wr.heap.size rfl hAn hm100 hBn ?_; intro A5 c5 wq hOq hT5; have hGq : Gr w wq := Below.trans hG2 (hT5.below hBn); clear hT5))
          clear c0r rgr kcr hG2 hAn hOn hBn hm100
          by_cases hek : r.1 = k
          · have c0q : wq.cell? ⟨p, 0, none⟩ = some (.slice (some ⟨gN, 0, none⟩) n c0) := (hA0.gr hGq).cell rfl
            have rgq := hGq.range hrng
            have kcq : wq.cell? ⟨gN, i * 2, none⟩ = some (.string sX) := rgq 0 _ rfl
            have dcq : wq.cell? ⟨gN, i * 2 + 1, none⟩ = some (.string sY) := rgq 1 _ rfl

            have heq : (sX.toList == sK.toList) = true := str_sameL HX.out HK.out (by rw [hek])

            have hR9 : DocR w R k d (.slice A5 (m + 1) c5) (.bool true) (.int .i64 ((i : Int) + 1)) wq := ⟨i + 1, _, _, _, (S ++ [(k, d)]), true, by omega, by rw [stD_succ hr, HST.out]; unfold stepD; rw [if_pos hek, if_pos ⟨rfl, hlt2⟩], hm2.out, rfl, rfl, by simp, hOq, hGq⟩

            go_wp2_with fail
            exact ⟨hR9, by simp only [intOf]; omega⟩
          · have c0q : wq.cell? ⟨p, 0, none⟩ = some (.slice (some ⟨gN, 0, none⟩) n c0) := (hA0.gr hGq).cell rfl
            have rgq := hGq.range hrng
            have kcq : wq.cell? ⟨gN, i * 2, none⟩ = some (.string sX) := rgq 0 _ rfl
            have dcq : wq.cell? ⟨gN, i * 2 + 1, none⟩ = some (.string sY) := rgq 1 _ rfl

            have heq : (sX.toList == sK.toList) = false := str_otherL HX.out HK.out (fun e => hek (Subtype.ext e))
            go_upto_region 9 with fail
            have hAn : Arr (wq.alloc (.cells #[.string sX, .string sY] 63)) wq.heap.size 63 [.string sX, .string sY] := Arr.newAt rfl rfl
            have hOn := Gr.own (Gr.alloc wq (.cells #[.string sX, .string sY] 63)) hOq
            have hBn : w.heap.size ≤ (wq.alloc (.cells #[.string sX, .string sY] 63)).heap.size := by have := hGq.size; simp only [asz]; omega
            have hm100 : (m + 1) ≤ 100000 := by omega
            have HE : Hid (∀ A3 c3 w3, w3.ownsRow w.heap.size 63 2 (.slice A3 ((m + 1) + 1) c3) ((m + 1) + 1) (rowsC ((S ++ [(k, d)]) ++ [r])) → Tn rwT w.heap.size (wq.alloc (.cells #[.string sX, .string sY] 63)) w3 → DocR w R k d (.slice A3 ((m + 1) + 1) c3) (.bool true) (.int .i64 ((i : Int) + 1)) w3) := Lib.hid (fun A3 c3 w3 hO3 hT3 =>
              ⟨i + 1, _, _, _, (S ++ [(k, d)]) ++ [r], true, by omega, by rw [stD_succ hr, HST.out]; unfold stepD; rw [if_neg hek, if_pos ⟨rfl, hlt2⟩], by rw [hm2.out]; simp, rfl, rfl, by simp, hO3, Below.trans (hGq.trans (Gr.alloc wq _)) (hT3.below hBn)⟩)
            clear hOq hGq
            go_wp2_with first
              | (refine wpList_load_mid rfl _ _ rfl gN _ rfl [.string sX, .string sY] _ (rangeEq rgq (by omega)) Tryd.underlying63 rfl (by kernel_rfl) ?_)
              | (at_builtin; go_must (refine wpList_appRow rfl (.tmp 51) (.tmp 59) rfl rfl hOn r HRC.out wq.heap.size rfl hAn hm100 hBn ?_; intro A3 c3 w3 hO3 hT3; have hR9 := HE.out A3 c3 w3 hO3 hT3; clear hO3 hT3))
            exact ⟨hR9, by simp only [intOf]; omega⟩
    · obtain rfl : i = n := by omega
      have hE := stD_end k d R (Nat.le_of_eq HN.out.symm)
      rw [HST.out] at hE
      have HE := Lib.hid hE
      clear hE
      cases b with
      | true =>
        have hA := hA0.gr hG
        have c0r : wr.cell? ⟨p, 0, none⟩ = some (.slice A0 i c0) := hA.cell rfl
        have f0r : wr.frozen? ⟨p, 0, none⟩ = false := hA.frozen 0
        have HF : Hid (RT B (wr.setCell ⟨p, 0, none⟩ (.slice A m c)) p (setR R k d) ∧ Tn (rtT p) B w (wr.setCell ⟨p, 0, none⟩ (.slice A m c))) := Lib.hid (fin_rt hA hBp hB hO hG HM.out HE.out)
        clear hA hO
        go_wp2_with fail
        refine bodyPost_end (results_none rfl _ _ _) rfl ?_
        exact ⟨rfl, HF.out⟩
      | false =>
        have HKD : Hid (rowC (k, d) = [.string sK, .string sD]) := Lib.hid (by rw [HK.out, HD.out]; rfl)
        have hAn : Arr (wr.alloc (.cells #[.string sK, .string sD] 63)) wr.heap.size 63 [.string sK, .string sD] := Arr.newAt rfl rfl
        have hOn := Gr.own (Gr.alloc wr (.cells #[.string sK, .string sD] 63)) hO
        have hBn : w.heap.size ≤ (wr.alloc (.cells #[.string sK, .string sD] 63)).heap.size := by have := hG.size; simp only [asz]; omega
        have hm100 : m ≤ 100000 := by omega
        have hG2 := hG.trans (Gr.alloc wr (.cells #[.string sK, .string sD] 63))
        have hm2 : Hid (m + 1 = (S ++ [(k, d)]).length) := Lib.hid (by rw [HM.out]; simp)
        have c0x : wr.cell? ⟨p, 0, none⟩ = some (.slice A0 i c0) := (hA0.gr hG).cell rfl
        clear hG hO
        go_upto_region 12 with (at_builtin; go_must (refine wpList_appRow rfl (.tmp 63) (.tmp 67) rfl rfl hOn (k, d) HKD.out wr.heap.size rfl hAn hm100 hBn ?_; intro A5 c5 wq hOq hT5; have hGq : Gr w wq := Below.trans hG2 (hT5.below hBn); clear hT5))
        have hA := hA0.gr hGq
        have c0r : wq.cell? ⟨p, 0, none⟩ = some (.slice A0 i c0) := hA.cell rfl
        have f0r : wq.frozen? ⟨p, 0, none⟩ = false := hA.frozen 0
        have HF : Hid (RT B (wq.setCell ⟨p, 0, none⟩ (.slice A5 (m + 1) c5)) p (setR R k d) ∧ Tn (rtT p) B w (wq.setCell ⟨p, 0, none⟩ (.slice A5 (m + 1) c5))) := Lib.hid (fin_rt hA hBp hB hOq hGq hm2.out HE.out)
        clear hA hOq hG2 hAn hOn
        go_wp2_with fail
        refine bodyPost_end (results_none rfl _ _ _) rfl ?_
        exact ⟨rfl, HF.out⟩
end Go.Proofs.YthpgldfjcancjaaDoor
