/- The walk of the reference's Leaves. No condition. -/
import Derived.Test.YthpgldfjcancjaaDoorPuLvs
import Derived.Test.YthpgldfjcancjaaDoorMkRefT
import Derived.BigQuiet
namespace Go.Proofs.YthpgldfjcancjaaDoor
open Go.RowKit
theorem toldL_succ (R S : Rw) (l : Nat) : toldL R S (l + 1) = toldL R S l + (levelL R S l).length := rfl
/-- The loop over the levels. -/
def RefLvR (R S : Rw) (w0 : World) (v6 v7 v8 v9 : Value) (w : World) : Prop :=
  (∃ (l m : Nat) (A : Option Addr) (c : Nat), l ≤ 4 ∧ v6 = .slice none 0 0 ∧ v7 = .int .i64 (toldL R S (l + 1) : Int) ∧ m = (levelL R S l).length ∧ v8 = .slice A m c ∧ v9 = .int .i64 (l : Int) ∧ w.ownsRow w0.heap.size 3 1 (.slice A m c) m (intV (levelL R S l)) ∧ Gr w0 w) ∨
  (∃ (m : Nat) (A : Option Addr) (c : Nat), v6 = .slice A m c ∧ v7 = .int .i64 (toldL R S 5 : Int) ∧ v9 = .int .i64 5 ∧ m = (levelL R S 5).length ∧ w.ownsRow w0.heap.size 3 1 (.slice A m c) m (intV (levelL R S 5)) ∧ Gr w0 w)
theorem RefLvR.out {R S : Rw} {w0 : World} {v6 v7 v8 v9 : Value} {w : World} (h : RefLvR R S w0 v6 v7 v8 v9 w) :
  (∃ (l m : Nat) (A : Option Addr) (c : Nat), l ≤ 4 ∧ v6 = .slice none 0 0 ∧ v7 = .int .i64 (toldL R S (l + 1) : Int) ∧ m = (levelL R S l).length ∧ v8 = .slice A m c ∧ v9 = .int .i64 (l : Int) ∧ w.ownsRow w0.heap.size 3 1 (.slice A m c) m (intV (levelL R S l)) ∧ Gr w0 w) ∨
  (∃ (m : Nat) (A : Option Addr) (c : Nat), v6 = .slice A m c ∧ v7 = .int .i64 (toldL R S 5 : Int) ∧ v9 = .int .i64 5 ∧ m = (levelL R S 5).length ∧ w.ownsRow w0.heap.size 3 1 (.slice A m c) m (intV (levelL R S 5)) ∧ Gr w0 w) := h
/-- The loop over a level's nodes. -/
def GrowR (R S : Rw) (l n : Nat) (at_ : List Nat) (w0 : World) (v k : Value) (w : World) : Prop := ∃ (i m : Nat) (A : Option Addr) (c : Nat), i ≤ n ∧ k = .int .i64 (i : Int) ∧ m = (unlikeL R S l (at_.take i)).length ∧ v = .slice A m c ∧ w.ownsRow w0.heap.size 3 1 (.slice A m c) m (intV (unlikeL R S l (at_.take i))) ∧ Gr w0 w
theorem GrowR.out {R S : Rw} {l n : Nat} {at_ : List Nat} {w0 : World} {v k : Value} {w : World} (h : GrowR R S l n at_ w0 v k w) : ∃ (i m : Nat) (A : Option Addr) (c : Nat), i ≤ n ∧ k = .int .i64 (i : Int) ∧ m = (unlikeL R S l (at_.take i)).length ∧ v = .slice A m c ∧ w.ownsRow w0.heap.size 3 1 (.slice A m c) m (intV (unlikeL R S l (at_.take i))) ∧ Gr w0 w := h
/-- The loop over the four below. -/
def FourR (G : List Nat) (x m : Nat) (w0 : World) (v k : Value) (w : World) : Prop := ∃ (i : Nat) (A : Option Addr) (c : Nat), i ≤ 4 ∧ k = .int .i64 (i : Int) ∧ v = .slice A (m + i) c ∧ w.ownsRow w0.heap.size 3 1 (.slice A (m + i) c) (m + i) (intV (G ++ fourL x i)) ∧ Gr w0 w
theorem FourR.out {G : List Nat} {x m : Nat} {w0 : World} {v k : Value} {w : World} (h : FourR G x m w0 v k w) : ∃ (i : Nat) (A : Option Addr) (c : Nat), i ≤ 4 ∧ k = .int .i64 (i : Int) ∧ v = .slice A (m + i) c ∧ w.ownsRow w0.heap.size 3 1 (.slice A (m + i) c) (m + i) (intV (G ++ fourL x i)) ∧ Gr w0 w := h
def RefLvQ (R S : Rw) (w : World) (e : Ending) (w' : World) : Prop := ∃ (A : Option Addr) (m c : Nat), e = .returned (.tuple #[.slice A m c, .int .i64 (toldL R S 5 : Int)]) ∧ m = (levelL R S 5).length ∧ w'.ownsRow w.heap.size 3 1 (.slice A m c) m (intV (levelL R S 5)) ∧ Gr w w'
set_option maxRecDepth 100000 in
set_option maxHeartbeats 8000000 in
theorem refLeaves_any {w : World} {B p p' : Nat} {R S : Rw} (hR : RT B w p R) (hS : RT B w p' S) (hRl : R.length ≤ 1000) (hSl : S.length ≤ 1000) :
    Calls Tryd.prog 8 #[.pointer (some ⟨p, 0, none⟩), .pointer (some ⟨p', 0, none⟩)] w fun e w' => RefLvQ R S w e w' := by
  obtain ⟨i0, hi0, hz0, hz1, hz2⟩ := infoInt_parts
  have HR := Lib.hid hR
  have HS := Lib.hid hS
  clear hR hS
  go_enter Tryd.func8, Tryd.ntmps8
  go_upto_region 5 with fail
  have h0 : Arr (w.alloc (.cells #[.int .i64 0] 3)) w.heap.size 3 [.int .i64 ((0 : Nat) : Int)] := Arr.newAt rfl rfl
  have ho0 : (w.alloc (.cells #[.int .i64 0] 3)).ownsRow w.heap.size 3 1 (.slice (some ⟨w.heap.size, 0, none⟩) 1 1) 1 (intV [0]) := own_arr1 h0 (Nat.le_refl _)
  have hG0 : Gr w (w.alloc (.cells #[.int .i64 0] 3)) := Gr.alloc _ _
  try change Code.wp _ _ _ _ (w.alloc (.cells #[.int .i64 0] 3))
  generalize w.alloc (.cells #[.int .i64 0] 3) = w0 at h0 ho0 hG0 ⊢
  have HST : Hid (RefLvR R S w (.slice none 0 0) (.int .i64 1) (.slice (some ⟨w.heap.size, 0, none⟩) 1 1) (.int .i64 0) w0) := Lib.hid (.inl ⟨0, 1, _, _, by omega, rfl, rfl, rfl, rfl, rfl, ho0, hG0⟩)
  clear h0 ho0 hG0
  go_loopw [6, 7, 8, 9] (fun v6 v7 v8 v9 wr => RefLvR R S w v6 v7 v8 v9 wr) (fun _ _ _ v9 _ => 5 - (intOf v9).toNat)
  case atStart => exact HST.out
  case round =>
    rcases RefLvR.out hrel with ⟨l, n, A, c, hl, rfl, rfl, hn, rfl, rfl, ho, hG⟩ | ⟨m, A, c, rfl, rfl, rfl, hm, ho, hG⟩
    · have hml := levelL_length R S l
      have hp : 4 ^ l ≤ 4 ^ 4 := Nat.pow_le_pow_right (by omega) (by omega)
      have htl := toldL_le R S l
      have hts := toldL_succ R S l
      have hn256 : n ≤ 256 := by omega
      obtain ⟨T, hT⟩ : ∃ T, T = toldL R S (l + 1) := ⟨_, rfl⟩
      have hT2000 : T ≤ 2000 := by
        have h1 : l * 4 ^ l ≤ 4 * 4 ^ 4 := Nat.mul_le_mul hl hp
        omega
      rw [← hT]
      have HT := Lib.hid hT
      obtain ⟨at_, hat⟩ : ∃ a, a = levelL R S l := ⟨_, rfl⟩
      have hlt : ∀ x ∈ at_, x < 4 ^ l := by rw [hat]; exact levelL_lt R S l hl
      rw [← hat] at ho hn
      have hrd := Rd.of_own ho
      have hls : levelL R S (l + 1) = unlikeL R S l at_ := by rw [hat]; rfl
      have HN := Lib.hid hn
      have HLS := Lib.hid hls
      have HLT := Lib.hid hlt
      have HRD := Lib.hid hrd
      have hcl : (l : Int) ≤ 4 := by omega
      clear hrel hT hat hlt hn hrd hls htl hts hml hp ho HST
      obtain ⟨wl, hwl⟩ : ∃ w, w = wr := ⟨_, rfl⟩
      rw [← hwl] at hG HRD ⊢
      clear hwl
      by_cases hl4 : l = 4
      · skip
        have hcl4 : ((l : Int) == 4) = true := by rw [hl4]; rfl
        have HL4 := Lib.hid hl4
        clear hl4
        go_upto_region 9 with fail
        go_loopw [6, 10, 11] (fun v6 v10 k wr => GrowR R S l n at_ wl v6 k wr ∧ v10 = .slice none 0 0) (fun _ _ k _ => n - (intOf k).toNat)
        case atStart => exact ⟨⟨0, 0, none, 0, by omega, rfl, rfl, rfl, ⟨rfl, .inl ⟨rfl, rfl⟩⟩, Gr.refl _⟩, rfl⟩
        case round =>
          obtain ⟨hrel1, rfl⟩ := hrel
          obtain ⟨i, m2, A2, c2, hi, rfl, hm2, rfl, ho2, hGr⟩ := GrowR.out hrel1
          have hm4 : m2 ≤ 4 * i := by
            have h1 := unlikeL_length R S l (at_.take i)
            rw [← hm2] at h1
            have h2 : (at_.take i).length ≤ i := by rw [List.length_take]; omega
            omega
          have HM2 := Lib.hid hm2
          clear hrel1 hm2
          by_cases hlt : i < n
          · skip
            obtain ⟨x, hx⟩ : ∃ x, at_[i]? = some x := ⟨_, List.getElem?_eq_getElem (by rw [← HN.out]; exact hlt)⟩
            have hxl := HLT.out x (List.mem_of_getElem? hx)
            obtain ⟨ad, rfl, hcx⟩ := HRD.out.2 i (.int .i64 (x : Int)) (intV_at hx)
            have kx : wr.cell? (ad.add i) = some (.int .i64 (x : Int)) := Gr.cell hGr hcx
            have hsu := unlikeL_succ (R := R) (S := S) (l := l) hx
            obtain ⟨D1, hD1⟩ : ∃ D, D = nodeR R (4 - l) x := ⟨_, rfl⟩
            obtain ⟨D2, hD2⟩ : ∃ D, D = nodeR S (4 - l) x := ⟨_, rfl⟩
            have HN1 : Hid (∀ w1, Gr wr w1 → Calls Tryd.prog 15 #[.pointer (some ⟨p, 0, none⟩), .int .i64 (l : Int), .int .i64 (x : Int)] w1 fun e w' => e = .returned (.string ⟨D1.toArray⟩) ∧ Gr w1 w') := Lib.hid (fun w1 h => by
              have h1 := refNode_any hRl (4 - l) (by omega) x (by rw [show 4 - (4 - l) = l by omega]; exact hxl) w1 (HR.out.gr (hG.trans (hGr.trans h)))
              rw [show 4 - (4 - l) = l by omega, ← hD1] at h1
              exact h1)
            have HN2 : Hid (∀ w1, Gr wr w1 → Calls Tryd.prog 15 #[.pointer (some ⟨p', 0, none⟩), .int .i64 (l : Int), .int .i64 (x : Int)] w1 fun e w' => e = .returned (.string ⟨D2.toArray⟩) ∧ Gr w1 w') := Lib.hid (fun w1 h => by
              have h1 := refNode_any hSl (4 - l) (by omega) x (by rw [show 4 - (4 - l) = l by omega]; exact hxl) w1 (HS.out.gr (hG.trans (hGr.trans h)))
              rw [show 4 - (4 - l) = l by omega, ← hD2] at h1
              exact h1)
            rw [← hD1, ← hD2] at hsu
            have hx256 : x < 256 := Nat.lt_of_lt_of_le hxl (Nat.pow_le_pow_right (by omega) hl)
            have hci : (i : Int) < (n : Int) := by omega
            clear hx hcx hD1 hD2 hxl
            by_cases hDD : D1 = D2
            · rw [if_pos hDD, List.append_nil] at hsu
              have HSU := Lib.hid hsu
              have HEQ : Hid (D1 = D2) := Lib.hid hDD
              clear hsu hDD
              go_upto_region 11 with fail
              refine wp_region_ssaL (by kernel_rfl) [IsV (.pointer (some ⟨p, 0, none⟩)), IsV (.int .i64 ((l : Nat) : Int)), IsV (.slice (some ad) n c), IsV (.int .i64 ((i : Nat) : Int)), IsV (.pointer (some (ad.add i))), IsV (.int .i64 ((x : Nat) : Int)), IsV (.string ⟨(D1).toArray⟩), IsV (.pointer (some ⟨p', 0, none⟩)), IsV (.int .i64 ((l : Nat) : Int)), IsV (.slice (some ad) n c), IsV (.int .i64 ((i : Nat) : Int)), IsV (.pointer (some (ad.add i))), IsV (.int .i64 ((x : Nat) : Int)), IsV (.string ⟨(D2).toArray⟩), IsV (.bool true)] (by kernel_rfl) ?_ ?_ ?_
              · intro φ hφ v w1 w2 h hg
                simp only [List.mem_cons, List.not_mem_nil, or_false] at hφ
                rcases hφ with rfl | rfl | rfl | rfl | rfl | rfl | rfl | rfl | rfl | rfl | rfl | rfl | rfl | rfl | rfl
                all_goals first | exact h | exact RdV.gr h hg
              · refine ⟨?_, ?_, ?_, ?_, ?_, ?_, ?_, ?_, ?_, ?_, ?_, ?_, ?_, ?_, ?_, trivial⟩
                · intro a1 w1 hG hF
                  exact s_old rfl (wants0 rfl) (.tmp 0) (.inr rfl) (.pointer (some ⟨p, 0, none⟩)) (hF.ol 0 (by kernel_rfl)) rfl
                · intro a1 w1 hG hF
                  exact s_old rfl (wants0 rfl) (.tmp 9) (.inr rfl) (.int .i64 ((l : Nat) : Int)) (hF.ol 9 (by kernel_rfl)) rfl
                · intro a1 w1 hG hF
                  exact s_old rfl (wants0 rfl) (.tmp 8) (.inr rfl) (.slice (some ad) n c) (hF.ol 8 (by kernel_rfl)) rfl
                · intro a1 w1 hG hF
                  exact s_old rfl (wants0 rfl) (.tmp 11) (.inr rfl) (.int .i64 ((i : Nat) : Int)) (hF.ol 11 (by kernel_rfl)) rfl
                · intro a1 w1 hG hF
                  obtain ⟨_, e26, rfl⟩ := hF.dp 2 26 (by kernel_rfl)
                  obtain ⟨_, e27, rfl⟩ := hF.dp 3 27 (by kernel_rfl)
                  exact s_is rfl (wants0 rfl) _ rfl (by simp only [execOp, e26, e27]; go_simp; try (intro h; omega))
                · intro a1 w1 hG hF
                  obtain ⟨_, e28, rfl⟩ := hF.dp 4 28 (by kernel_rfl)
                  have hc : w1.cell? (ad.add i) = some (.int .i64 (x : Int)) := Gr.cell ((Gr.drew wr).trans hG) kx
                  exact s_is rfl (wants0 rfl) _ rfl (by simp only [execOp, e28]; go_simp)
                · intro a1 w1 hG hF
                  obtain ⟨_, e24, rfl⟩ := hF.dp 0 24 (by kernel_rfl)
                  obtain ⟨_, e25, rfl⟩ := hF.dp 1 25 (by kernel_rfl)
                  obtain ⟨_, e29, rfl⟩ := hF.dp 5 29 (by kernel_rfl)
                  exact s_call rfl (wants0 rfl) _ rfl _ _ (by simp only [execOp, resolve, invoke, List.map_toArray, List.map_cons, List.map_nil, e24, e25, e29]; go_simp) ((HN1.out w1 ((Gr.drew wr).trans hG)).mono fun e w2 ⟨he, hb⟩ => ⟨_, he, rfl, hb⟩)
                · intro a1 w1 hG hF
                  exact s_old rfl (wants0 rfl) (.tmp 1) (.inr rfl) (.pointer (some ⟨p', 0, none⟩)) (hF.ol 1 (by kernel_rfl)) rfl
                · intro a1 w1 hG hF
                  exact s_old rfl (wants0 rfl) (.tmp 9) (.inr rfl) (.int .i64 ((l : Nat) : Int)) (hF.ol 9 (by kernel_rfl)) rfl
                · intro a1 w1 hG hF
                  exact s_old rfl (wants0 rfl) (.tmp 8) (.inr rfl) (.slice (some ad) n c) (hF.ol 8 (by kernel_rfl)) rfl
                · intro a1 w1 hG hF
                  exact s_old rfl (wants0 rfl) (.tmp 11) (.inr rfl) (.int .i64 ((i : Nat) : Int)) (hF.ol 11 (by kernel_rfl)) rfl
                · intro a1 w1 hG hF
                  obtain ⟨_, e33, rfl⟩ := hF.dp 9 33 (by kernel_rfl)
                  obtain ⟨_, e34, rfl⟩ := hF.dp 10 34 (by kernel_rfl)
                  exact s_is rfl (wants0 rfl) _ rfl (by simp only [execOp, e33, e34]; go_simp; try (intro h; omega))
                · intro a1 w1 hG hF
                  obtain ⟨_, e35, rfl⟩ := hF.dp 11 35 (by kernel_rfl)
                  have hc : w1.cell? (ad.add i) = some (.int .i64 (x : Int)) := Gr.cell ((Gr.drew wr).trans hG) kx
                  exact s_is rfl (wants0 rfl) _ rfl (by simp only [execOp, e35]; go_simp)
                · intro a1 w1 hG hF
                  obtain ⟨_, e31, rfl⟩ := hF.dp 7 31 (by kernel_rfl)
                  obtain ⟨_, e32, rfl⟩ := hF.dp 8 32 (by kernel_rfl)
                  obtain ⟨_, e36, rfl⟩ := hF.dp 12 36 (by kernel_rfl)
                  exact s_call rfl (wants0 rfl) _ rfl _ _ (by simp only [execOp, resolve, invoke, List.map_toArray, List.map_cons, List.map_nil, e31, e32, e36]; go_simp) ((HN2.out w1 ((Gr.drew wr).trans hG)).mono fun e w2 ⟨he, hb⟩ => ⟨_, he, rfl, hb⟩)
                · intro a1 w1 hG hF
                  obtain ⟨_, e30, rfl⟩ := hF.dp 6 30 (by kernel_rfl)
                  obtain ⟨_, e37, rfl⟩ := hF.dp 13 37 (by kernel_rfl)
                  exact s_is rfl (wants0 rfl) _ rfl (by simp only [execOp, e30, e37]; go_simp; exact HEQ.out)
              · intro vs w1 hGw hf
                have z38 : vs 14 = .bool true := hf.2.2.2.2.2.2.2.2.2.2.2.2.2.2.1
                clear hf
                simp only [putAll, Nat.zero_add, Nat.reduceAdd, z38]
                have hG9 := hGr.trans ((Gr.drew wr).trans hGw)
                have hR9 : GrowR R S l n at_ wl (.slice A2 m2 c2) (.int .i64 ((i : Int) + 1)) w1 := ⟨i + 1, m2, A2, c2, by omega, by simp, by rw [HSU.out]; exact HM2.out, rfl, by rw [HSU.out]; exact Gr.own ((Gr.drew wr).trans hGw) ho2, hG9⟩
                clear hGw hG9 ho2 hGr kx
                go_simp
                go_wp2_with fail
                exact ⟨⟨hR9, rfl⟩, by simp only [intOf]; omega⟩
            · rw [if_neg hDD] at hsu
              have HSU := Lib.hid hsu
              have HEQ : Hid (¬ D1 = D2) := Lib.hid hDD
              clear hsu hDD
              go_upto_region 11 with fail
              refine wp_region_ssaL (by kernel_rfl) [IsV (.pointer (some ⟨p, 0, none⟩)), IsV (.int .i64 ((l : Nat) : Int)), IsV (.slice (some ad) n c), IsV (.int .i64 ((i : Nat) : Int)), IsV (.pointer (some (ad.add i))), IsV (.int .i64 ((x : Nat) : Int)), IsV (.string ⟨(D1).toArray⟩), IsV (.pointer (some ⟨p', 0, none⟩)), IsV (.int .i64 ((l : Nat) : Int)), IsV (.slice (some ad) n c), IsV (.int .i64 ((i : Nat) : Int)), IsV (.pointer (some (ad.add i))), IsV (.int .i64 ((x : Nat) : Int)), IsV (.string ⟨(D2).toArray⟩), IsV (.bool false)] (by kernel_rfl) ?_ ?_ ?_
              · intro φ hφ v w1 w2 h hg
                simp only [List.mem_cons, List.not_mem_nil, or_false] at hφ
                rcases hφ with rfl | rfl | rfl | rfl | rfl | rfl | rfl | rfl | rfl | rfl | rfl | rfl | rfl | rfl | rfl
                all_goals first | exact h | exact RdV.gr h hg
              · refine ⟨?_, ?_, ?_, ?_, ?_, ?_, ?_, ?_, ?_, ?_, ?_, ?_, ?_, ?_, ?_, trivial⟩
                · intro a1 w1 hG hF
                  exact s_old rfl (wants0 rfl) (.tmp 0) (.inr rfl) (.pointer (some ⟨p, 0, none⟩)) (hF.ol 0 (by kernel_rfl)) rfl
                · intro a1 w1 hG hF
                  exact s_old rfl (wants0 rfl) (.tmp 9) (.inr rfl) (.int .i64 ((l : Nat) : Int)) (hF.ol 9 (by kernel_rfl)) rfl
                · intro a1 w1 hG hF
                  exact s_old rfl (wants0 rfl) (.tmp 8) (.inr rfl) (.slice (some ad) n c) (hF.ol 8 (by kernel_rfl)) rfl
                · intro a1 w1 hG hF
                  exact s_old rfl (wants0 rfl) (.tmp 11) (.inr rfl) (.int .i64 ((i : Nat) : Int)) (hF.ol 11 (by kernel_rfl)) rfl
                · intro a1 w1 hG hF
                  obtain ⟨_, e26, rfl⟩ := hF.dp 2 26 (by kernel_rfl)
                  obtain ⟨_, e27, rfl⟩ := hF.dp 3 27 (by kernel_rfl)
                  exact s_is rfl (wants0 rfl) _ rfl (by simp only [execOp, e26, e27]; go_simp; try (intro h; omega))
                · intro a1 w1 hG hF
                  obtain ⟨_, e28, rfl⟩ := hF.dp 4 28 (by kernel_rfl)
                  have hc : w1.cell? (ad.add i) = some (.int .i64 (x : Int)) := Gr.cell ((Gr.drew wr).trans hG) kx
                  exact s_is rfl (wants0 rfl) _ rfl (by simp only [execOp, e28]; go_simp)
                · intro a1 w1 hG hF
                  obtain ⟨_, e24, rfl⟩ := hF.dp 0 24 (by kernel_rfl)
                  obtain ⟨_, e25, rfl⟩ := hF.dp 1 25 (by kernel_rfl)
                  obtain ⟨_, e29, rfl⟩ := hF.dp 5 29 (by kernel_rfl)
                  exact s_call rfl (wants0 rfl) _ rfl _ _ (by simp only [execOp, resolve, invoke, List.map_toArray, List.map_cons, List.map_nil, e24, e25, e29]; go_simp) ((HN1.out w1 ((Gr.drew wr).trans hG)).mono fun e w2 ⟨he, hb⟩ => ⟨_, he, rfl, hb⟩)
                · intro a1 w1 hG hF
                  exact s_old rfl (wants0 rfl) (.tmp 1) (.inr rfl) (.pointer (some ⟨p', 0, none⟩)) (hF.ol 1 (by kernel_rfl)) rfl
                · intro a1 w1 hG hF
                  exact s_old rfl (wants0 rfl) (.tmp 9) (.inr rfl) (.int .i64 ((l : Nat) : Int)) (hF.ol 9 (by kernel_rfl)) rfl
                · intro a1 w1 hG hF
                  exact s_old rfl (wants0 rfl) (.tmp 8) (.inr rfl) (.slice (some ad) n c) (hF.ol 8 (by kernel_rfl)) rfl
                · intro a1 w1 hG hF
                  exact s_old rfl (wants0 rfl) (.tmp 11) (.inr rfl) (.int .i64 ((i : Nat) : Int)) (hF.ol 11 (by kernel_rfl)) rfl
                · intro a1 w1 hG hF
                  obtain ⟨_, e33, rfl⟩ := hF.dp 9 33 (by kernel_rfl)
                  obtain ⟨_, e34, rfl⟩ := hF.dp 10 34 (by kernel_rfl)
                  exact s_is rfl (wants0 rfl) _ rfl (by simp only [execOp, e33, e34]; go_simp; try (intro h; omega))
                · intro a1 w1 hG hF
                  obtain ⟨_, e35, rfl⟩ := hF.dp 11 35 (by kernel_rfl)
                  have hc : w1.cell? (ad.add i) = some (.int .i64 (x : Int)) := Gr.cell ((Gr.drew wr).trans hG) kx
                  exact s_is rfl (wants0 rfl) _ rfl (by simp only [execOp, e35]; go_simp)
                · intro a1 w1 hG hF
                  obtain ⟨_, e31, rfl⟩ := hF.dp 7 31 (by kernel_rfl)
                  obtain ⟨_, e32, rfl⟩ := hF.dp 8 32 (by kernel_rfl)
                  obtain ⟨_, e36, rfl⟩ := hF.dp 12 36 (by kernel_rfl)
                  exact s_call rfl (wants0 rfl) _ rfl _ _ (by simp only [execOp, resolve, invoke, List.map_toArray, List.map_cons, List.map_nil, e31, e32, e36]; go_simp) ((HN2.out w1 ((Gr.drew wr).trans hG)).mono fun e w2 ⟨he, hb⟩ => ⟨_, he, rfl, hb⟩)
                · intro a1 w1 hG hF
                  obtain ⟨_, e30, rfl⟩ := hF.dp 6 30 (by kernel_rfl)
                  obtain ⟨_, e37, rfl⟩ := hF.dp 13 37 (by kernel_rfl)
                  exact s_is rfl (wants0 rfl) _ rfl (by simp only [execOp, e30, e37]; go_simp; exact HEQ.out)
              · intro vs w1 hGw hf
                have z38 : vs 14 = .bool false := hf.2.2.2.2.2.2.2.2.2.2.2.2.2.2.1
                clear hf
                simp only [putAll, Nat.zero_add, Nat.reduceAdd, z38]
                have hG9 := hGr.trans ((Gr.drew wr).trans hGw)
                have ho4 := Gr.own ((Gr.drew wr).trans hGw) ho2
                have kx4 := Gr.cell ((Gr.drew wr).trans hGw) kx
                obtain ⟨w4, hw4⟩ : ∃ w, w = w1 := ⟨_, rfl⟩
                rw [← hw4] at hG9 ho4 kx4 ⊢
                clear hw4 hGw hGr ho2 kx
                go_simp
                have hbl : belowL l x = [x] := by unfold belowL; rw [if_pos HL4.out]
                rw [hbl] at HSU
                have hon := Gr.own (Gr.alloc w4 (.cells #[.int .i64 (x : Int)] 3)) ho4
                have hG5 := hG9.trans (Gr.alloc w4 (.cells #[.int .i64 (x : Int)] 3))
                have hBn := hG5.size
                have hAn : Arr (w4.alloc (.cells #[.int .i64 (x : Int)] 3)) w4.heap.size 3 [.int .i64 (x : Int)] := Arr.newAt rfl rfl
                have HE : Hid (∀ A3 c3 w6, w6.ownsRow wl.heap.size 3 1 (.slice A3 (m2 + 1) c3) (m2 + 1) (intV (unlikeL R S l (at_.take i)) ++ [.int .i64 (x : Int)]) → Gr wl w6 → GrowR R S l n at_ wl (.slice A3 (m2 + 1) c3) (.int .i64 ((i : Int) + 1)) w6) := Lib.hid (fun A3 c3 w6 h6 hG6 =>
                  ⟨i + 1, m2 + 1, A3, c3, by omega, by simp, by rw [HSU.out, List.length_append, HM2.out]; rfl, rfl, by rw [HSU.out, intV_append]; exact h6, hG6⟩)
                clear hG9 ho4 hbl
                go_wp2_with (at_builtin; go_must (refine wpList_appT rfl (.tmp 41) (.tmp 46) 27 rfl wl.heap.size 3 i0 (.int .i64 0) 1 8 Tryd.underlying27 hi0 hz0 hz1 hz2 rfl (by omega) rfl hon ⟨w4.heap.size, 0, none⟩ 1 1 [.int .i64 (x : Int)] rfl rfl (fun j u h => by rw [add_row, Nat.zero_add]; exact hAn.cell h) (by simp [Value.oneCell']) (by unfold maxLen; omega) (by omega) hBn ?_; intro A3 c3 w6 h6 _ hT6; have hR9 := HE.out A3 c3 w6 h6 (Below.trans hG5 ((hT6 intT (fun _ _ _ => by simp [intT])).below hBn)); clear h6 hT6))
                exact ⟨⟨hR9, rfl⟩, by simp only [intOf]; omega⟩
          · obtain rfl : n = i := by omega
            have hci : ¬ (n : Int) < (n : Int) := by omega
            have hR9 : RefLvR R S w (.slice A2 m2 c2) (.int .i64 (T : Int)) (.slice none 0 0) (.int .i64 ((l : Int) + 1)) wr := by
              rw [List.take_of_length_le (Nat.le_of_eq HN.out.symm), ← HLS.out, HL4.out] at ho2
              refine .inr ⟨m2, A2, c2, rfl, by rw [HT.out, HL4.out], by rw [HL4.out]; rfl, ?_, own_base ho2 hG.size, hG.trans hGr⟩
              have h1 := HM2.out
              rw [List.take_of_length_le (Nat.le_of_eq HN.out.symm), ← HLS.out, HL4.out] at h1
              exact h1
            clear ho2 hGr
            go_wp2_with fail
            exact ⟨hR9, by simp only [intOf]; omega⟩
      · skip
        have hcl4 : ((l : Int) == 4) = false := beq_false_of_ne (by omega)
        go_upto_region 9 with fail
        go_loopw [6, 10, 11] (fun v6 v10 k wr => GrowR R S l n at_ wl v10 k wr ∧ v6 = .slice none 0 0) (fun _ _ k _ => n - (intOf k).toNat)
        case atStart => exact ⟨⟨0, 0, none, 0, by omega, rfl, rfl, rfl, ⟨rfl, .inl ⟨rfl, rfl⟩⟩, Gr.refl _⟩, rfl⟩
        case round =>
          obtain ⟨hrel1, rfl⟩ := hrel
          obtain ⟨i, m2, A2, c2, hi, rfl, hm2, rfl, ho2, hGr⟩ := GrowR.out hrel1
          have hm4 : m2 ≤ 4 * i := by
            have h1 := unlikeL_length R S l (at_.take i)
            rw [← hm2] at h1
            have h2 : (at_.take i).length ≤ i := by rw [List.length_take]; omega
            omega
          have HM2 := Lib.hid hm2
          clear hrel1 hm2
          by_cases hlt : i < n
          · skip
            obtain ⟨x, hx⟩ : ∃ x, at_[i]? = some x := ⟨_, List.getElem?_eq_getElem (by rw [← HN.out]; exact hlt)⟩
            have hxl := HLT.out x (List.mem_of_getElem? hx)
            obtain ⟨ad, rfl, hcx⟩ := HRD.out.2 i (.int .i64 (x : Int)) (intV_at hx)
            have kx : wr.cell? (ad.add i) = some (.int .i64 (x : Int)) := Gr.cell hGr hcx
            have hsu := unlikeL_succ (R := R) (S := S) (l := l) hx
            obtain ⟨D1, hD1⟩ : ∃ D, D = nodeR R (4 - l) x := ⟨_, rfl⟩
            obtain ⟨D2, hD2⟩ : ∃ D, D = nodeR S (4 - l) x := ⟨_, rfl⟩
            have HN1 : Hid (∀ w1, Gr wr w1 → Calls Tryd.prog 15 #[.pointer (some ⟨p, 0, none⟩), .int .i64 (l : Int), .int .i64 (x : Int)] w1 fun e w' => e = .returned (.string ⟨D1.toArray⟩) ∧ Gr w1 w') := Lib.hid (fun w1 h => by
              have h1 := refNode_any hRl (4 - l) (by omega) x (by rw [show 4 - (4 - l) = l by omega]; exact hxl) w1 (HR.out.gr (hG.trans (hGr.trans h)))
              rw [show 4 - (4 - l) = l by omega, ← hD1] at h1
              exact h1)
            have HN2 : Hid (∀ w1, Gr wr w1 → Calls Tryd.prog 15 #[.pointer (some ⟨p', 0, none⟩), .int .i64 (l : Int), .int .i64 (x : Int)] w1 fun e w' => e = .returned (.string ⟨D2.toArray⟩) ∧ Gr w1 w') := Lib.hid (fun w1 h => by
              have h1 := refNode_any hSl (4 - l) (by omega) x (by rw [show 4 - (4 - l) = l by omega]; exact hxl) w1 (HS.out.gr (hG.trans (hGr.trans h)))
              rw [show 4 - (4 - l) = l by omega, ← hD2] at h1
              exact h1)
            rw [← hD1, ← hD2] at hsu
            have hx256 : x < 256 := Nat.lt_of_lt_of_le hxl (Nat.pow_le_pow_right (by omega) hl)
            have hci : (i : Int) < (n : Int) := by omega
            have kxl0 : wl.cell? (ad.add i) = some (.int .i64 (x : Int)) := hcx
            clear hx hcx hD1 hD2 hxl
            by_cases hDD : D1 = D2
            · rw [if_pos hDD, List.append_nil] at hsu
              have HSU := Lib.hid hsu
              have HEQ : Hid (D1 = D2) := Lib.hid hDD
              clear hsu hDD
              go_upto_region 11 with fail
              refine wp_region_ssaL (by kernel_rfl) [IsV (.pointer (some ⟨p, 0, none⟩)), IsV (.int .i64 ((l : Nat) : Int)), IsV (.slice (some ad) n c), IsV (.int .i64 ((i : Nat) : Int)), IsV (.pointer (some (ad.add i))), IsV (.int .i64 ((x : Nat) : Int)), IsV (.string ⟨(D1).toArray⟩), IsV (.pointer (some ⟨p', 0, none⟩)), IsV (.int .i64 ((l : Nat) : Int)), IsV (.slice (some ad) n c), IsV (.int .i64 ((i : Nat) : Int)), IsV (.pointer (some (ad.add i))), IsV (.int .i64 ((x : Nat) : Int)), IsV (.string ⟨(D2).toArray⟩), IsV (.bool true)] (by kernel_rfl) ?_ ?_ ?_
              · intro φ hφ v w1 w2 h hg
                simp only [List.mem_cons, List.not_mem_nil, or_false] at hφ
                rcases hφ with rfl | rfl | rfl | rfl | rfl | rfl | rfl | rfl | rfl | rfl | rfl | rfl | rfl | rfl | rfl
                all_goals first | exact h | exact RdV.gr h hg
              · refine ⟨?_, ?_, ?_, ?_, ?_, ?_, ?_, ?_, ?_, ?_, ?_, ?_, ?_, ?_, ?_, trivial⟩
                · intro a1 w1 hG hF
                  exact s_old rfl (wants0 rfl) (.tmp 0) (.inr rfl) (.pointer (some ⟨p, 0, none⟩)) (hF.ol 0 (by kernel_rfl)) rfl
                · intro a1 w1 hG hF
                  exact s_old rfl (wants0 rfl) (.tmp 9) (.inr rfl) (.int .i64 ((l : Nat) : Int)) (hF.ol 9 (by kernel_rfl)) rfl
                · intro a1 w1 hG hF
                  exact s_old rfl (wants0 rfl) (.tmp 8) (.inr rfl) (.slice (some ad) n c) (hF.ol 8 (by kernel_rfl)) rfl
                · intro a1 w1 hG hF
                  exact s_old rfl (wants0 rfl) (.tmp 11) (.inr rfl) (.int .i64 ((i : Nat) : Int)) (hF.ol 11 (by kernel_rfl)) rfl
                · intro a1 w1 hG hF
                  obtain ⟨_, e26, rfl⟩ := hF.dp 2 26 (by kernel_rfl)
                  obtain ⟨_, e27, rfl⟩ := hF.dp 3 27 (by kernel_rfl)
                  exact s_is rfl (wants0 rfl) _ rfl (by simp only [execOp, e26, e27]; go_simp; try (intro h; omega))
                · intro a1 w1 hG hF
                  obtain ⟨_, e28, rfl⟩ := hF.dp 4 28 (by kernel_rfl)
                  have hc : w1.cell? (ad.add i) = some (.int .i64 (x : Int)) := Gr.cell ((Gr.drew wr).trans hG) kx
                  exact s_is rfl (wants0 rfl) _ rfl (by simp only [execOp, e28]; go_simp)
                · intro a1 w1 hG hF
                  obtain ⟨_, e24, rfl⟩ := hF.dp 0 24 (by kernel_rfl)
                  obtain ⟨_, e25, rfl⟩ := hF.dp 1 25 (by kernel_rfl)
                  obtain ⟨_, e29, rfl⟩ := hF.dp 5 29 (by kernel_rfl)
                  exact s_call rfl (wants0 rfl) _ rfl _ _ (by simp only [execOp, resolve, invoke, List.map_toArray, List.map_cons, List.map_nil, e24, e25, e29]; go_simp) ((HN1.out w1 ((Gr.drew wr).trans hG)).mono fun e w2 ⟨he, hb⟩ => ⟨_, he, rfl, hb⟩)
                · intro a1 w1 hG hF
                  exact s_old rfl (wants0 rfl) (.tmp 1) (.inr rfl) (.pointer (some ⟨p', 0, none⟩)) (hF.ol 1 (by kernel_rfl)) rfl
                · intro a1 w1 hG hF
                  exact s_old rfl (wants0 rfl) (.tmp 9) (.inr rfl) (.int .i64 ((l : Nat) : Int)) (hF.ol 9 (by kernel_rfl)) rfl
                · intro a1 w1 hG hF
                  exact s_old rfl (wants0 rfl) (.tmp 8) (.inr rfl) (.slice (some ad) n c) (hF.ol 8 (by kernel_rfl)) rfl
                · intro a1 w1 hG hF
                  exact s_old rfl (wants0 rfl) (.tmp 11) (.inr rfl) (.int .i64 ((i : Nat) : Int)) (hF.ol 11 (by kernel_rfl)) rfl
                · intro a1 w1 hG hF
                  obtain ⟨_, e33, rfl⟩ := hF.dp 9 33 (by kernel_rfl)
                  obtain ⟨_, e34, rfl⟩ := hF.dp 10 34 (by kernel_rfl)
                  exact s_is rfl (wants0 rfl) _ rfl (by simp only [execOp, e33, e34]; go_simp; try (intro h; omega))
                · intro a1 w1 hG hF
                  obtain ⟨_, e35, rfl⟩ := hF.dp 11 35 (by kernel_rfl)
                  have hc : w1.cell? (ad.add i) = some (.int .i64 (x : Int)) := Gr.cell ((Gr.drew wr).trans hG) kx
                  exact s_is rfl (wants0 rfl) _ rfl (by simp only [execOp, e35]; go_simp)
                · intro a1 w1 hG hF
                  obtain ⟨_, e31, rfl⟩ := hF.dp 7 31 (by kernel_rfl)
                  obtain ⟨_, e32, rfl⟩ := hF.dp 8 32 (by kernel_rfl)
                  obtain ⟨_, e36, rfl⟩ := hF.dp 12 36 (by kernel_rfl)
                  exact s_call rfl (wants0 rfl) _ rfl _ _ (by simp only [execOp, resolve, invoke, List.map_toArray, List.map_cons, List.map_nil, e31, e32, e36]; go_simp) ((HN2.out w1 ((Gr.drew wr).trans hG)).mono fun e w2 ⟨he, hb⟩ => ⟨_, he, rfl, hb⟩)
                · intro a1 w1 hG hF
                  obtain ⟨_, e30, rfl⟩ := hF.dp 6 30 (by kernel_rfl)
                  obtain ⟨_, e37, rfl⟩ := hF.dp 13 37 (by kernel_rfl)
                  exact s_is rfl (wants0 rfl) _ rfl (by simp only [execOp, e30, e37]; go_simp; exact HEQ.out)
              · intro vs w1 hGw hf
                have z38 : vs 14 = .bool true := hf.2.2.2.2.2.2.2.2.2.2.2.2.2.2.1
                clear hf
                simp only [putAll, Nat.zero_add, Nat.reduceAdd, z38]
                have hG9 := hGr.trans ((Gr.drew wr).trans hGw)
                have hR9 : GrowR R S l n at_ wl (.slice A2 m2 c2) (.int .i64 ((i : Int) + 1)) w1 := ⟨i + 1, m2, A2, c2, by omega, by simp, by rw [HSU.out]; exact HM2.out, rfl, by rw [HSU.out]; exact Gr.own ((Gr.drew wr).trans hGw) ho2, hG9⟩
                clear hGw hG9 ho2 hGr kx
                go_simp
                go_wp2_with fail
                exact ⟨⟨hR9, rfl⟩, by simp only [intOf]; omega⟩
            · rw [if_neg hDD] at hsu
              have HSU := Lib.hid hsu
              have HEQ : Hid (¬ D1 = D2) := Lib.hid hDD
              clear hsu hDD
              go_upto_region 11 with fail
              refine wp_region_ssaL (by kernel_rfl) [IsV (.pointer (some ⟨p, 0, none⟩)), IsV (.int .i64 ((l : Nat) : Int)), IsV (.slice (some ad) n c), IsV (.int .i64 ((i : Nat) : Int)), IsV (.pointer (some (ad.add i))), IsV (.int .i64 ((x : Nat) : Int)), IsV (.string ⟨(D1).toArray⟩), IsV (.pointer (some ⟨p', 0, none⟩)), IsV (.int .i64 ((l : Nat) : Int)), IsV (.slice (some ad) n c), IsV (.int .i64 ((i : Nat) : Int)), IsV (.pointer (some (ad.add i))), IsV (.int .i64 ((x : Nat) : Int)), IsV (.string ⟨(D2).toArray⟩), IsV (.bool false)] (by kernel_rfl) ?_ ?_ ?_
              · intro φ hφ v w1 w2 h hg
                simp only [List.mem_cons, List.not_mem_nil, or_false] at hφ
                rcases hφ with rfl | rfl | rfl | rfl | rfl | rfl | rfl | rfl | rfl | rfl | rfl | rfl | rfl | rfl | rfl
                all_goals first | exact h | exact RdV.gr h hg
              · refine ⟨?_, ?_, ?_, ?_, ?_, ?_, ?_, ?_, ?_, ?_, ?_, ?_, ?_, ?_, ?_, trivial⟩
                · intro a1 w1 hG hF
                  exact s_old rfl (wants0 rfl) (.tmp 0) (.inr rfl) (.pointer (some ⟨p, 0, none⟩)) (hF.ol 0 (by kernel_rfl)) rfl
                · intro a1 w1 hG hF
                  exact s_old rfl (wants0 rfl) (.tmp 9) (.inr rfl) (.int .i64 ((l : Nat) : Int)) (hF.ol 9 (by kernel_rfl)) rfl
                · intro a1 w1 hG hF
                  exact s_old rfl (wants0 rfl) (.tmp 8) (.inr rfl) (.slice (some ad) n c) (hF.ol 8 (by kernel_rfl)) rfl
                · intro a1 w1 hG hF
                  exact s_old rfl (wants0 rfl) (.tmp 11) (.inr rfl) (.int .i64 ((i : Nat) : Int)) (hF.ol 11 (by kernel_rfl)) rfl
                · intro a1 w1 hG hF
                  obtain ⟨_, e26, rfl⟩ := hF.dp 2 26 (by kernel_rfl)
                  obtain ⟨_, e27, rfl⟩ := hF.dp 3 27 (by kernel_rfl)
                  exact s_is rfl (wants0 rfl) _ rfl (by simp only [execOp, e26, e27]; go_simp; try (intro h; omega))
                · intro a1 w1 hG hF
                  obtain ⟨_, e28, rfl⟩ := hF.dp 4 28 (by kernel_rfl)
                  have hc : w1.cell? (ad.add i) = some (.int .i64 (x : Int)) := Gr.cell ((Gr.drew wr).trans hG) kx
                  exact s_is rfl (wants0 rfl) _ rfl (by simp only [execOp, e28]; go_simp)
                · intro a1 w1 hG hF
                  obtain ⟨_, e24, rfl⟩ := hF.dp 0 24 (by kernel_rfl)
                  obtain ⟨_, e25, rfl⟩ := hF.dp 1 25 (by kernel_rfl)
                  obtain ⟨_, e29, rfl⟩ := hF.dp 5 29 (by kernel_rfl)
                  exact s_call rfl (wants0 rfl) _ rfl _ _ (by simp only [execOp, resolve, invoke, List.map_toArray, List.map_cons, List.map_nil, e24, e25, e29]; go_simp) ((HN1.out w1 ((Gr.drew wr).trans hG)).mono fun e w2 ⟨he, hb⟩ => ⟨_, he, rfl, hb⟩)
                · intro a1 w1 hG hF
                  exact s_old rfl (wants0 rfl) (.tmp 1) (.inr rfl) (.pointer (some ⟨p', 0, none⟩)) (hF.ol 1 (by kernel_rfl)) rfl
                · intro a1 w1 hG hF
                  exact s_old rfl (wants0 rfl) (.tmp 9) (.inr rfl) (.int .i64 ((l : Nat) : Int)) (hF.ol 9 (by kernel_rfl)) rfl
                · intro a1 w1 hG hF
                  exact s_old rfl (wants0 rfl) (.tmp 8) (.inr rfl) (.slice (some ad) n c) (hF.ol 8 (by kernel_rfl)) rfl
                · intro a1 w1 hG hF
                  exact s_old rfl (wants0 rfl) (.tmp 11) (.inr rfl) (.int .i64 ((i : Nat) : Int)) (hF.ol 11 (by kernel_rfl)) rfl
                · intro a1 w1 hG hF
                  obtain ⟨_, e33, rfl⟩ := hF.dp 9 33 (by kernel_rfl)
                  obtain ⟨_, e34, rfl⟩ := hF.dp 10 34 (by kernel_rfl)
                  exact s_is rfl (wants0 rfl) _ rfl (by simp only [execOp, e33, e34]; go_simp; try (intro h; omega))
                · intro a1 w1 hG hF
                  obtain ⟨_, e35, rfl⟩ := hF.dp 11 35 (by kernel_rfl)
                  have hc : w1.cell? (ad.add i) = some (.int .i64 (x : Int)) := Gr.cell ((Gr.drew wr).trans hG) kx
                  exact s_is rfl (wants0 rfl) _ rfl (by simp only [execOp, e35]; go_simp)
                · intro a1 w1 hG hF
                  obtain ⟨_, e31, rfl⟩ := hF.dp 7 31 (by kernel_rfl)
                  obtain ⟨_, e32, rfl⟩ := hF.dp 8 32 (by kernel_rfl)
                  obtain ⟨_, e36, rfl⟩ := hF.dp 12 36 (by kernel_rfl)
                  exact s_call rfl (wants0 rfl) _ rfl _ _ (by simp only [execOp, resolve, invoke, List.map_toArray, List.map_cons, List.map_nil, e31, e32, e36]; go_simp) ((HN2.out w1 ((Gr.drew wr).trans hG)).mono fun e w2 ⟨he, hb⟩ => ⟨_, he, rfl, hb⟩)
                · intro a1 w1 hG hF
                  obtain ⟨_, e30, rfl⟩ := hF.dp 6 30 (by kernel_rfl)
                  obtain ⟨_, e37, rfl⟩ := hF.dp 13 37 (by kernel_rfl)
                  exact s_is rfl (wants0 rfl) _ rfl (by simp only [execOp, e30, e37]; go_simp; exact HEQ.out)
              · intro vs w1 hGw hf
                have z38 : vs 14 = .bool false := hf.2.2.2.2.2.2.2.2.2.2.2.2.2.2.1
                clear hf
                simp only [putAll, Nat.zero_add, Nat.reduceAdd, z38]
                have hG9 := hGr.trans ((Gr.drew wr).trans hGw)
                have ho4 := Gr.own ((Gr.drew wr).trans hGw) ho2
                have kx4 := Gr.cell ((Gr.drew wr).trans hGw) kx
                obtain ⟨w4, hw4⟩ : ∃ w, w = w1 := ⟨_, rfl⟩
                rw [← hw4] at hG9 ho4 kx4 ⊢
                clear hw4 hGw hGr ho2 kx
                go_simp
                have hbl : belowL l x = fourL x 4 := by unfold belowL; rw [if_neg hl4]; rfl
                rw [hbl] at HSU
                have HSTF : Hid (FourR (unlikeL R S l (at_.take i)) x m2 wl (.slice A2 m2 c2) (.int .i64 0) w4) := Lib.hid ⟨0, A2, c2, by omega, rfl, rfl, by rw [show fourL x 0 = [] from rfl, List.append_nil]; exact ho4, hG9⟩
                have kxl : wl.cell? (ad.add i) = some (.int .i64 (x : Int)) := kxl0
                clear hbl ho4 hG9
                go_upto_region 15 with fail
                go_loopw [10, 12] (fun v k wr => FourR (unlikeL R S l (at_.take i)) x m2 wl v k wr) (fun _ k _ => 4 - (intOf k).toNat)
                case atStart => exact HSTF.out
                case round =>
                  obtain ⟨j, A5, c5, hj, rfl, rfl, ho5, hG5⟩ := FourR.out hrel
                  clear hrel
                  have kx5 : wr.cell? (ad.add i) = some (.int .i64 (x : Int)) := Gr.cell hG5 kxl
                  by_cases hj4 : j < 4
                  · have hcj : (j : Int) < 4 := by omega
                    have hon := Gr.own (Gr.alloc wr (.cells #[.int .i64 (4 * (x : Int) + (j : Int))] 3)) ho5
                    have hG6 := hG5.trans (Gr.alloc wr (.cells #[.int .i64 (4 * (x : Int) + (j : Int))] 3))
                    have hBn := hG6.size
                    have hAn : Arr (wr.alloc (.cells #[.int .i64 (4 * (x : Int) + (j : Int))] 3)) wr.heap.size 3 [.int .i64 (4 * (x : Int) + (j : Int))] := Arr.newAt rfl rfl
                    have HE : Hid (∀ A3 c3 w6, w6.ownsRow wl.heap.size 3 1 (.slice A3 (m2 + j + 1) c3) (m2 + j + 1) (intV (unlikeL R S l (at_.take i) ++ fourL x j) ++ [.int .i64 (4 * (x : Int) + (j : Int))]) → Gr wl w6 → FourR (unlikeL R S l (at_.take i)) x m2 wl (.slice A3 (m2 + j + 1) c3) (.int .i64 ((j : Int) + 1)) w6) := Lib.hid (fun A3 c3 w6 h6 hG6 => by
                      refine ⟨j + 1, A3, c3, by omega, by simp, rfl, ?_, hG6⟩
                      rw [fourL_succ, ← List.append_assoc, intV_append]
                      have e : intV [4 * x + j] = [.int .i64 (4 * (x : Int) + (j : Int))] := by simp [intV]
                      rw [e]
                      exact h6)
                    clear hG5 ho5
                    go_wp2_with (at_builtin; go_must (refine wpList_appT rfl (.tmp 52) (.tmp 60) 27 rfl wl.heap.size 3 i0 (.int .i64 0) 1 8 Tryd.underlying27 hi0 hz0 hz1 hz2 rfl (by omega) rfl hon ⟨wr.heap.size, 0, none⟩ 1 1 [.int .i64 (4 * (x : Int) + (j : Int))] rfl rfl (fun j u h => by rw [add_row, Nat.zero_add]; exact hAn.cell h) (by simp [Value.oneCell']) (by unfold maxLen; omega) (by omega) hBn ?_; intro A3 c3 w6 h6 _ hT6; have hR6 := HE.out A3 c3 w6 h6 (Below.trans hG6 ((hT6 intT (fun _ _ _ => by simp [intT])).below hBn)); clear h6 hT6))
                    exact ⟨hR6, by simp only [intOf]; omega⟩
                  · have hj4' : j = 4 := by omega
                    have hcj : ¬ (j : Int) < 4 := by omega
                    have hR9 : GrowR R S l n at_ wl (.slice A5 (m2 + j) c5) (.int .i64 ((i : Int) + 1)) wr := ⟨i + 1, m2 + j, A5, c5, by omega, by simp, by rw [HSU.out, List.length_append, hj4', HM2.out]; rfl, rfl, by rw [HSU.out]; rw [hj4'] at ho5 ⊢; exact ho5, hG5⟩
                    clear hj4' ho5 hG5
                    go_wp2_with fail
                    exact ⟨⟨hR9, rfl⟩, by simp only [intOf]; omega⟩
          · obtain rfl : n = i := by omega
            have hci : ¬ (n : Int) < (n : Int) := by omega
            have hR9 : RefLvR R S w (.slice none 0 0) (.int .i64 ((T : Int) + (m2 : Int))) (.slice A2 m2 c2) (.int .i64 ((l : Int) + 1)) wr := by
              rw [List.take_of_length_le (Nat.le_of_eq HN.out.symm), ← HLS.out] at ho2
              have h1 := HM2.out
              rw [List.take_of_length_le (Nat.le_of_eq HN.out.symm), ← HLS.out] at h1
              refine .inl ⟨l + 1, m2, A2, c2, by omega, rfl, ?_, h1, rfl, by simp, own_base ho2 hG.size, hG.trans hGr⟩
              rw [toldL_succ R S (l + 1), ← HT.out, ← h1]
              simp
            clear ho2 hGr
            go_wp2_with fail
            exact ⟨hR9, by simp only [intOf]; omega⟩
    · have HQ : Hid (RefLvQ R S w (.returned (.tuple #[.slice A m c, .int .i64 (toldL R S 5 : Int)])) wr) := Lib.hid ⟨A, m, c, rfl, hm, ho, hG⟩
      clear hrel hm ho hG HST
      go_wp2_with fail
      refine bodyPost_ret (results_tmp2 rfl _ _ _) rfl ?_
      exact HQ.out
end Go.Proofs.YthpgldfjcancjaaDoor
