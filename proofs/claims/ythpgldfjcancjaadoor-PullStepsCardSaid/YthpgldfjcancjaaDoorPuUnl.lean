/- The walk of pull.Unlike. No condition. -/
import Derived.Test.YthpgldfjcancjaaDoorPuTell
import Derived.Test.YthpgldfjcancjaaDoorPuBelow
import Derived.BigQuiet
namespace Go.Proofs.YthpgldfjcancjaaDoor
open Go.RowKit
/-- Of the first i nodes: what is below those that are unlike. -/
def outU (D E : Nat → Nm) (at_ : List Nat) (l i : Nat) : List Nat := (List.range i).flatMap fun j => if (D j).1 = (E j).1 then [] else belowL l (at_.getD j 0)
theorem outU_succ (D E : Nat → Nm) (at_ : List Nat) (l i : Nat) : outU D E at_ l (i + 1) = outU D E at_ l i ++ (if (D i).1 = (E i).1 then [] else belowL l (at_.getD i 0)) := by
  unfold outU
  rw [List.range_succ, List.flatMap_append, List.flatMap_singleton]
theorem outU_length (D E : Nat → Nm) (at_ : List Nat) (l : Nat) : ∀ i, (outU D E at_ l i).length ≤ 4 * i
  | 0 => Nat.le_refl _
  | i + 1 => by
    rw [outU_succ, List.length_append]
    have := outU_length D E at_ l i
    have : (if (D i).1 = (E i).1 then [] else belowL l (at_.getD i 0)).length ≤ 4 := by
      split
      · simp
      · exact belowL_length _ _
    omega
/-- Digests in memory, one behind the other, out of a row of one's own. -/
theorem nmr_own {w : World} {B : Nat} {e : TypeId} {A : Option Addr} {n c : Nat} {L : List Nm} (h : w.ownsRow B e 32 (.slice A n c) n (L.flatMap encN)) (hl : L.length = n) : NmR w A n L := by
  refine ⟨hl, fun i x hx => ?_⟩
  have hin : i < n := by
    have := (List.getElem?_eq_some_iff.1 hx).1
    omega
  rcases h.2 with ⟨_, e2⟩ | ⟨g, cap, cur, e1, _⟩
  · omega
  · injection e1 with e1
    subst e1
    refine ⟨g, rfl, fun j u hj => ?_⟩
    have hj32 : j < 32 := by
      have := (List.getElem?_eq_some_iff.1 hj).1
      rwa [encN_length] at this
    have hc := h.cells (g := g) rfl (i * 32 + j) u (by rw [flat_get encN_length L i j hj32, hx]; exact hj)
    rw [add_row, Nat.zero_add] at hc
    exact hc
theorem own_base {w : World} {B B' : Nat} {e : TypeId} {size : Nat} {v : Value} {n : Nat} {xs : List Value} (h : w.ownsRow B' e size v n xs) (hB : B ≤ B') : w.ownsRow B e size v n xs := by
  refine ⟨h.1, ?_⟩
  rcases h.2 with h2 | ⟨g, cap, cur, e1, h1, h2⟩
  · exact .inl h2
  · exact .inr ⟨g, cap, cur, e1, Nat.le_trans hB h1, h2⟩
theorem own_some {w : World} {B : Nat} {e : TypeId} {size : Nat} {A : Option Addr} {n c : Nat} {xs : List Value} (h : w.ownsRow B e size (.slice A n c) n xs) (hn : 0 < n) : ∃ g, A = some ⟨g, 0, none⟩ := by
  rcases h.2 with ⟨_, e2⟩ | ⟨g, cap, cur, e1, _⟩
  · omega
  · injection e1 with e1 _ _
    exact ⟨g, e1⟩
theorem own_cap {w : World} {B : Nat} {e : TypeId} {size : Nat} {A : Option Addr} {n c : Nat} {xs : List Value} (h : w.ownsRow B e size (.slice A n c) n xs) : n ≤ c := by
  rcases h.2 with ⟨e1, e2⟩ | ⟨g, cap, cur, e1, _, _, hn, _⟩
  · injection e1 with _ _ e3
    omega
  · injection e1 with _ _ e3
    omega
theorem rd_cell {w : World} {a : Addr} {n : Nat} {xs : List Value} (h : Rd w (some a) n xs) {j : Nat} {u : Value} (hj : xs[j]? = some u) : w.cell? (a.add j) = some u := by
  obtain ⟨ad, e, hc⟩ := h.2 j u hj
  injection e with e
  subst e
  exact hc
/-- The loop. -/
def UnlR (n : Nat) (D E : Nat → Nm) (at_ : List Nat) (l : Nat) (w0 : World) (v k : Value) (w : World) : Prop := ∃ (i m : Nat) (A : Option Addr) (c : Nat), i ≤ n ∧ m = (outU D E at_ l i).length ∧ v = .slice A m c ∧ k = .int .i64 (i : Int) ∧ w.ownsRow w0.heap.size 3 1 (.slice A m c) m (intV (outU D E at_ l i)) ∧ Gr w0 w
theorem UnlR.out {n : Nat} {D E : Nat → Nm} {at_ : List Nat} {l : Nat} {w0 : World} {v k : Value} {w : World} (h : UnlR n D E at_ l w0 v k w) : ∃ (i m : Nat) (A : Option Addr) (c : Nat), i ≤ n ∧ m = (outU D E at_ l i).length ∧ v = .slice A m c ∧ k = .int .i64 (i : Int) ∧ w.ownsRow w0.heap.size 3 1 (.slice A m c) m (intV (outU D E at_ l i)) ∧ Gr w0 w := h
/-- Some node is not there. -/
theorem unlike_no {w : World} {q : Option Addr} {lv : Int} {zs : List Int} {ok : Nat → Bool} {D : Nat → Nm} {A Ao : Option Addr} {n c no co : Nat} (hc : NodeQ q lv zs ok D w) (hz : Rd w A n (zs.map fun z => Value.int .i64 z)) (hn : n ≤ 100000) (hno : ∃ j, j < n ∧ ok j = false) :
    Calls Tryd.prog 14 #[.pointer q, .int .i64 lv, .slice A n c, .slice Ao no co] w fun e w' => e = .returned (.tuple #[.slice none 0 0, .int .i64 1]) ∧ Gr w w' := by
  have HT : Hid (Calls Tryd.prog 13 #[.pointer q, .int .i64 lv, .slice A n c] w fun e w' => e = .returned (.tuple #[.slice none 0 0, .int .i64 1]) ∧ Gr w w') := Lib.hid ((tell_any hc hz hn).mono fun e w' h => by
    rcases h with ⟨h1, _⟩ | ⟨_, h2, h3⟩
    · obtain ⟨j, hj, hf⟩ := hno
      rw [h1 j hj] at hf
      cases hf
    · exact ⟨h2, h3⟩)
  clear hc hz hno
  go_enter Tryd.func14, Tryd.ntmps14
  go_wp2_with (go_at_call 13; refine HT.out.mono ?_; rintro e w1 ⟨rfl, hG1⟩)
  refine bodyPost_ret (results_tmp2 rfl _ _ _) rfl ?_
  exact ⟨rfl, hG1⟩
/-- All nodes are there, but other digests are too many or too few. -/
theorem unlike_len {w : World} {q : Option Addr} {lv : Int} {zs : List Int} {ok : Nat → Bool} {D : Nat → Nm} {A Ao : Option Addr} {n c no co : Nat} (hc : NodeQ q lv zs ok D w) (hz : Rd w A n (zs.map fun z => Value.int .i64 z)) (hn : n ≤ 100000) (hne : n ≠ no) :
    Calls Tryd.prog 14 #[.pointer q, .int .i64 lv, .slice A n c, .slice Ao no co] w fun e w' => e = .returned (.tuple #[.slice none 0 0, .int .i64 1]) ∧ Gr w w' := by
  by_cases hno : ∃ j, j < n ∧ ok j = false
  · exact unlike_no hc hz hn hno
  · have HT : Hid (Calls Tryd.prog 13 #[.pointer q, .int .i64 lv, .slice A n c] w fun e w' => ∃ A c, e = .returned (.tuple #[.slice A n c, .int .i64 0]) ∧ Gr w w') := Lib.hid ((tell_any hc hz hn).mono fun e w' h => by
      rcases h with ⟨_, ⟨A, c, h2, _⟩, h3⟩ | ⟨h1, _⟩
      · exact ⟨A, c, h2, h3⟩
      · exact absurd h1 hno)
    have hnei : ¬ (n : Int) = (no : Int) := by omega
    clear hc hz hno
    go_enter Tryd.func14, Tryd.ntmps14
    go_wp2_with (go_at_call 13; refine HT.out.mono ?_; rintro e w1 ⟨A1, c1, rfl, hG1⟩)
    refine bodyPost_ret (results_tmp2 rfl _ _ _) rfl ?_
    exact ⟨rfl, hG1⟩
set_option maxRecDepth 100000 in
set_option maxHeartbeats 8000000 in
theorem unlike_any {w : World} {q : Option Addr} {lv : Int} {at_ : List Nat} {D E : Nat → Nm} {A Ao : Option Addr} {n c co : Nat} (hc : NodeQ q lv (at_.map fun x : Nat => (x : Int)) (fun _ => true) D w) (hz : Rd w A n (intV at_)) (hn : n ≤ 1000) (hE : NmR w Ao n (digs E n)) (l : Nat) (hlv : 0 < n → lv = (l : Int) ∧ l < 5) (hat : ∀ x ∈ at_, x < 256) :
    Calls Tryd.prog 14 #[.pointer q, .int .i64 lv, .slice A n c, .slice Ao n co] w fun e w' => ∃ A' m c', e = .returned (.tuple #[.slice A' m c', .int .i64 0]) ∧ m = (outU D E at_ l n).length ∧ w'.ownsRow w.heap.size 3 1 (.slice A' m c') m (intV (outU D E at_ l n)) ∧ Gr w w' := by
  obtain ⟨i0, hi0, hz0, hz1, hz2⟩ := infoInt_parts
  have HT : Hid (Calls Tryd.prog 13 #[.pointer q, .int .i64 lv, .slice A n c] w fun e w' => ∃ A c, e = .returned (.tuple #[.slice A n c, .int .i64 0]) ∧ NmR w' A n (digs D n) ∧ Gr w w') := Lib.hid ((tell_any hc (by rw [List.map_map]; exact hz) (by omega)).mono fun e w' h => by
    rcases h with ⟨_, ⟨A, c, h2, h4⟩, h3⟩ | ⟨⟨j, _, hf⟩, _⟩
    · exact ⟨A, c, h2, nmr_own h4 (digs_length D n), h3⟩
    · cases hf)
  have hzl : at_.length = n := by have := hz.1; rwa [intV_length] at this
  have HL := Lib.hid hzl
  have HZ := Lib.hid hz
  have HE := Lib.hid hE
  have HLV := Lib.hid hlv
  have HAT := Lib.hid hat
  clear hc hz hzl hE hlv hat
  go_enter Tryd.func14, Tryd.ntmps14
  go_upto_region 8 with (go_at_call 13; refine HT.out.mono ?_; rintro e w1' ⟨Am, cm, rfl, hNm, hG1⟩)
  have HNm := Lib.hid hNm
  clear hNm
  go_loopw [12, 34] (fun v k wr => UnlR n D E at_ l w1' v k wr) (fun _ k _ => n - (intOf k).toNat)
  case atStart => exact ⟨0, 0, none, 0, by omega, rfl, rfl, rfl, ⟨rfl, .inl ⟨rfl, rfl⟩⟩, Gr.refl _⟩
  case round =>
    obtain ⟨i, m, A2, c2, hi, hm, rfl, rfl, ho, hG⟩ := UnlR.out hrel
    have hm4 : m ≤ 4 * i := by rw [hm]; exact outU_length D E at_ l i
    have HM := Lib.hid hm
    clear hrel hm
    by_cases hlt : i < n
    · obtain ⟨x, hx⟩ : ∃ x, at_[i]? = some x := ⟨_, List.getElem?_eq_getElem (by rw [HL.out]; exact hlt)⟩
      obtain ⟨rfl, hl5⟩ := HLV.out (by omega)
      have hx256 := HAT.out x (List.mem_of_getElem? hx)
      obtain ⟨ad, rfl, hcx⟩ := HZ.out.2 i (.int .i64 (x : Int)) (intV_at hx)
      have hDi : (digs D n)[i]? = some (D i) := by unfold digs; rw [List.getElem?_map, List.getElem?_range hlt]; rfl
      have hEi : (digs E n)[i]? = some (E i) := by unfold digs; rw [List.getElem?_map, List.getElem?_range hlt]; rfl
      obtain ⟨bm, hAm, hrm⟩ := HNm.out.2 i _ hDi
      obtain ⟨be, hAe, hre⟩ := HE.out.2 i _ hEi
      subst hAm hAe
      obtain ⟨d, hd⟩ : ∃ d, d = D i := ⟨_, rfl⟩
      obtain ⟨e, he⟩ : ∃ e, e = E i := ⟨_, rfl⟩
      rw [← hd] at hrm
      rw [← he] at hre
      have hdl := d.2
      have hel := e.2
      have hgx : at_.getD i 0 = x := by rw [List.getD_eq_getElem?_getD, hx]; rfl
      have hsucc := outU_succ D E at_ l i
      rw [← hd, ← he, hgx] at hsucc
      have HSU := Lib.hid hsucc
      have rgm := hG.range hrm
      have hci : (i : Int) < (n : Int) := by omega
      clear hDi hEi hrm hx hd he hgx hsucc
      go_upto_region 10 with first
        | (refine wpList_load_mid rfl _ _ rfl bm _ rfl (u8s d.1) _ (rangeEq rgm (by omega)) Tryd.underlying43 rfl (infoD d.1 hdl) ?_)
        | (refine wpList_new (w := wr) (t := 43) rfl _ _ _ rfl wr.heap.size (u8s d.1) rfl rfl rfl (by rw [u8s_length, hdl]; kernel_rfl) (infoD d.1 hdl) (u8s_oneCell _) ?_; intro w3 hA3 hG3)
      obtain ⟨g14, hg14⟩ : ∃ g, g = wr.heap.size := ⟨_, rfl⟩
      rw [← hg14] at hA3 ⊢
      have rge : w3.rangeAt be (i * 32) (u8s e.1) := (hG1.trans (hG.trans hG3)).range hre
      have kx : w3.cell? (ad.add i) = some (.int .i64 (x : Int)) := Gr.cell (hG1.trans (hG.trans hG3)) hcx
      have ho3 := Gr.own hG3 ho
      have hG13 := hG.trans hG3
      clear hg14 rgm hre hcx ho hG hG3
      by_cases hde : d.1 = e.1
      · have HNE : Hid (false = !(d.1 == e.1)) := Lib.hid (by rw [hde]; simp)
        have hs := HSU.out
        rw [if_pos hde, List.append_nil] at hs
        have HS := Lib.hid hs
        clear hde hs HSU
        refine wp_region_ssaL (by kernel_rfl) [IsV (.agg (u8s (d.1)).toArray), IsV (.slice (some ⟨be, 0, none⟩) n co), IsV (.int .i64 ((i : Nat) : Int)), IsV (.pointer (some ⟨be, i * 32, none⟩)), IsV (.agg (u8s (e.1)).toArray), IsV (.bool false)] (by kernel_rfl) ?_ ?_ ?_
        · intro φ hφ v w1 w2 h hg
          simp only [List.mem_cons, List.not_mem_nil, or_false] at hφ
          rcases hφ with rfl | rfl | rfl | rfl | rfl | rfl
          all_goals first | exact h | exact RdV.gr h hg
        · refine ⟨?_, ?_, ?_, ?_, ?_, ?_, trivial⟩
          · intro a1 w1 hG hF
            have e14 : a1.eval (.tmp 14) = .pointer (some ⟨g14, 0, none⟩) := hF.ol 14 (by kernel_rfl)
            exact s_is rfl (wants0 rfl) _ rfl (run_loadArr ⟨_, _, Tryd.underlying43⟩ (infoD d.1 hdl) e14 (hA3.gr ((Gr.drew w3).trans hG)))
          · intro a1 w1 hG hF
            exact s_old rfl (wants0 rfl) (.tmp 3) (.inr rfl) (.slice (some ⟨be, 0, none⟩) n co) (hF.ol 3 (by kernel_rfl)) rfl
          · intro a1 w1 hG hF
            exact s_old rfl (wants0 rfl) (.tmp 13) (.inr rfl) (.int .i64 ((i : Nat) : Int)) (hF.ol 13 (by kernel_rfl)) rfl
          · intro a1 w1 hG hF
            obtain ⟨_, e40, rfl⟩ := hF.dp 1 40 (by kernel_rfl)
            obtain ⟨_, e41, rfl⟩ := hF.dp 2 41 (by kernel_rfl)
            exact s_is rfl (wants0 rfl) _ rfl (by simp only [execOp, e40, e41]; go_simp; try (intro h; omega))
          · intro a1 w1 hG hF
            obtain ⟨_, e42, rfl⟩ := hF.dp 3 42 (by kernel_rfl)
            exact s_is rfl (wants0 rfl) _ rfl (run_loadMid ⟨_, _, Tryd.underlying43⟩ (infoD e.1 hel) e42 (((Gr.drew w3).trans hG).range rge))
          · intro a1 w1 hG hF
            obtain ⟨_, e39, rfl⟩ := hF.dp 0 39 (by kernel_rfl)
            obtain ⟨_, e43, rfl⟩ := hF.dp 4 43 (by kernel_rfl)
            exact s_is rfl (wants0 rfl) _ rfl (by rw [HNE.out]; exact run_neBy (by kernel_rfl) Tryd.underlying43 Tryd.underlying5 (fun w => by kernel_rfl) hdl hel e39 e43)
        · intro vs w1 hG hf
          have z44 : vs 5 = .bool false := hf.2.2.2.2.2.1
          clear hf
          simp only [putAll, Nat.zero_add, Nat.reduceAdd, z44]
          have hG9 := hG13.trans ((Gr.drew w3).trans hG)
          have hR9 : UnlR n D E at_ l w1' (.slice A2 m c2) (.int .i64 ((i : Int) + 1)) w1 := ⟨i + 1, m, A2, c2, by omega, by rw [HS.out]; exact HM.out, rfl, by simp, by rw [HS.out]; exact Gr.own ((Gr.drew w3).trans hG) ho3, hG9⟩
          clear hG hG9 hG13 ho3
          go_simp
          go_wp2_with fail
          exact ⟨hR9, by simp only [intOf]; omega⟩
      · have HNE : Hid (true = !(d.1 == e.1)) := Lib.hid (by rw [beq_false_of_ne hde]; rfl)
        have hs := HSU.out
        rw [if_neg hde] at hs
        have HS := Lib.hid hs
        have hBl := below_any l x hl5 hx256
        have HBl : Hid (∀ w, Calls Tryd.prog 24 #[.int .i64 (l : Int), .int .i64 (x : Int)] w fun e w' => ∃ A m c, e = .returned (.slice A m c) ∧ Hid (m = (belowL l x).length) ∧ w'.ownsRow w.heap.size 3 1 (.slice A m c) m (intV (belowL l x)) ∧ Gr w w') := Lib.hid (fun w => (hBl w).mono fun _ _ ⟨A, m, c, h1, h2, h3, h4⟩ => ⟨A, m, c, h1, Lib.hid h2, h3, h4⟩)
        clear hde hs HSU hBl
        refine wp_region_ssaL (by kernel_rfl) [IsV (.agg (u8s (d.1)).toArray), IsV (.slice (some ⟨be, 0, none⟩) n co), IsV (.int .i64 ((i : Nat) : Int)), IsV (.pointer (some ⟨be, i * 32, none⟩)), IsV (.agg (u8s (e.1)).toArray), IsV (.bool true)] (by kernel_rfl) ?_ ?_ ?_
        · intro φ hφ v w1 w2 h hg
          simp only [List.mem_cons, List.not_mem_nil, or_false] at hφ
          rcases hφ with rfl | rfl | rfl | rfl | rfl | rfl
          all_goals first | exact h | exact RdV.gr h hg
        · refine ⟨?_, ?_, ?_, ?_, ?_, ?_, trivial⟩
          · intro a1 w1 hG hF
            have e14 : a1.eval (.tmp 14) = .pointer (some ⟨g14, 0, none⟩) := hF.ol 14 (by kernel_rfl)
            exact s_is rfl (wants0 rfl) _ rfl (run_loadArr ⟨_, _, Tryd.underlying43⟩ (infoD d.1 hdl) e14 (hA3.gr ((Gr.drew w3).trans hG)))
          · intro a1 w1 hG hF
            exact s_old rfl (wants0 rfl) (.tmp 3) (.inr rfl) (.slice (some ⟨be, 0, none⟩) n co) (hF.ol 3 (by kernel_rfl)) rfl
          · intro a1 w1 hG hF
            exact s_old rfl (wants0 rfl) (.tmp 13) (.inr rfl) (.int .i64 ((i : Nat) : Int)) (hF.ol 13 (by kernel_rfl)) rfl
          · intro a1 w1 hG hF
            obtain ⟨_, e40, rfl⟩ := hF.dp 1 40 (by kernel_rfl)
            obtain ⟨_, e41, rfl⟩ := hF.dp 2 41 (by kernel_rfl)
            exact s_is rfl (wants0 rfl) _ rfl (by simp only [execOp, e40, e41]; go_simp; try (intro h; omega))
          · intro a1 w1 hG hF
            obtain ⟨_, e42, rfl⟩ := hF.dp 3 42 (by kernel_rfl)
            exact s_is rfl (wants0 rfl) _ rfl (run_loadMid ⟨_, _, Tryd.underlying43⟩ (infoD e.1 hel) e42 (((Gr.drew w3).trans hG).range rge))
          · intro a1 w1 hG hF
            obtain ⟨_, e39, rfl⟩ := hF.dp 0 39 (by kernel_rfl)
            obtain ⟨_, e43, rfl⟩ := hF.dp 4 43 (by kernel_rfl)
            exact s_is rfl (wants0 rfl) _ rfl (by rw [HNE.out]; exact run_neBy (by kernel_rfl) Tryd.underlying43 Tryd.underlying5 (fun w => by kernel_rfl) hdl hel e39 e43)
        · intro vs w1 hG hf
          have z44 : vs 5 = .bool true := hf.2.2.2.2.2.1
          clear hf
          simp only [putAll, Nat.zero_add, Nat.reduceAdd, z44]
          have hG9 := hG13.trans ((Gr.drew w3).trans hG)
          have ho4 := Gr.own ((Gr.drew w3).trans hG) ho3
          have kx4 := Gr.cell ((Gr.drew w3).trans hG) kx
          obtain ⟨w4, hw4⟩ : ∃ w, w = w1 := ⟨_, rfl⟩
          rw [← hw4] at hG9 ho4 kx4 ⊢
          clear hw4 hG hG13 ho3 kx rge
          go_simp
          have hbl4 := belowL_length l x
          have hbl0 : 0 < (belowL l x).length := by unfold belowL; split <;> simp
          have HE6 : Hid (∀ A6 c6 m5 w6, m5 = (belowL l x).length → w6.ownsRow w1'.heap.size 3 1 (.slice A6 (m + m5) c6) (m + m5) (intV (outU D E at_ l i) ++ intV (belowL l x)) → Gr w1' w6 → UnlR n D E at_ l w1' (.slice A6 (m + m5) c6) (.int .i64 ((i : Int) + 1)) w6) := Lib.hid (fun A6 c6 m5 w6 h5 h6 hG6 =>
            ⟨i + 1, m + m5, A6, c6, by omega, by rw [HS.out, List.length_append, ← h5, HM.out], rfl, by simp, by rw [HS.out, intV_append]; exact h6, hG6⟩)
          go_wp2_with first
            | (go_at_call 24; refine (HBl.out _).mono ?_; rintro e5 w5 ⟨A5, m5, c5, rfl, HM5, ho5, hG5⟩; have hm50 : 0 < m5 := (by rw [HM5.out]; exact hbl0); have hm54 : m5 ≤ 4 := (by rw [HM5.out]; exact hbl4); obtain ⟨g5, rfl⟩ := own_some ho5 hm50; have ho45 := Gr.own hG5 ho4; have hG95 := hG9.trans hG5; have hB5 := hG95.size; have hrd5 := Rd.of_own ho5)
            | (at_builtin; go_must (refine wpList_appT rfl (.tmp 45) (.tmp 51) 27 rfl w1'.heap.size 3 i0 (.int .i64 0) 1 8 Tryd.underlying27 hi0 hz0 hz1 hz2 rfl (by omega) rfl ho45 ⟨g5, 0, none⟩ m5 c5 (intV (belowL l x)) rfl (by rw [intV_length, HM5.out, Nat.mul_one]) (fun j u h => rd_cell hrd5 h) (intV_one _) (by unfold maxLen; omega) (by omega) hB5 ?_; intro A6 c6 w6 h6 _ hT6; have hR6 := HE6.out A6 c6 m5 w6 HM5.out h6 (Below.trans hG95 ((hT6 intT (fun _ _ _ => by simp [intT])).below hB5)); clear h6 hT6))
          exact ⟨hR6, by simp only [intOf]; omega⟩
    · obtain rfl : n = i := by omega
      have hci : ¬ (n : Int) < (n : Int) := by omega
      go_wp2_with fail
      refine bodyPost_ret (results_tmp2 rfl _ _ _) rfl ?_
      exact ⟨A2, m, c2, rfl, HM.out, own_base ho hG1.size, hG1.trans hG⟩
end Go.Proofs.YthpgldfjcancjaaDoor
