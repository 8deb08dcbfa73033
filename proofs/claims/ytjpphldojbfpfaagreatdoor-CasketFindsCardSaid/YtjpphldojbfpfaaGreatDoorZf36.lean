/- Texts of one proof, laid as one: part 36. No condition. -/
import Derived.BigQuiet
import Derived.Test.YtjpphldojbfpfaaGreatDoorZf25
import Derived.Test.YtjpphldojbfpfaaGreatDoorZf31
import Derived.Test.YtjpphldojbfpfaaGreatDoorZf32
import Derived.Test.YtjpphldojbfpfaaGreatDoorZf35
namespace Go.Proofs.YtjpphldojbfpfaaGreatDoor
open Go.RowKit
def outU (D E : Nat → Nm) (at_ : List Nat) (l i : Nat) : List Nat := (List.range i).flatMap fun j => if (D j).1 = (E j).1 then [] else belowL l (at_.getD j 0)
theorem outU_succ (D E : Nat → Nm) (at_ : List Nat) (l i : Nat) : outU D E at_ l (i + 1) = outU D E at_ l i ++ (if (D i).1 = (E i).1 then [] else belowL l (at_.getD i 0)) := by
  unfold outU; rw [List.range_succ, List.flatMap_append, List.flatMap_singleton]
theorem outU_length (D E : Nat → Nm) (at_ : List Nat) (l : Nat) : ∀ i, (outU D E at_ l i).length ≤ 4 * i
  | 0 => Nat.le_refl _
  | i + 1 => by
    rw [outU_succ, List.length_append]; have := outU_length D E at_ l i
    have : (if (D i).1 = (E i).1 then [] else belowL l (at_.getD i 0)).length ≤ 4 := by
      split
      · simp
      · exact belowL_length _ _
    omega
theorem nmr_own {w : World} {B : Nat} {e : TypeId} {A : Option Addr} {n c : Nat} {L : List Nm} (h : w.ownsRow B e 32 (.slice A n c) n (L.flatMap encN)) (hl : L.length = n) : NmR w A n L := by
  refine ⟨hl, fun i x hx => ?_⟩
  have hin : i < n := by
    have := (List.getElem?_eq_some_iff.1 hx).1; omega
  rcases h.2 with ⟨_, e2⟩ | ⟨g, cap, cur, e1, _⟩
  · omega
  · injection e1 with e1
    subst e1; refine ⟨g, rfl, fun j u hj => ?_⟩
    have hj32 : j < 32 := by
      have := (List.getElem?_eq_some_iff.1 hj).1
      rwa [encN_length] at this
    have hc := h.cells (g := g) rfl (i * 32 + j) u (by rw [flat_get encN_length L i j hj32, hx]; exact hj); rw [add_row, Nat.zero_add] at hc; exact hc
theorem own_base {w : World} {B B' : Nat} {e : TypeId} {size : Nat} {v : Value} {n : Nat} {xs : List Value} (h : w.ownsRow B' e size v n xs) (hB : B ≤ B') : w.ownsRow B e size v n xs := by
  refine ⟨h.1, ?_⟩; rcases h.2 with h2 | ⟨g, cap, cur, e1, h1, h2⟩
  · exact .inl h2
  · exact .inr ⟨g, cap, cur, e1, Nat.le_trans hB h1, h2⟩
theorem own_some {w : World} {B : Nat} {e : TypeId} {size : Nat} {A : Option Addr} {n c : Nat} {xs : List Value} (h : w.ownsRow B e size (.slice A n c) n xs) (hn : 0 < n) : ∃ g, A = some ⟨g, 0, none⟩ := by
  rcases h.2 with ⟨_, e2⟩ | ⟨g, cap, cur, e1, _⟩
  · omega
  · injection e1 with e1 _ _
    exact ⟨g, e1⟩
theorem own_cap {w : World} {B : Nat} {e : TypeId} {size : Nat} {A : Option Addr} {n c : Nat} {xs : List Value} (h : w.ownsRow B e size (.slice A n c) n xs) : n ≤ c := by
  rcases h.2 with ⟨e1, e2⟩ | ⟨g, cap, cur, e1, _, _, hn, _⟩
  · injection e1 with _ _ e3
    omega
  · injection e1 with _ _ e3
    omega
theorem rd_cell {w : World} {a : Addr} {n : Nat} {xs : List Value} (h : Rd w (some a) n xs) {j : Nat} {u : Value} (hj : xs[j]? = some u) : w.cell? (a.add j) = some u := by
  obtain ⟨ad, e, hc⟩ := h.2 j u hj; injection e with e
  subst e; exact hc
def UnlR (n : Nat) (D E : Nat → Nm) (at_ : List Nat) (l : Nat) (w0 : World) (v k : Value) (w : World) : Prop := ∃ (i m : Nat) (A : Option Addr) (c : Nat), i ≤ n ∧ m = (outU D E at_ l i).length ∧ v = .slice A m c ∧ k = .int .i64 (i : Int) ∧ w.ownsRow w0.heap.size 3 1 (.slice A m c) m (intV (outU D E at_ l i)) ∧ Gr w0 w
theorem UnlR.out {n : Nat} {D E : Nat → Nm} {at_ : List Nat} {l : Nat} {w0 : World} {v k : Value} {w : World} (h : UnlR n D E at_ l w0 v k w) : ∃ (i m : Nat) (A : Option Addr) (c : Nat), i ≤ n ∧ m = (outU D E at_ l i).length ∧ v = .slice A m c ∧ k = .int .i64 (i : Int) ∧ w.ownsRow w0.heap.size 3 1 (.slice A m c) m (intV (outU D E at_ l i)) ∧ Gr w0 w := h
set_option maxRecDepth 100000 in
set_option maxHeartbeats 8000000 in
theorem unlike_any {w : World} {q : Option Addr} {lv : Int} {at_ : List Nat} {D E : Nat → Nm} {A Ao : Option Addr} {n c co : Nat} (hc : NodeQ q lv (at_.map fun x : Nat => (x : Int)) (fun _ => true) D w) (hz : Rd w A n (intV at_)) (hn : n ≤ 1000) (hE : NmR w Ao n (digs E n)) (l : Nat) (hlv : 0 < n → lv = (l : Int) ∧ l < 5) (hat : ∀ x ∈ at_, x < 256) :
    Calls Tryz.prog 26 #[.pointer q, .int .i64 lv, .slice A n c, .slice Ao n co] w fun e w' => ∃ A' m c', e = .returned (.tuple #[.slice A' m c', .int .i64 0]) ∧ m = (outU D E at_ l n).length ∧ w'.ownsRow w.heap.size 3 1 (.slice A' m c') m (intV (outU D E at_ l n)) ∧ Gr w w' := by
  obtain ⟨i0, hi0, hz0, hz1, hz2⟩ := infoInt_parts
  have HT : Hid (Calls Tryz.prog 25 #[.pointer q, .int .i64 lv, .slice A n c] w fun e w' => ∃ A c, e = .returned (.tuple #[.slice A n c, .int .i64 0]) ∧ NmR w' A n (digs D n) ∧ Gr w w') := Lib.hid ((tell_any hc (by rw [List.map_map]; exact hz) (by omega)).mono fun e w' h => by
    rcases h with ⟨_, ⟨A, c, h2, h4⟩, h3⟩ | ⟨⟨j, _, hf⟩, _⟩
    · exact ⟨A, c, h2, nmr_own h4 (digs_length D n), h3⟩
    · cases hf)
  have hzl : at_.length = n := by have := hz.1; rwa [intV_length] at this
  have HL := Lib.hid hzl; have HZ := Lib.hid hz; have HE := Lib.hid hE; have HLV := Lib.hid hlv; have HAT := Lib.hid hat; clear hc hz hzl hE hlv hat
  go_enter Tryz.func26, Tryz.ntmps26
  go_upto_region 8 with (go_at_call 25; refine HT.out.mono ?_; rintro e w1' ⟨Am, cm, rfl, hNm, hG1⟩)
  have HNm := Lib.hid hNm; clear hNm
  go_loopw [12, 34] (fun v k wr => UnlR n D E at_ l w1' v k wr) (fun _ k _ => n - (intOf k).toNat)
  case atStart => exact ⟨0, 0, none, 0, by omega, rfl, rfl, rfl, ⟨rfl, .inl ⟨rfl, rfl⟩⟩, Gr.refl _⟩
  case round =>
    obtain ⟨i, m, A2, c2, hi, hm, rfl, rfl, ho, hG⟩ := UnlR.out hrel; have hm4 : m ≤ 4 * i := by rw [hm]; exact outU_length D E at_ l i
    have HM := Lib.hid hm; clear hrel hm
    by_cases hlt : i < n
    · obtain ⟨x, hx⟩ : ∃ x, at_[i]? = some x := ⟨_, List.getElem?_eq_getElem (by rw [HL.out]; exact hlt)⟩
      obtain ⟨rfl, hl5⟩ := HLV.out (by omega); have hx256 := HAT.out x (List.mem_of_getElem? hx); obtain ⟨ad, rfl, hcx⟩ := HZ.out.2 i (.int .i64 (x : Int)) (intV_at hx); have hDi : (digs D n)[i]? = some (D i) := by unfold digs; rw [List.getElem?_map, List.getElem?_range hlt]; rfl
      have hEi : (digs E n)[i]? = some (E i) := by unfold digs; rw [List.getElem?_map, List.getElem?_range hlt]; rfl
      obtain ⟨bm, hAm, hrm⟩ := HNm.out.2 i _ hDi; obtain ⟨be, hAe, hre⟩ := HE.out.2 i _ hEi; subst hAm hAe; obtain ⟨d, hd⟩ : ∃ d, d = D i := ⟨_, rfl⟩; obtain ⟨e, he⟩ : ∃ e, e = E i := ⟨_, rfl⟩; rw [← hd] at hrm; rw [← he] at hre; have hdl := d.2; have hel := e.2; have hgx : at_.getD i 0 = x := by rw [List.getD_eq_getElem?_getD, hx]; rfl
      have hsucc := outU_succ D E at_ l i
      rw [← hd, ← he, hgx] at hsucc; have HSU := Lib.hid hsucc; have rgm := hG.range hrm; have hci : (i : Int) < (n : Int) := by omega
      clear hDi hEi hrm hx hd he hgx hsucc
      go_upto_region 10 with first
        | (refine wpList_load_mid rfl _ _ rfl bm _ rfl (u8s d.1) _ (rangeEq rgm (by omega)) Tryz.underlying35 rfl (infoD d.1 hdl) ?_)
        | (refine wpList_new (w := wr) (t := 35) rfl _ _ _ rfl wr.heap.size (u8s d.1) rfl rfl rfl (by rw [u8s_length, hdl]; kernel_rfl) (infoD d.1 hdl) (u8s_oneCell _) ?_; intro w3 hA3 hG3)
      obtain ⟨g14, hg14⟩ : ∃ g, g = wr.heap.size := ⟨_, rfl⟩; rw [← hg14] at hA3 ⊢; have rge : w3.rangeAt be (i * 32) (u8s e.1) := (hG1.trans (hG.trans hG3)).range hre; have kx : w3.cell? (ad.add i) = some (.int .i64 (x : Int)) := Gr.cell (hG1.trans (hG.trans hG3)) hcx; have ho3 := Gr.own hG3 ho; have hG13 := hG.trans hG3; clear hg14 rgm hre hcx ho hG hG3
      by_cases hde : d.1 = e.1
      · have HNE : Hid (false = !(d.1 == e.1)) := Lib.hid (by rw [hde]; simp); have hs := HSU.out; rw [if_pos hde, List.append_nil] at hs; have HS := Lib.hid hs; clear hde hs HSU; refine wp_region_ssaL (by kernel_rfl) [IsV (.agg (u8s (d.1)).toArray), IsV (.slice (some ⟨be, 0, none⟩) n co), IsV (.int .i64 ((i : Nat) : Int)), IsV (.pointer (some ⟨be, i * 32, none⟩)), IsV (.agg (u8s (e.1)).toArray), IsV (.bool false)] (by kernel_rfl) ?_ ?_ ?_
        · intro φ hφ v w1 w2 h hg; simp only [List.mem_cons, List.not_mem_nil, or_false] at hφ; rcases hφ with rfl | rfl | rfl | rfl | rfl | rfl
          all_goals first | exact h | exact RdV.gr h hg
        · refine ⟨?_, ?_, ?_, ?_, ?_, ?_, trivial⟩
          · intro a1 w1 hG hF; have e14 : a1.eval (.tmp 14) = .pointer (some ⟨g14, 0, none⟩) := hF.ol 14 (by kernel_rfl); exact s_is rfl (wants0 rfl) _ rfl (run_loadArr ⟨_, _, Tryz.underlying35⟩ (infoD d.1 hdl) e14 (hA3.gr ((Gr.drew w3).trans hG)))
          · intro a1 w1 hG hF; exact s_old rfl (wants0 rfl) (.tmp 3) (.inr rfl) (.slice (some ⟨be, 0, none⟩) n co) (hF.ol 3 (by kernel_rfl)) rfl
          · intro a1 w1 hG hF; exact s_old rfl (wants0 rfl) (.tmp 13) (.inr rfl) (.int .i64 ((i : Nat) : Int)) (hF.ol 13 (by kernel_rfl)) rfl
          · intro a1 w1 hG hF; obtain ⟨_, e40, rfl⟩ := hF.dp 1 40 (by kernel_rfl); obtain ⟨_, e41, rfl⟩ := hF.dp 2 41 (by kernel_rfl); exact s_is rfl (wants0 rfl) _ rfl (by simp only [execOp, e40, e41]; go_simp; try (intro h; omega))
          · intro a1 w1 hG hF; obtain ⟨_, e42, rfl⟩ := hF.dp 3 42 (by kernel_rfl); exact s_is rfl (wants0 rfl) _ rfl (run_loadMid ⟨_, _, Tryz.underlying35⟩ (infoD e.1 hel) e42 (((Gr.drew w3).trans hG).range rge))
          · intro a1 w1 hG hF; obtain ⟨_, e39, rfl⟩ := hF.dp 0 39 (by kernel_rfl); obtain ⟨_, e43, rfl⟩ := hF.dp 4 43 (by kernel_rfl); exact s_is rfl (wants0 rfl) _ rfl (by rw [HNE.out]; exact run_neBy (by kernel_rfl) Tryz.underlying35 Tryz.underlying5 (fun w => by kernel_rfl) hdl hel e39 e43)
        · intro vs w1 hG hf; have z44 : vs 5 = .bool false := hf.2.2.2.2.2.1; clear hf; simp only [putAll, Nat.zero_add, Nat.reduceAdd, z44]; have hG9 := hG13.trans ((Gr.drew w3).trans hG); have hR9 : UnlR n D E at_ l w1' (.slice A2 m c2) (.int .i64 ((i : Int) + 1)) w1 := ⟨i + 1, m, A2, c2, by omega, by rw [HS.out]; exact HM.out, rfl, by simp, by rw [HS.out]; exact Gr.own ((Gr.drew w3).trans hG) ho3, hG9⟩
          clear hG hG9 hG13 ho3; go_simp; go_wp2_with fail
          exact ⟨hR9, by simp only [intOf]; omega⟩
      · have HNE : Hid (true = !(d.1 == e.1)) := Lib.hid (by rw [beq_false_of_ne hde]; rfl); have hs := HSU.out; rw [if_neg hde] at hs; have HS := Lib.hid hs; have hBl := below_any l x hl5 hx256; have HBl : Hid (∀ w, Calls Tryz.prog 51 #[.int .i64 (l : Int), .int .i64 (x : Int)] w fun e w' => ∃ A m c, e = .returned (.slice A m c) ∧ Hid (m = (belowL l x).length) ∧ w'.ownsRow w.heap.size 3 1 (.slice A m c) m (intV (belowL l x)) ∧ Gr w w') := Lib.hid (fun w => (hBl w).mono fun _ _ ⟨A, m, c, h1, h2, h3, h4⟩ => ⟨A, m, c, h1, Lib.hid h2, h3, h4⟩); clear hde hs HSU hBl; refine wp_region_ssaL (by kernel_rfl) [IsV (.agg (u8s (d.1)).toArray), IsV (.slice (some ⟨be, 0, none⟩) n co), IsV (.int .i64 ((i : Nat) : Int)), IsV (.pointer (some ⟨be, i * 32, none⟩)), IsV (.agg (u8s (e.1)).toArray), IsV (.bool true)] (by kernel_rfl) ?_ ?_ ?_
        · intro φ hφ v w1 w2 h hg; simp only [List.mem_cons, List.not_mem_nil, or_false] at hφ; rcases hφ with rfl | rfl | rfl | rfl | rfl | rfl
          all_goals first | exact h | exact RdV.gr h hg
        · refine ⟨?_, ?_, ?_, ?_, ?_, ?_, trivial⟩
          · intro a1 w1 hG hF; have e14 : a1.eval (.tmp 14) = .pointer (some ⟨g14, 0, none⟩) := hF.ol 14 (by kernel_rfl); exact s_is rfl (wants0 rfl) _ rfl (run_loadArr ⟨_, _, Tryz.underlying35⟩ (infoD d.1 hdl) e14 (hA3.gr ((Gr.drew w3).trans hG)))
          · intro a1 w1 hG hF; exact s_old rfl (wants0 rfl) (.tmp 3) (.inr rfl) (.slice (some ⟨be, 0, none⟩) n co) (hF.ol 3 (by kernel_rfl)) rfl
          · intro a1 w1 hG hF; exact s_old rfl (wants0 rfl) (.tmp 13) (.inr rfl) (.int .i64 ((i : Nat) : Int)) (hF.ol 13 (by kernel_rfl)) rfl
          · intro a1 w1 hG hF; obtain ⟨_, e40, rfl⟩ := hF.dp 1 40 (by kernel_rfl); obtain ⟨_, e41, rfl⟩ := hF.dp 2 41 (by kernel_rfl); exact s_is rfl (wants0 rfl) _ rfl (by simp only [execOp, e40, e41]; go_simp; try (intro h; omega))
          · intro a1 w1 hG hF; obtain ⟨_, e42, rfl⟩ := hF.dp 3 42 (by kernel_rfl); exact s_is rfl (wants0 rfl) _ rfl (run_loadMid ⟨_, _, Tryz.underlying35⟩ (infoD e.1 hel) e42 (((Gr.drew w3).trans hG).range rge))
          · intro a1 w1 hG hF; obtain ⟨_, e39, rfl⟩ := hF.dp 0 39 (by kernel_rfl); obtain ⟨_, e43, rfl⟩ := hF.dp 4 43 (by kernel_rfl); exact s_is rfl (wants0 rfl) _ rfl (by rw [HNE.out]; exact run_neBy (by kernel_rfl) Tryz.underlying35 Tryz.underlying5 (fun w => by kernel_rfl) hdl hel e39 e43)
        · intro vs w1 hG hf; have z44 : vs 5 = .bool true := hf.2.2.2.2.2.1; clear hf; simp only [putAll, Nat.zero_add, Nat.reduceAdd, z44]; have hG9 := hG13.trans ((Gr.drew w3).trans hG); have ho4 := Gr.own ((Gr.drew w3).trans hG) ho3; have kx4 := Gr.cell ((Gr.drew w3).trans hG) kx; obtain ⟨w4, hw4⟩ : ∃ w, w = w1 := ⟨_, rfl⟩; rw [← hw4] at hG9 ho4 kx4 ⊢; clear hw4 hG hG13 ho3 kx rge; go_simp; have hbl4 := belowL_length l x; have hbl0 : 0 < (belowL l x).length := by unfold belowL; split <;> simp
          have HE6 : Hid (∀ A6 c6 m5 w6, m5 = (belowL l x).length → w6.ownsRow w1'.heap.size 3 1 (.slice A6 (m + m5) c6) (m + m5) (intV (outU D E at_ l i) ++ intV (belowL l x)) → Gr w1' w6 → UnlR n D E at_ l w1' (.slice A6 (m + m5) c6) (.int .i64 ((i : Int) + 1)) w6) := Lib.hid (fun A6 c6 m5 w6 h5 h6 hG6 =>
            ⟨i + 1, m + m5, A6, c6, by omega, by rw [HS.out, List.length_append, ← h5, HM.out], rfl, by simp, by rw [HS.out, intV_append]; exact h6, hG6⟩)
          go_wp2_with first
            | (go_at_call 51; refine (HBl.out _).mono ?_; rintro e5 w5 ⟨A5, m5, c5, rfl, HM5, ho5, hG5⟩; have hm50 : 0 < m5 := (by rw [HM5.out]; exact hbl0); have hm54 : m5 ≤ 4 := (by rw [HM5.out]; exact hbl4); obtain ⟨g5, rfl⟩ := own_some ho5 hm50; have ho45 := Gr.own hG5 ho4; have hG95 := hG9.trans hG5; have hB5 := hG95.size; have hrd5 := Rd.of_own ho5)
            | (at_builtin; go_must (refine wpList_appT rfl (.tmp 45) (.tmp 51) 22 rfl w1'.heap.size 3 i0 (.int .i64 0) 1 8 Tryz.underlying22 hi0 hz0 hz1 hz2 rfl (by omega) rfl ho45 ⟨g5, 0, none⟩ m5 c5 (intV (belowL l x)) rfl (by rw [intV_length, HM5.out, Nat.mul_one]) (fun j u h => rd_cell hrd5 h) (intV_one _) (by unfold maxLen; omega) (by omega) hB5 ?_; intro A6 c6 w6 h6 _ hT6; have hR6 := HE6.out A6 c6 m5 w6 HM5.out h6 (Below.trans hG95 ((hT6 intT (fun _ _ _ => by simp [intT])).below hB5)); clear h6 hT6))
          exact ⟨hR6, by simp only [intOf]; omega⟩
    · obtain rfl : n = i := by omega
      have hci : ¬ (n : Int) < (n : Int) := by omega
      go_wp2_with fail
      refine bodyPost_ret (results_tmp2 rfl _ _ _) rfl ?_; exact ⟨A2, m, c2, rfl, HM.out, own_base ho hG1.size, hG1.trans hG⟩
end Go.Proofs.YtjpphldojbfpfaaGreatDoor
namespace Go.Proofs.YtjpphldojbfpfaaGreatDoor
open Go.RowKit
def OpX (X : Nat → Prop) (lg mp : Nat) (i : Nat) : Prop := X i ∨ i = lg ∨ i = mp
def SOpR (X : Nat → Prop) (R : List (Nm × List SibV)) (m mp : Nat) (w3 : World) (i : Value) (wr : World) : Prop := ∃ (k : Nat) (M : Nam → Option SlA), k ≤ m ∧ i = .int .i64 (k : Int) ∧ SM wr mp k M ∧ SetsIs X wr M (lastV (R.take k)) ∧ InS (fun j => j = mp) w3 wr
theorem SOpR.out {X : Nat → Prop} {R : List (Nm × List SibV)} {m mp : Nat} {w3 : World} {i : Value} {wr : World} (h : SOpR X R m mp w3 i wr) : ∃ (k : Nat) (M : Nam → Option SlA), k ≤ m ∧ i = .int .i64 (k : Int) ∧ SM wr mp k M ∧ SetsIs X wr M (lastV (R.take k)) ∧ InS (fun j => j = mp) w3 wr := h
def SOpenQ (X : Nat → Prop) (D : Dk) (t : Nat) (R : List (Nm × List SibV)) (w : World) (e : Ending) (w' : World) : Prop := ∃ sh lg mp, e = .returned (.tuple #[.pointer (some ⟨sh, 0, none⟩), .int .i64 0]) ∧ w.heap.size ≤ sh ∧ w.heap.size ≤ lg ∧ w.heap.size ≤ mp ∧ ShelfIs (OpX X lg mp) w' D sh lg mp t R.length R ∧ Gr w w'
theorem SetsIs.none (X : Nat → Prop) (w : World) : SetsIs X w (fun _ => none) (lastV []) := ⟨fun _ _ => rfl, fun _ => rfl⟩
section
variable {w : World} {D : Dk} {B : Nat} {L : List Sec} {X : Nat → Prop}
set_option maxRecDepth 100000 in
set_option maxHeartbeats 16000000 in
theorem sopen_any {t m : Nat} {R : List (Nm × List SibV)} (h : DiskIs w D B L L none 0 0) (hN : 4 ≤ D.N) (hH : HeadsOk L D.N t 0 (recsB R).length) (hA : AreaOk L D.N 0 (recsB R)) (hfit : (recsB R).length ≤ areaN D.N * 64) (ht : t ≤ 1000000) (hm : R.length = m) (hm1 : m ≤ 100000)
    (hok : ∀ p ∈ R, OkR p) (hX : ∀ i, X i → i < w.heap.size) (hXd : X D.d ∧ X D.gn ∧ X D.gf) :
    Calls Tryz.prog 8 #[.pointer (some ⟨D.d, 0, none⟩)] w fun e w' => SOpenQ X D t R w e w' := by
  obtain ⟨rs, hrs⟩ : ∃ rs, rs = R.map fun p => recO p.1 p.2 := ⟨_, rfl⟩; have hB : recsB R = rs.flatMap recB := by rw [hrs]; rfl
  have hrl : rs.length = m := by rw [hrs, List.length_map, hm]
  have hN2 := h.few.2; have ha8 := areaN_le hN2; have HLO : Hid (Calls Tryz.prog 16 #[.pointer (some ⟨D.d, 0, none⟩)] w fun e w' => ∃ lg A c A2 c2, e = .returned (.tuple #[.pointer (some ⟨lg, 0, none⟩), .slice A2 m c2, .int .i64 0]) ∧ w.heap.size ≤ lg ∧ LogIs w' D lg t 0 (rs.flatMap recB) L A c ∧ (∀ ad, A = some ad → w.heap.size ≤ ad.block) ∧ RecsR w' w.heap.size A2 m c2 rs ∧ Gr w w') := Lib.hid ((lopen_any (rs := rs) h hN (by rw [← hB]; exact hH) (by rw [← hB]; exact hA) (by rw [← hB]; exact hfit) ht).mono fun e w' ⟨lg, A, c, A2, c2, h1, h2, h3, h4, h5, h6⟩ => ⟨lg, A, c, A2, c2, by rw [← hrl]; exact h1, h2, h3, h4, by rw [← hrl]; exact h5, h6⟩); have hmk := fun t w => run_makeMap (P := Tryz.prog) t w
  have HAt : Hid (∀ i p, R[i]? = some p → rs[i]? = some (recO p.1 p.2) ∧ (recO p.1 p.2).length ≤ 300000 ∧ OkR p) := Lib.hid (fun i p hp => by
    refine ⟨by rw [hrs, List.getElem?_map, hp]; rfl, ?_, hok p (List.mem_of_getElem? hp)⟩
    have h1 : (recB (recO p.1 p.2)).length ≤ (recsB R).length := by
      have : R = R.take i ++ p :: R.drop (i + 1) := by
        obtain ⟨hi, e⟩ := List.getElem?_eq_some_iff.1 hp; rw [← e, ← List.drop_eq_getElem_cons hi, List.take_append_drop]
      rw [this]; unfold recsB; rw [List.map_append, List.flatMap_append, List.map_cons, List.flatMap_cons, List.length_append, List.length_append]; omega
    rw [recB_len] at h1; omega)
  have HRl := Lib.hid hm; have HOk := Lib.hid hok; have HB := Lib.hid hB; have HX := Lib.hid hX; have HXd := Lib.hid hXd; clear h hN hH hA hfit ht hrs hB hm hok hN2 ha8 hX hXd; have HRsl := Lib.hid hrl; clear hrl
  go_enter Tryz.func8, Tryz.ntmps8
  go_upto_region 4 with (go_at_call 16; refine HLO.out.mono ?_; rintro e w2 ⟨lg, Al, cl, A2, c2, rfl, hlg, hL2, hal, hR2, hG2⟩)
  have hlt := hL2.log.lt; have HL2 := Lib.hid hL2; have HR2 := Lib.hid hR2; have HAl := Lib.hid hal; have hs2 := hG2.size; clear hL2 hR2 hal HLO
  go_upto_region 5 with (refine wpList_buildSh lg w2.heap.size rfl _ _ rfl rfl rfl ?_)
  have hG3 : Gr w2 ((w2.alloc (.map #[] 0)).alloc (.cells (shC lg w2.heap.size).toArray 66)) := (Gr.alloc w2 _).trans (Gr.alloc _ _); have hS3 : Arr ((w2.alloc (.map #[] 0)).alloc (.cells (shC lg w2.heap.size).toArray 66)) (w2.heap.size + 1) 66 (shC lg w2.heap.size) := Arr.newAt (by simp) rfl; have hM3 : SM ((w2.alloc (.map #[] 0)).alloc (.cells (shC lg w2.heap.size).toArray 66)) w2.heap.size 0 (fun _ => none) := (SM.made w2).gr (Gr.alloc _ _); have hz3 : ((w2.alloc (.map #[] 0)).alloc (.cells (shC lg w2.heap.size).toArray 66)).heap.size = w2.heap.size + 2 := by simp
  generalize (w2.alloc (.map #[] 0)).alloc (.cells (shC lg w2.heap.size).toArray 66) = w3 at hG3 hS3 hM3 hz3 ⊢; obtain ⟨mp, hmp⟩ : ∃ g, g = w2.heap.size := ⟨_, rfl⟩; rw [← hmp] at hS3 hM3 hlt hs2 hz3; obtain ⟨sh, hsh⟩ : ∃ g, g = mp + 1 := ⟨_, rfl⟩; simp only [← hmp, ← hsh]; rw [← hsh] at hS3; have hshm : mp < sh := by omega
  have hmp3 : sh < w3.heap.size := by omega
  have HMp : Hid (w2.heap.size ≤ mp) := Lib.hid (Nat.le_of_eq hmp.symm); clear hmp hsh hz3; have hGw3 := hG2.trans hG3; have HM3 := Lib.hid hM3; have HS3 := Lib.hid hS3
  have HXI : Hid (∀ i, OpX X lg mp i → i < w3.heap.size) := Lib.hid (fun i hi => by
    rcases hi with hi | rfl | rfl
    · exact Nat.lt_of_lt_of_le (HX.out i hi) hGw3.size
    · omega
    · omega)
  clear hM3 hS3
  go_upto_region 6 with fail
  go_simp
  go_loopw [28] (fun i wr => SOpR (OpX X lg mp) R m mp w3 i wr) (fun i _ => m - (intOf i).toNat)
  case atStart => exact ⟨0, _, Nat.zero_le _, rfl, HM3.out, by rw [List.take_zero]; exact SetsIs.none _ _, InS.refl _ _⟩
  case round =>
    obtain ⟨k, M, hk, rfl, hM, hSt, hI⟩ := SOpR.out hrel; clear hrel
    by_cases hlt2 : k < m
    · obtain ⟨p, hp⟩ : ∃ p, R[k]? = some p := ⟨_, List.getElem?_eq_getElem (by rw [HRl.out]; exact hlt2)⟩; obtain ⟨hrk, hr3, hokp⟩ := HAt.out k p hp; obtain ⟨ps, hps, hop, hpl⟩ := HR2.out.ex
      obtain ⟨q, hq, hql⟩ : ∃ q, ps[k]? = some q ∧ q.l = recO p.1 p.2 := by
        rw [← hpl, List.getElem?_map] at hrk; cases hq : ps[k]? with
        | none => rw [hq] at hrk; cases hrk
        | some q => rw [hq] at hrk; injection hrk with hrk; exact ⟨q, rfl, hrk⟩
      have hqm : q ∈ ps := List.mem_of_getElem? hq; obtain ⟨g2, rfl⟩ := own_some hps (by omega); have hg2 : g2 < w2.heap.size := own_lt hps _ rfl
      have kq : wr.cell? ⟨g2, k, none⟩ = some (.slice q.A q.n q.c) := by
        refine hI.cell ?_ (fun e => by have := HMp.out; simp only at e; omega); have := Gr.cell hG3 (rd_cell (Rd.of_own hps) (j := k) (u := .slice q.A q.n q.c) (by rw [List.getElem?_map, hq]; rfl)); rw [add_row, Nat.zero_add] at this; exact this
      have hoq := hop q hqm
      have hqf : ∀ ad, q.A = some ad → ¬ ad.block = mp := fun ad e e2 => by
        have h1 := own_lt hoq ad e; have h2 := HMp.out; omega
      have hrq : Rd wr q.A q.n (u8s (recO p.1 p.2)) := by
        have := hI.rd (Rd.of_own (Gr.own hG3 hoq)) hqf
        rwa [hql] at this
      have hqn : (recO p.1 p.2).length = q.n := by
        have := hrq.1; simpa using this
      have hqc : q.A = none → q.c = 0 := by
        obtain ⟨_, _, e1, _, hn4, _⟩ := own_form3 hoq; injection e1 with e1 _ e2
        subst e1 e2; exact fun e => (hn4 e).2
      have HRd := Lib.hid (sread_own (cX := q.c) p.1 hrq hqn (by omega) hqc hokp.each hokp.good hokp.few); have HNe := Lib.hid hokp.ne; have HP := Lib.hid hp; have hci : (k : Int) < (m : Int) := by omega
      have hWr := hI.size; clear hp hrk hr3 hokp hps hop hpl hq hql hqm hg2 hoq hqf hrq hqn hqc
      go_upto_region 9 with first
        | (go_at_call 17; refine HRd.out.mono ?_; rintro e w4 ⟨A4, n4, c4, L4, rfl, hS4, hk4, hG4, hn4⟩; have HS4 := Lib.hid hS4; have HK4 := Lib.hid hk4; have HN4 := Lib.hid hn4; clear hS4 hk4 hn4)
        | (refine wpList_new (w := w4) (t := 69) rfl _ _ _ rfl w4.heap.size (nameC (ownN p.1)) rfl rfl rfl (by rw [nameC_len]; rfl) (infoName _) (nameC_one _) ?_; intro w5 hA5 hG5)
      have hG05 := hI; have HSt := Lib.hid hSt; have hM5 := (hM.gr hG4).gr hG5; have hSh5 : Arr w5 sh 66 (shC lg mp) := ((hI.arr HS3.out (by omega)).gr hG4).gr hG5
      obtain ⟨hl4, hk5⟩ : 0 < n4 ∧ L4.map keyV = p.2.map keyV := by
        refine ⟨?_, HK4.out⟩; have h1 := congrArg List.length HK4.out; simp only [List.length_map] at h1; have h2 := HS4.out.1; have h3 : 0 < p.2.length := List.length_pos_iff.2 HNe.out; omega
      obtain ⟨s, es1, es2, es3, es4, es5⟩ := sibs_ad (c := c4) HS4.out hl4
      have HSet : Hid (Calls Tryz.prog 18 #[.pointer (some ⟨sh, 0, none⟩), nameV (ownN p.1), .slice A4 n4 c4] w5 fun e w' => e = .returned (.tuple #[]) ∧ SM w' mp (k + 1) (updS M (ownN p.1) (some s)) ∧ InS (fun i => i = mp) w5 w') := Lib.hid (by
        rw [es5, es4]; exact sset_any hSh5 hM5 (by omega) (ownN p.1) s.1 n4 c4 hl4)
      have HS : Hid (SetIs (OpX X lg mp) w5 s (p.2.map keyV)) := Lib.hid (by
        refine ⟨fun e => HNe.out (List.map_eq_nil_iff.1 e), L4, by rw [es1, es2]; exact HS4.out.gr hG5, hk5, fun b hb q => ?_⟩; rw [es1] at hb; have h1 := HN4.out.inB b hb; have h2 := HXI.out b q; omega)
      have hG45 := hG4.trans hG5; have hr5 := Arr.range hA5; obtain ⟨g10, hg10⟩ : ∃ g, g = w4.heap.size := ⟨_, rfl⟩; rw [← hg10] at hr5 ⊢; have HIn := Lib.hid (infoName (ownN p.1)); have HTk : Hid (R.take (k + 1) = R.take k ++ [(p.1, p.2)]) := Lib.hid (by rw [List.take_add_one, HP.out]; rfl); clear hg10 hl4 hk5 es1 es2 es3 es4 es5 hA5 HS4 HK4 HN4 HRd hM hSt hM5 hSh5 hG4 hG5 kq
      go_wp2_with first
        | (refine wpList_loadT rfl 69 (.tmp 10) rfl g10 0 (by kernel_rfl) (nameC (ownN p.1)) hr5 Tryz.underlying69 rfl HIn.out ?_)
        | (go_at_call 18; refine HSet.out.mono ?_; rintro e w6 ⟨rfl, hM6, hI6⟩; have HM6 := Lib.hid hM6; have HI6 := Lib.hid hI6; clear hM6 hI6)
      have hX1 : OpX X lg mp mp := .inr (.inr rfl)
      have HR : Hid (SOpR (OpX X lg mp) R m mp w3 (.int .i64 ((k + 1 : Nat) : Int)) w6) := Lib.hid ⟨k + 1, _, hlt2, rfl, HM6.out, by
        rw [HTk.out]; exact ((HSt.out.gr hG45).ins HI6.out (fun i e => by rw [e]; exact hX1)).upd p.1 p.2 (HS.out.ins HI6.out (fun i e => by rw [e]; exact hX1)), (hI.gr hG45).after HI6.out fun i _ e => e⟩
      exact ⟨by rw [show (k : Int) + 1 = ((k + 1 : Nat) : Int) by omega]; exact HR.out, by simp [intOf]; omega⟩
    · have hke : ¬ (k : Int) < (m : Int) := by omega
      have hkm : k = m := by omega
      have hF : SetsIs (OpX X lg mp) wr M (lastV R) := by
        rw [List.take_of_length_le (by have := HRl.out; omega)] at hSt; exact hSt
      have HF := Lib.hid hF; have HM : Hid (SM wr mp R.length M) := Lib.hid (by rw [HRl.out, ← hkm]; exact hM); have HI := Lib.hid hI; clear hSt hF hM hI; have HKM := Lib.hid hkm; clear hkm; go_wp2_with fail
      refine bodyPost_ret (results_tmp2 rfl _ _ _) rfl ?_; have hI := HI.out; have hS := hI.arr HS3.out (by omega); have hGr : Gr w wr := InS.gr_after hGw3 hI (fun i hi e => by omega); have hL := HL2.out; have hmpn : ∀ j, j < w2.heap.size → ¬ j = mp := fun j hj e => by have := HMp.out; omega
      have hAl2 : ∀ ad, Al = some ad → ad.block < w2.heap.size := fun ad e => own_lt hL.own ad e; refine ⟨sh, lg, mp, rfl, by omega, hlg, by omega, ⟨fun i hi => Nat.lt_of_lt_of_le (HXI.out i hi) hI.size, hS, fun e => ?_, fun i e => ?_, ⟨L, Al, cl, ?_, fun ad e q => ?_⟩, ⟨M, HM.out, HF.out⟩, HOk.out, ?_⟩, hGr⟩
      · rcases e with e | e | e
        · have := HX.out _ e; omega
        · omega
        · omega
      · rcases e with rfl | rfl | rfl | rfl | rfl
        · exact .inl HXd.out.1
        · exact .inl HXd.out.2.1
        · exact .inl HXd.out.2.2
        · exact .inr (.inl rfl)
        · exact .inr (.inr rfl)
      · rw [HB.out]; exact (hL.gr hG3).ins hI (hmpn _ hL.disk.arr.lt) (hmpn _ (by obtain ⟨R, hR⟩ := hL.disk.now; exact hR.lt)) (hmpn _ (by obtain ⟨R, hR⟩ := hL.disk.fast; exact hR.lt)) (hmpn _ hL.log.lt) (fun ad e => hmpn _ (hAl2 ad e))
      · have h1 := HAl.out ad e; rcases q with q | q | q
        · have := HX.out _ q; omega
        · exact own_arr_ne hL.own hL.log (by decide) ad e q
        · exact hmpn _ (hAl2 ad e) q
      · have hx1 := HX.out _ HXd.out.1; have hx2 := HX.out _ HXd.out.2.1; have hx3 := HX.out _ HXd.out.2.2; omega
end
end Go.Proofs.YtjpphldojbfpfaaGreatDoor
namespace Go.Proofs.YtjpphldojbfpfaaGreatDoor
open Go.RowKit
end Go.Proofs.YtjpphldojbfpfaaGreatDoor
