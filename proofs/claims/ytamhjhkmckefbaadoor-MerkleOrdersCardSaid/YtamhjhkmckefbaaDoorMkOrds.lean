/- The walk of the law MerkleOrders. No condition. -/
import Derived.Test.YtamhjhkmckefbaaDoorMkPaths
import Derived.Test.YtamhjhkmckefbaaDoorMkOrdP
import Derived.Test.YtamhjhkmckefbaaDoorAppE
import Derived.Test.YtamhjhkmckefbaaDoorKitM
namespace Go.Proofs.YtamhjhkmckefbaaDoor
open Go.RowKit
/-- A tree that is filled of acts. -/
def FillO (B g b m d : Nat) (f : Nat → Nm) (w0 : World) (k : Value) (w : World) : Prop := ∃ (i : Nat) (R : Rw), i ≤ m ∧ k = .int .i64 (i : Int) ∧ TreeB B w g b (d + i) R ∧ NoZ R ∧ OnlyOf f m R ∧ Tn (treeT g b) B w0 w
theorem FillO.out {B g b m d : Nat} {f : Nat → Nm} {w0 : World} {k : Value} {w : World} (h : FillO B g b m d f w0 k w) : ∃ (i : Nat) (R : Rw), i ≤ m ∧ k = .int .i64 (i : Int) ∧ TreeB B w g b (d + i) R ∧ NoZ R ∧ OnlyOf f m R ∧ Tn (treeT g b) B w0 w := h
/-- The other tree stays. -/
theorem TreeB.other {B C : Nat} {w w' : World} {g b g' b' n : Nat} {R : Rw} (h : TreeB B w g b n R) (hT : Tn (treeT g' b') C w w') (hg : g ≠ g') (hb : b ≠ b') : TreeB B w' g b n R :=
  ⟨h.is.tn hT (fun _ _ => by simp [treeT, hb]) (fun _ _ => by simp [treeT, hg]), h.hg, h.hb⟩
theorem acts_far {w w' : World} {B : Nat} {A : Option Addr} {n : Nat} {f : Nat → ActM} (h : Acts w A n f) (hB : B = w.heap.size) (hb : Below B w w') : Acts w' A n f := fun q hq => by
  obtain ⟨bA, oA, e, hr⟩ := h q hq
  refine ⟨bA, oA, e, fun j u hu => ?_⟩
  have hc := hr j u hu
  exact (World.cell?_of_block (hb.block _ (by rw [hB]; exact lt_of_cell hc))).trans hc
theorem TreeIs.lt {w : World} {g b n : Nat} {R : Rw} (h : TreeIs w g b n R) : g < w.heap.size ∧ b < w.heap.size := by
  obtain ⟨⟨N, h1, _⟩, _⟩ := h
  exact ⟨h1.arr.lt, h1.map.lt⟩
def nineN (i : Nat) : Nm := ⟨UInt8.ofNat 9 :: UInt8.ofNat i :: List.replicate 30 0, by simp⟩
theorem own_base {w : World} {B B' : Nat} {e : TypeId} {size : Nat} {v : Value} {n : Nat} {xs : List Value} (h : w.ownsRow B' e size v n xs) (hB : B ≤ B') : w.ownsRow B e size v n xs := by
  refine ⟨h.1, ?_⟩
  rcases h.2 with h2 | ⟨g, cap, cur, e1, h1, h2⟩
  · exact .inl h2
  · exact .inr ⟨g, cap, cur, e1, Nat.le_trans hB h1, h2⟩
/-- An empty slice literal; a row of one's own. -/
def EmptyV (B : Nat) (v : Value) (w : World) : Prop := ∃ g, v = .slice (some ⟨g, 0, none⟩) 0 0 ∧ w.ownsRow B 3 1 (.slice (some ⟨g, 0, none⟩) 0 0) 0 []
def OwnV (B n : Nat) (l : List Nat) (v : Value) (w : World) : Prop := ∃ A c, v = .slice A n c ∧ w.ownsRow B 3 1 (.slice A n c) n (intV l)
theorem EmptyV.gr {B : Nat} {v : Value} {w w' : World} (h : EmptyV B v w) (hG : Gr w w') : EmptyV B v w' := by
  obtain ⟨g, e, ho⟩ := h
  exact ⟨g, e, Gr.own hG ho⟩
theorem OwnV.gr {B n : Nat} {l : List Nat} {v : Value} {w w' : World} (h : OwnV B n l v w) (hG : Gr w w') : OwnV B n l v w' := by
  obtain ⟨A, c, e, ho⟩ := h
  exact ⟨A, c, e, Gr.own hG ho⟩
theorem own_empty {w : World} {B : Nat} (hB : B ≤ w.heap.size) : (w.alloc (.cells #[] 3)).ownsRow B 3 1 (.slice (some ⟨w.heap.size, 0, none⟩) 0 0) 0 [] :=
  ⟨rfl, .inr ⟨w.heap.size, 0, #[], rfl, hB, heap_alloc_new w _, by omega, by unfold maxLen; omega, rfl, rfl⟩⟩
theorem rd_cell {w : World} {a : Addr} {n : Nat} {xs : List Value} (h : Rd w (some a) n xs) {j : Nat} {u : Value} (hj : xs[j]? = some u) : w.cell? (a.add j) = some u := by
  obtain ⟨ad, e, hc⟩ := h.2 j u hj
  injection e with e
  subst e
  exact hc
theorem own_cap {w : World} {B : Nat} {e : TypeId} {size : Nat} {A : Option Addr} {n c : Nat} {xs : List Value} (h : w.ownsRow B e size (.slice A n c) n xs) : n ≤ c := by
  rcases h.2 with ⟨e1, e2⟩ | ⟨g, cap, cur, e1, _, _, hn, _⟩
  · injection e1 with _ _ e3
    omega
  · injection e1 with _ _ e3
    omega
theorem run_neqD32 {ev : Operand → Value} {d : Option Tmp} {t : TypeId} {p : String} {af : Array Edge} {gd : Option (Nat × Bool)} {w : World} {x y : Operand} {T : TypeId} {D E : List UInt8} (hD : D.length = 32) (hE : E.length = 32) (h1 : ev x = .agg (u8s D).toArray) (h2 : ev y = .agg (u8s E).toArray) :
    (execOp ev ⟨d, .binOp .neq 23 x y T, t, p, af, gd⟩).run Tryd.prog w = .ok (.value (.bool (D != E))) w := by
  have h3 := run_equalIn_bytes (P := Tryd.prog) w 9998 23 5 32 Tryd.underlying23 Tryd.underlying5 (fun w => by kernel_rfl) D E hD hE
  have h4 : (Op.equalIn 10000 23 (.agg (u8s D).toArray) (.agg (u8s E).toArray)).run Tryd.prog w = .ok (D == E) w := h3
  simp only [execOp, h1, h2]
  go_simp
  simp [bne]
def intT : Nat → Obj → Bool := fun _ o => match o with | .cells _ t _ => t == 3 | _ => false
/-- The row of what is left, at first. -/
def LeftR (m : Nat) (w0 : World) (v k : Value) (w : World) : Prop := ∃ (i : Nat) (A : Option Addr) (c : Nat), i ≤ m ∧ v = .slice A i c ∧ k = .int .i64 (i : Int) ∧ w.ownsRow w0.heap.size 3 1 (.slice A i c) i (intV (List.range i)) ∧ Gr w0 w
theorem LeftR.out {m : Nat} {w0 : World} {v k : Value} {w : World} (h : LeftR m w0 v k w) : ∃ (i : Nat) (A : Option Addr) (c : Nat), i ≤ m ∧ v = .slice A i c ∧ k = .int .i64 (i : Int) ∧ w.ownsRow w0.heap.size 3 1 (.slice A i c) i (intV (List.range i)) ∧ Gr w0 w := h
/-- The last loop's. -/
def OrdR (B g b m : Nat) (f : Nat → Nm) (R : Rw) (w0 : World) (v k : Value) (w : World) : Prop := ∃ (j q : Nat) (A : Option Addr) (c : Nat) (l : List Nat) (S : Rw), q = l.length ∧ j + q = m ∧ v = .slice A q c ∧ k = .int .i64 (j : Int) ∧ w.ownsRow B 3 1 (.slice A q c) q (intV l) ∧ (∀ x ∈ l, x < m) ∧ TreeB B w g b (m + j) S ∧ OnlyOf f m S ∧ Done f m R S l ∧ Tn (treeT g b) B w0 w
theorem OrdR.out {B g b m : Nat} {f : Nat → Nm} {R : Rw} {w0 : World} {v k : Value} {w : World} (h : OrdR B g b m f R w0 v k w) : ∃ (j q : Nat) (A : Option Addr) (c : Nat) (l : List Nat) (S : Rw), q = l.length ∧ j + q = m ∧ v = .slice A q c ∧ k = .int .i64 (j : Int) ∧ w.ownsRow B 3 1 (.slice A q c) q (intV l) ∧ (∀ x ∈ l, x < m) ∧ TreeB B w g b (m + j) S ∧ OnlyOf f m S ∧ Done f m R S l ∧ Tn (treeT g b) B w0 w := h
theorem infoInt : (Tryd.prog.info? 3).map (fun i => (i.size, i.bytes, i.zero)) = some (1, 8, some (.int .i64 0)) := by kernel_rfl
theorem infoInt_parts : ∃ i, Tryd.prog.info? 3 = some i ∧ i.zero = some (.int .i64 0) ∧ i.size = 1 ∧ i.bytes = 8 := by
  cases hie : Tryd.prog.info? 3 with
  | none => have := infoInt; rw [hie] at this; cases this
  | some ie =>
    have hq := infoInt
    rw [hie] at hq
    simp only [Option.map_some, Option.some.injEq, Prod.mk.injEq] at hq
    exact ⟨ie, rfl, hq.2.2, hq.1, hq.2.1⟩
set_option maxRecDepth 100000 in
set_option maxHeartbeats 8000000 in
theorem law_orders (A : Option Addr) (n c : Nat) (f : Nat → ActM) (Ao : Option Addr) (no co : Nat) (zs : List Int) (w : World) (hA : Acts w A n f) (hz : Rd w Ao no (zs.map fun z => Value.int .i64 z)) (gw : Glob w) :
    Calls Tryd.prog 4 #[.slice A n c, .slice Ao no co] w fun e w' => e = .returned (.bool true) ∧ Below w.heap.size w w' := by
  have gl := Glob.lowG gw
  have HA := Lib.hid hA
  have HZ := Lib.hid hz
  obtain ⟨m, hm⟩ : ∃ m : Nat, m = min n 24 := ⟨_, rfl⟩
  have hmn : m ≤ n := by omega
  have hm24 : m ≤ 24 := by omega
  have hmi : min (n : Int) 24 = (m : Int) := by omega
  obtain ⟨B, hBe⟩ : ∃ B, B = w.heap.size := ⟨_, rfl⟩
  have hBw : Hid (B = w.heap.size) := Lib.hid hBe
  rw [← hBe] at gl ⊢
  clear hm hA hz hBe
  have mk : True := trivial
  go_enter Tryd.func4, Tryd.ntmps4
  go_upto_region 6 with first
    | (clear mk; go_at_call 13; refine (new_is _).mono ?_; rintro e w1 ⟨g, b, rfl, hT1, hg, hb, hG1⟩)
    | (go_at_call 13; refine (new_is _).mono ?_; rintro e w2 ⟨g', b', rfl, hT2, hg2, hb2, hG2⟩; have gw2 := Glob.gr (hG1.trans hG2) gw)
    | (go_at_call 9; refine (trees_any gw2).mono ?_; rintro e w3 ⟨rfl, hG3⟩)
  rw [← hBw.out] at hg hb
  have hgg : g ≠ g' := by have := hT1.lt.1; omega
  have hbb : b ≠ b' := by have := hT1.lt.2; omega
  have hB1 : B ≤ w1.heap.size := by rw [hBw.out]; exact hG1.size
  have hG13 := hG1.trans (hG2.trans hG3)
  have ha3 : TreeB B w3 g b 0 [] := ⟨hT1.gr (hG2.trans hG3), hg, hb⟩
  have hb3 : TreeB B w3 g' b' 0 [] := ⟨hT2.gr hG3, Nat.le_trans hB1 hg2, Nat.le_trans hB1 hb2⟩
  have gw3 : Glob w3 := Glob.gr hG3 gw2
  have hw3 : Below B w w3 := by rw [hBw.out]; exact hG13
  have hB3 : B ≤ w3.heap.size := by rw [hBw.out]; exact hG13.size
  have Hb3 := Lib.hid hb3
  have HGG := Lib.hid hgg
  have HBB := Lib.hid hbb
  clear hT1 hT2 hg hb hg2 hb2 hG1 hG2 hG3 hG13 gw2 hB1 hb3 hgg hbb
  go_loopw [8] (fun k wr => FillO B g b m 0 (fun i => (f i).name) w3 k wr) (fun k _ => m - (intOf k).toNat)
  case atStart => exact ⟨0, [], by omega, rfl, ha3, NoZ.nil, OnlyOf.nil _ _, Tn.refl _⟩
  case round =>
    obtain ⟨i, R, hi, rfl, hTr, hNZ, hOn, hTnr⟩ := FillO.out hrel
    rw [Nat.zero_add] at hTr
    have hBr : B ≤ wr.heap.size := Nat.le_trans hB3 hTnr.size
    have hwr : Below B w wr := Below.trans hw3 (hTnr.below hB3)
    have gwr : Glob wr := gw.keep hwr gl
    have HTr := Lib.hid hTr
    have HTnr := Lib.hid hTnr
    have HNZ := Lib.hid hNZ
    have HON := Lib.hid hOn
    clear hTr hTnr hrel hNZ hOn
    by_cases hlt : i < m
    · have hin : i < n := by omega
      have hAr := acts_far HA.out hBw.out hwr
      obtain ⟨bA, oA, hAe, rgA⟩ := act_range hAr hin
      subst hAe
      have c1 : (i : Int) < (m : Int) := by omega
      go_upto_region 8 with fail
      refine wp_region_cut (by kernel_rfl) [IsV (.pointer (some ⟨g, 0, none⟩)), IsV (.slice (some ⟨bA, oA, none⟩) n c), IsV (.int .i64 (i : Int)), IsV (.pointer (some ⟨bA, oA + i * 34, none⟩)), IsV (.agg (actC (f i)).toArray), IsV (by32 (f i).name.1), IsV (.slice (some ⟨bA, oA, none⟩) n c), IsV (.int .i64 (i : Int)), IsV (.pointer (some ⟨bA, oA + i * 34, none⟩)), IsV (.agg (actC (f i)).toArray), IsV (by32 (f i).digest.1)] 11 (by decide) (by kernel_rfl) (by kernel_rfl) (by kernel_rfl) ?_ ?_ ?_
      · intro φ hφ v w1 w2 h hg
        simp only [List.mem_cons, List.not_mem_nil, or_false] at hφ
        rcases hφ with rfl | rfl | rfl | rfl | rfl | rfl | rfl | rfl | rfl | rfl | rfl <;> exact h
      · refine ⟨?_, ?_, ?_, ?_, ?_, ?_, ?_, ?_, ?_, ?_, ?_, trivial⟩
        · intro a1 w1 hG hF
          exact s_old rfl (wants0 rfl) (.tmp 5) (.inr rfl) (.pointer (some ⟨g, 0, none⟩)) (hF.ol 5 (by kernel_rfl)) rfl
        · intro a1 w1 hG hF
          exact s_old rfl (wants0 rfl) (.tmp 0) (.inr rfl) (.slice (some ⟨bA, oA, none⟩) n c) (hF.ol 0 (by kernel_rfl)) rfl
        · intro a1 w1 hG hF
          exact s_old rfl (wants0 rfl) (.tmp 8) (.inr rfl) (.int .i64 (i : Int)) (hF.ol 8 (by kernel_rfl)) rfl
        · intro a1 w1 hG hF
          obtain ⟨_, e1, rfl⟩ := hF.dp 1 34 (by kernel_rfl)
          obtain ⟨_, e2, rfl⟩ := hF.dp 2 35 (by kernel_rfl)
          exact s_is rfl (wants0 rfl) _ rfl (by simp only [execOp, e1, e2]; go_simp; try (intro h; omega))
        · intro a1 w1 hG hF
          obtain ⟨_, e1, rfl⟩ := hF.dp 3 36 (by kernel_rfl)
          exact s_wp rfl (wants0 rfl) (wp_load_mid _ _ rfl bA (oA + i * 34) e1 (actC (f i)) _ (((Gr.drew wr).trans hG).range rgA) Tryd.underlying41 rfl (infoAct _) ⟨_, rfl, rfl, Gr.refl _⟩)
        · intro a1 w1 hG hF
          obtain ⟨_, e1, rfl⟩ := hF.dp 4 37 (by kernel_rfl)
          exact s_call rfl (wants0 rfl) _ rfl _ _ (by simp only [execOp, resolve, invoke, List.map_toArray, List.map_cons, List.map_nil, e1]; go_simp) ((key_act (f i) w1).mono fun e w2 ⟨he, hb⟩ => ⟨_, he, rfl, hb⟩)
        · intro a1 w1 hG hF
          exact s_old rfl (wants0 rfl) (.tmp 0) (.inr rfl) (.slice (some ⟨bA, oA, none⟩) n c) (hF.ol 0 (by kernel_rfl)) rfl
        · intro a1 w1 hG hF
          exact s_old rfl (wants0 rfl) (.tmp 8) (.inr rfl) (.int .i64 (i : Int)) (hF.ol 8 (by kernel_rfl)) rfl
        · intro a1 w1 hG hF
          obtain ⟨_, e1, rfl⟩ := hF.dp 6 39 (by kernel_rfl)
          obtain ⟨_, e2, rfl⟩ := hF.dp 7 40 (by kernel_rfl)
          exact s_is rfl (wants0 rfl) _ rfl (by simp only [execOp, e1, e2]; go_simp; try (intro h; omega))
        · intro a1 w1 hG hF
          obtain ⟨_, e1, rfl⟩ := hF.dp 8 41 (by kernel_rfl)
          exact s_wp rfl (wants0 rfl) (wp_load_mid _ _ rfl bA (oA + i * 34) e1 (actC (f i)) _ (((Gr.drew wr).trans hG).range rgA) Tryd.underlying41 rfl (infoAct _) ⟨_, rfl, rfl, Gr.refl _⟩)
        · intro a1 w1 hG hF
          obtain ⟨_, e1, rfl⟩ := hF.dp 9 42 (by kernel_rfl)
          exact s_call rfl (wants0 rfl) _ rfl _ _ (by simp only [execOp, resolve, invoke, List.map_toArray, List.map_cons, List.map_nil, e1]; go_simp) ((digest_act (f i) w1).mono fun e w2 ⟨he, hb⟩ => ⟨_, he, rfl, hb⟩)
      · intro vs w1 hG hf
        have y0 : vs 0 = .pointer (some ⟨g, 0, none⟩) := hf.1
        have y5 : vs 5 = by32 (f i).name.1 := hf.2.2.2.2.2.1
        have y10 : vs 10 = by32 (f i).digest.1 := hf.2.2.2.2.2.2.2.2.2.2.1
        clear hf
        simp only [List.take_succ_cons, List.take_zero, List.drop_succ_cons, List.drop_zero, putAll, Nat.zero_add, Nat.reduceAdd, y0, y5, y10]
        have hG1 := (Gr.drew wr).trans hG
        have hSet := set_is (HTr.out.is.gr hG1) (by omega : i ≤ 9000) (f i).name (f i).digest HTr.out.hg HTr.out.hb (Nat.le_trans hBr hG1.size) (Glob.gr hG1 gwr) gl
        have HSet := Lib.hid hSet
        clear hSet y0 y5 y10
        unfold wpList
        go_simp
        refine .inl (HSet.out.mono ?_)
        rintro e w4 ⟨rfl, hT4, hTn4⟩
        have hR4 : FillO B g b m 0 (fun i => (f i).name) w3 (.int .i64 ((i : Int) + 1)) w4 := ⟨i + 1, _, by omega, by simp, ⟨by rw [Nat.zero_add]; exact hT4, HTr.out.hg, HTr.out.hb⟩, HNZ.out.set _ _, HON.out.set hlt _, HTnr.out.trans ((Tn.of_gr hG1).trans hTn4)⟩
        clear hT4 hTn4 HSet
        unfold wpList
        go_simp
        go_wp2_with fail
        exact ⟨hR4, by simp only [intOf]; omega⟩
    · obtain rfl : m = i := by omega
      have c1 : ¬ (m : Int) < (m : Int) := by omega
      have hbr : TreeB B wr g' b' 0 [] := Hb3.out.other HTnr.out HGG.out.symm HBB.out.symm
      clear ha3 gw3 hw3 hB3 Hb3 HTnr hi hlt
      go_upto_region 10 with fail
      obtain ⟨w4, hw4⟩ : ∃ w, w = wr := ⟨_, rfl⟩
      rw [← hw4] at hBr hwr gwr HTr hbr ⊢
      clear hw4
      go_loopw [9] (fun k wq => FillO B g' b' m 0 (fun i => (f i).name) w4 k wq) (fun k _ => m - (intOf k).toNat)
      case atStart => exact ⟨0, [], by omega, rfl, hbr, NoZ.nil, OnlyOf.nil _ _, Tn.refl _⟩
      case round =>
        obtain ⟨i, S, hi, rfl, hTs, hNs, hOs, hTns⟩ := FillO.out hrel
        rw [Nat.zero_add] at hTs
        have hB5 : B ≤ wr.heap.size := Nat.le_trans hBr hTns.size
        have hw5 : Below B w wr := Below.trans hwr (hTns.below hBr)
        have gw5 : Glob wr := gw.keep hw5 gl
        have HTs := Lib.hid hTs
        have HTns := Lib.hid hTns
        have HOs := Lib.hid hOs
        have HNs := Lib.hid hNs
        clear hTs hTns hrel hNs hOs
        by_cases hlt : i < m
        · have hin : i < n := by omega
          have hAr := acts_far HA.out hBw.out hw5
          obtain ⟨bA, oA, hAe, rgA⟩ := act_range hAr hin
          subst hAe
          have c2 : (i : Int) < (m : Int) := by omega
          have hp := pair_val (m := 9) (n := i) (by omega) (by omega)
          have HSet : Hid (∀ w6, Gr wr w6 → Calls Tryd.prog 8 #[.pointer (some ⟨g', 0, none⟩), .agg (u8s (f i).name.1).toArray, .agg (Value.int .u8 9 :: .int .u8 (i : Int) :: List.replicate 30 (.int .u8 0)).toArray] w6 fun e w' => e = .returned (.tuple #[]) ∧ FillO B g' b' m 0 (fun i => (f i).name) w4 (.int .i64 ((i : Int) + 1)) w') := Lib.hid (fun w6 hG6 => by
            have h1 := set_is (HTs.out.is.gr hG6) (by omega : i ≤ 9000) (f i).name (nineN i) HTs.out.hg HTs.out.hb (Nat.le_trans hB5 hG6.size) (Glob.gr hG6 gw5) gl
            have h2 : Value.agg (u8s (nineN i).1).toArray = Value.agg (Value.int .u8 9 :: .int .u8 (i : Int) :: List.replicate 30 (.int .u8 0)).toArray := hp.symm
            rw [h2] at h1
            exact h1.mono fun e w' ⟨he, hT, hTn⟩ => ⟨he, i + 1, _, by omega, by simp, ⟨by rw [Nat.zero_add]; exact hT, HTs.out.hg, HTs.out.hb⟩, HNs.out.set _ _, HOs.out.set hlt _, HTns.out.trans ((Tn.of_gr hG6).trans hTn)⟩)
          clear hp
          go_wp2_with first
            | (refine wpList_load_mid rfl _ _ rfl bA (oA + i * 34) rfl (actC (f i)) _ rgA Tryd.underlying41 rfl (infoAct (f i)) ?_)
            | (go_at_call 14; refine (key_act (f i) _).mono ?_; rintro e w6 ⟨rfl, hG6⟩)
            | (go_at_call 8; refine (HSet.out _ hG6).mono ?_; rintro e w7 ⟨rfl, hR7⟩)
          exact ⟨hR7, by simp only [intOf]; omega⟩
        · obtain rfl : m = i := by omega
          have c2 : ¬ (m : Int) < (m : Int) := by omega
          have HTa : Hid (TreeB B wr g b m R) := Lib.hid (HTr.out.other HTns.out HGG.out HBB.out)
          obtain ⟨i0, hi0, hz0, hz1, hz2⟩ := infoInt_parts
          clear HTr HTns HNs hbr gwr hwr hBr hi hlt c1
          go_upto_region 15 with fail
          obtain ⟨w5, hw5e⟩ : ∃ w, w = wr := ⟨_, rfl⟩
          rw [← hw5e] at hB5 hw5 gw5 HTs HTa ⊢
          clear hw5e
          go_loopw [10, 11] (fun v k wq => LeftR m w5 v k wq) (fun _ k _ => m - (intOf k).toNat)
          case atStart => exact ⟨0, none, 0, by omega, rfl, rfl, ⟨rfl, .inl ⟨rfl, rfl⟩⟩, Gr.refl _⟩
          case round =>
            obtain ⟨i, A2, d, hi, rfl, rfl, ho, hG⟩ := LeftR.out hrel
            clear hrel
            by_cases hlt : i < m
            · have c3 : (i : Int) < (m : Int) := by omega
              have hon := Gr.own (Gr.alloc wr (.cells #[.int .i64 (i : Int)] 3)) ho
              have hBn : w5.heap.size ≤ (wr.alloc (.cells #[.int .i64 (i : Int)] 3)).heap.size := by have := hG.size; simp only [asz]; omega
              have hAn : Arr (wr.alloc (.cells #[.int .i64 (i : Int)] 3)) wr.heap.size 3 [.int .i64 (i : Int)] := Arr.newAt rfl rfl
              have HE : Hid (∀ A3 c3 w6, w6.ownsRow w5.heap.size 3 1 (.slice A3 (i + 1) c3) (i + 1) (intV (List.range i) ++ [.int .i64 (i : Int)]) → Tn intT w5.heap.size (wr.alloc (.cells #[.int .i64 (i : Int)] 3)) w6 → LeftR m w5 (.slice A3 (i + 1) c3) (.int .i64 ((i : Int) + 1)) w6) := Lib.hid (fun A3 c3 w6 h6 hT6 => by
                refine ⟨i + 1, A3, c3, by omega, rfl, by simp, ?_, Below.trans (hG.trans (Gr.alloc wr _)) (hT6.below hBn)⟩
                rw [List.range_succ, intV_append]
                exact h6)
              clear hG ho
              go_wp2_with (at_builtin; go_must (refine wpList_appT rfl (.tmp 65) (.tmp 67) 51 rfl w5.heap.size 3 i0 (.int .i64 0) 1 8 Tryd.underlying51 hi0 hz0 hz1 hz2 rfl (by omega) rfl hon ⟨wr.heap.size, 0, none⟩ 1 1 [.int .i64 (i : Int)] rfl rfl (fun j u h => by rw [add_row, Nat.zero_add]; exact hAn.cell h) (by simp [Value.oneCell']) (by unfold maxLen; omega) (by omega) hBn ?_; intro A3 c3 w6 h6 _ hT6; have hR6 := HE.out A3 c3 w6 h6 (hT6 intT (fun _ _ _ => by simp [intT])); clear h6 hT6))
              exact ⟨hR6, by simp only [intOf]; omega⟩
            · obtain rfl : m = i := by omega
              have c3 : ¬ (m : Int) < (m : Int) := by omega
              have hBr : B ≤ wr.heap.size := Nat.le_trans hB5 hG.size
              have hwr : Below B w wr := Below.trans hw5 (Below.mono hG hB5)
              have gwr : Glob wr := gw.keep hwr gl
              have hor : wr.ownsRow B 3 1 (.slice A2 m d) m (intV (List.range m)) := own_base ho hB5
              have HTs2 := Lib.hid (HTs.out.gr hG)
              have HTa2 := Lib.hid (HTa.out.gr hG)
              have hLl : (List.range m).length = m := List.length_range
              have HOR : Hid (OrdR B g' b' m (fun i => (f i).name) R wr (.slice A2 m d) (.int .i64 0) wr) := Lib.hid ⟨0, m, A2, d, List.range m, S, hLl.symm, by omega, rfl, rfl, hor, fun x hx => List.mem_range.1 hx, HTs2.out, HOs.out, Done.start _ _ _ _, Tn.refl _⟩
              clear HTs HTa hB5 hw5 gw5 hG ho hor hlt hi hLl HTs2 HOs
              go_upto_region 19 with fail
              obtain ⟨w6, hw6e⟩ : ∃ w, w = wr := ⟨_, rfl⟩
              rw [← hw6e] at hBr hwr gwr HTa2 HOR ⊢
              clear hw6e
              go_loopw [10, 12] (fun v k wq => OrdR B g' b' m (fun i => (f i).name) R w6 v k wq) (fun v _ _ => slLen v)
              case atStart => exact HOR.out
              case round =>
                obtain ⟨j, q, A3, d3, l, S, hql, hjq, rfl, rfl, ho, hlm, hTs, hOs, hDn, hTn⟩ := OrdR.out hrel
                have hB7 : B ≤ wr.heap.size := Nat.le_trans hBr hTn.size
                have hw7 : Below B w wr := Below.trans hwr (hTn.below hBr)
                have gw7 : Glob wr := gw.keep hw7 gl
                have HQ := Lib.hid hql
                have HLM := Lib.hid hlm
                have HTs := Lib.hid hTs
                have HOs := Lib.hid hOs
                have HDn := Lib.hid hDn
                have HTn := Lib.hid hTn
                clear hrel hql hlm hTs hOs hDn hTn
                by_cases hq0 : 0 < q
                · have hqi : (q : Int) > 0 := by omega
                  go_upto_if 77 with fail
                  go_cut [13] from 69 to 111 (fun v wx => ∃ kk : Nat, kk < q ∧ v = .int .i64 (kk : Int) ∧ wx = wr)
                  case first =>
                    by_cases hjo : j < no
                    · have c4 : (j : Int) < (no : Int) := by omega
                      obtain ⟨z, hz⟩ : ∃ z, zs[j]? = some z := by
                        have := HZ.out.1
                        rw [List.length_map] at this
                        exact ⟨_, List.getElem?_eq_getElem (by omega)⟩
                      obtain ⟨ad, rfl, hc⟩ := HZ.out.2 j (.int .i64 z) (by rw [List.getElem?_map, hz]; rfl)
                      have kz : wr.cell? (ad.add j) = some (.int .i64 z) := (World.cell?_of_block (hw7.block _ (by rw [hBw.out]; exact lt_of_cell hc))).trans hc
                      have hmod : wrap64 ((IntKind.u64.wrap z).tmod (q : Int)) = ((u64N z % q : Nat) : Int) := by
                        have := Nat.mod_lt (u64N z) hq0
                        rw [u64N_eq, rem_nat]
                        unfold wrap64
                        omega
                      go_wp2_with fail
                      go_meet
                      exact ⟨u64N z % q, Nat.mod_lt _ hq0, by rw [hmod], rfl⟩
                    · have c4 : ¬ (j : Int) < (no : Int) := by omega
                      go_wp2_with fail
                      go_meet
                      exact ⟨0, hq0, rfl, rfl⟩
                  case rest =>
                    obtain ⟨kk, hkq, rfl, hwx⟩ := hcut
                    rw [hwx]
                    clear hwx
                    obtain ⟨x, hx⟩ : ∃ x, l[kk]? = some x := ⟨_, List.getElem?_eq_getElem (by rw [← HQ.out]; exact hkq)⟩
                    have hxm : x < m := HLM.out x (List.mem_of_getElem? hx)
                    have hqd : q ≤ d3 := own_cap ho
                    obtain ⟨gl3, rfl, hcx⟩ := own_at1 ho hkq (intV_at hx)
                    have hqa : l.length ≤ q := Nat.le_of_eq HQ.out.symm
                    have hqb : q ≤ l.length := Nat.le_of_eq HQ.out
                    have HX := Lib.hid hx
                    have hAr := acts_far HA.out hBw.out hw7
                    obtain ⟨bA, oA, hAe, rgA⟩ := act_range hAr (i := x) (by omega)
                    subst hAe
                    have hnl := (f x).name.2
                    have ck : (kk : Int) < (q : Int) := by omega
                    have cx : (x : Int) < (n : Int) := by omega
                    clear hx
                    go_upto_region 25 with first
                      | (refine wpList_load_mid rfl _ _ rfl bA (oA + x * 34) rfl (actC (f x)) _ rgA Tryd.underlying41 rfl (infoAct (f x)) ?_)
                      | (go_at_call 14; refine (key_act (f x) _).mono ?_; rintro e w8 ⟨rfl, hG8⟩)
                      | (refine wpList_new (w := w8) (t := 30) rfl _ _ _ rfl w8.heap.size (u8s (f x).name.1) rfl rfl rfl (by rw [u8s_length, hnl]; kernel_rfl) (infoN (f x).name) (u8s_oneCell _) ?_; intro w9 hA9 hG9)
                    obtain ⟨g14, hg14⟩ : ∃ g, g = w8.heap.size := ⟨_, rfl⟩
                    rw [← hg14] at hA9 ⊢
                    have hG79 := hG8.trans hG9
                    have hB9 : B ≤ w9.heap.size := Nat.le_trans hB7 hG79.size
                    have ho9 := Gr.own hG79 ho
                    have HTs9 := Lib.hid (HTs.out.gr hG79)
                    have HTa9 := Lib.hid ((HTa2.out.other HTn.out HGG.out HBB.out).gr hG79)
                    have gw9 := Glob.gr hG79 gw7
                    have HTn9 := Lib.hid (HTn.out.gr hG79)
                    obtain ⟨G, hG⟩ : ∃ G, G = (look R (f x).name.1).getD Z32 := ⟨_, rfl⟩
                    have hGl : G.length = 32 := by
                      rw [hG]
                      refine getD_length (fun k d h => ?_) _
                      obtain ⟨p, _, e1, e2⟩ := look_some h
                      exact ⟨by rw [← e1]; exact p.1.2, by rw [← e2]; exact p.2.2⟩
                    have HGet : Hid (∀ w1, Gr w9 w1 → Calls Tryd.prog 11 #[.pointer (some ⟨g, 0, none⟩), .agg (u8s (f x).name.1).toArray] w1 fun e w' => e = .returned (by32 G) ∧ Gr w1 w') := Lib.hid (fun w1 h1 => by rw [hG]; exact get_is (HTa9.out.is.gr h1) (f x).name)
                    have HG := Lib.hid hG
                    clear hG8 hG9 hg14 hG79 hcx ho HTs HTn gw7 hw7 hB7 rgA hAr hG
                    refine wp_region_cut (by kernel_rfl) [IsV (.pointer (some ⟨g', 0, none⟩)), IsV (by32 (f x).name.1), IsV (.pointer (some ⟨g, 0, none⟩)), IsV (by32 (f x).name.1), IsV (by32 G)] 5 (by decide) (by kernel_rfl) (by kernel_rfl) (by kernel_rfl) ?_ ?_ ?_
                    · intro φ hφ v w1 w2 h hg
                      simp only [List.mem_cons, List.not_mem_nil, or_false] at hφ
                      rcases hφ with rfl | rfl | rfl | rfl | rfl <;> exact h
                    · refine ⟨?_, ?_, ?_, ?_, ?_, trivial⟩
                      · intro a1 w1 hG hF
                        exact s_old rfl (wants0 rfl) (.tmp 6) (.inr rfl) (.pointer (some ⟨g', 0, none⟩)) (hF.ol 6 (by kernel_rfl)) rfl
                      · intro a1 w1 hG hF
                        have e1 : a1.eval (.tmp 14) = .pointer (some ⟨g14, 0, none⟩) := hF.ol 14 (by kernel_rfl)
                        have hA := hA9.gr ((Gr.drew w9).trans hG)
                        exact s_is rfl (wants0 rfl) _ rfl (by simp only [execOp, e1, hA.loadAt Tryd.underlying30 (infoN (f x).name), Sem.run_bind, Result.andThen_ok, Sem.run_pure]; rfl)
                      · intro a1 w1 hG hF
                        exact s_old rfl (wants0 rfl) (.tmp 5) (.inr rfl) (.pointer (some ⟨g, 0, none⟩)) (hF.ol 5 (by kernel_rfl)) rfl
                      · intro a1 w1 hG hF
                        have e1 : a1.eval (.tmp 14) = .pointer (some ⟨g14, 0, none⟩) := hF.ol 14 (by kernel_rfl)
                        have hA := hA9.gr ((Gr.drew w9).trans hG)
                        exact s_is rfl (wants0 rfl) _ rfl (by simp only [execOp, e1, hA.loadAt Tryd.underlying30 (infoN (f x).name), Sem.run_bind, Result.andThen_ok, Sem.run_pure]; rfl)
                      · intro a1 w1 hG hF
                        obtain ⟨_, e1, rfl⟩ := hF.dp 2 98 (by kernel_rfl)
                        obtain ⟨_, e2, rfl⟩ := hF.dp 3 99 (by kernel_rfl)
                        exact s_call rfl (wants0 rfl) _ rfl _ _ (by simp only [execOp, resolve, invoke, List.map_toArray, List.map_cons, List.map_nil, e1, e2]; go_simp; rfl) ((HGet.out w1 ((Gr.drew w9).trans hG)).mono fun e w2 ⟨he, hb⟩ => ⟨_, he, rfl, hb⟩)
                    · intro vs w1 hG hf
                      have y0 : vs 0 = .pointer (some ⟨g', 0, none⟩) := hf.1
                      have y1 : vs 1 = by32 (f x).name.1 := hf.2.1
                      have y4 : vs 4 = by32 G := hf.2.2.2.2.1
                      clear hf
                      simp only [List.take_succ_cons, List.take_zero, List.drop_succ_cons, List.drop_zero, putAll, Nat.zero_add, Nat.reduceAdd, y0, y1, y4]
                      have hG1 := (Gr.drew w9).trans hG
                      have hSet := set_is (HTs9.out.is.gr hG1) (by omega : m + j ≤ 9000) (f x).name ⟨G, hGl⟩ HTs9.out.hg HTs9.out.hb (Nat.le_trans hB9 hG1.size) (Glob.gr hG1 gw9) gl
                      have HSet := Lib.hid hSet
                      have ho1 := Gr.own hG1 ho9
                      have hB1 : B ≤ w1.heap.size := Nat.le_trans hB9 hG1.size
                      have hTn1 := HTn9.out.trans (Tn.of_gr hG1)
                      clear hSet y0 y1 y4
                      unfold wpList
                      go_simp
                      refine .inl (HSet.out.mono ?_)
                      rintro e wq ⟨rfl, hTq, hTnq⟩
                      have hoq := own_tn ho1 hTnq (fun k C f => treeT_cells rfl)
                      have hBq : B ≤ wq.heap.size := Nat.le_trans hB1 hTnq.size
                      have HTq : Hid (TreeB B wq g' b' (m + (j + 1)) (setR S (f x).name ⟨G, hGl⟩)) := Lib.hid ⟨hTq, HTs9.out.hg, HTs9.out.hb⟩
                      have HTnq := Lib.hid (hTn1.trans hTnq)
                      clear hG hG1 hTn1 hTq hTnq HSet ho1 hB1 ho9 HTs9 HTa9 gw9 HTn9 hA9 hB9
                      unfold wpList
                      go_simp
                      have hkd : kk ≤ d3 := by omega
                      go_upto_region 26 with fail
                      refine wp_region_cut (by kernel_rfl) [EmptyV wq.heap.size, IsV (.slice (some ⟨gl3, 0, none⟩) q d3), IsV (.int .i64 (kk : Int)), IsV (.slice (some ⟨gl3, 0, none⟩) kk d3), OwnV wq.heap.size kk (l.take kk), IsV (.slice (some ⟨gl3, 0, none⟩) q d3), IsV (.int .i64 (kk : Int)), IsV (.int .i64 ((kk + 1 : Nat) : Int)), IsV (.slice (cutA (some ⟨gl3, 0, none⟩) d3 (kk + 1)) (q - (kk + 1)) (d3 - (kk + 1)))] 9 (by decide) (by kernel_rfl) (by kernel_rfl) (by kernel_rfl) ?_ ?_ ?_
                      · intro φ hφ v w1 w2 h hg
                        simp only [List.mem_cons, List.not_mem_nil, or_false] at hφ
                        rcases hφ with rfl | rfl | rfl | rfl | rfl | rfl | rfl | rfl | rfl
                        all_goals first | exact h | exact EmptyV.gr h hg | exact OwnV.gr h hg
                      · refine ⟨?_, ?_, ?_, ?_, ?_, ?_, ?_, ?_, ?_, trivial⟩
                        · intro a1 w1 hG hF
                          exact s_val rfl (wants0 rfl) _ rfl (.slice (some ⟨w1.heap.size, 0, none⟩) 0 0) (w1.alloc (.cells #[] 3)) (by simp only [execOp]; go_simp) ⟨_, rfl, own_empty ((Gr.drew wq).trans hG).size⟩ (Gr.alloc _ _)
                        · intro a1 w1 hG hF
                          exact s_old rfl (wants0 rfl) (.tmp 10) (.inr rfl) (.slice (some ⟨gl3, 0, none⟩) q d3) (hF.ol 10 (by kernel_rfl)) rfl
                        · intro a1 w1 hG hF
                          exact s_old rfl (wants0 rfl) (.tmp 13) (.inr rfl) (.int .i64 (kk : Int)) (hF.ol 13 (by kernel_rfl)) rfl
                        · intro a1 w1 hG hF
                          obtain ⟨_, e1, rfl⟩ := hF.dp 1 103 (by kernel_rfl)
                          obtain ⟨_, e2, rfl⟩ := hF.dp 2 104 (by kernel_rfl)
                          exact s_is rfl (wants0 rfl) _ rfl (by simp only [execOp, e1, e2, Option.map, Sem.run_bind, run_cut_h (P := Tryd.prog) (hi := kk) Tryd.underlying51 (by kernel_rfl) rfl hkd, Result.andThen_ok, Sem.run_pure])
                        · intro a1 w1 hG hF
                          obtain ⟨x1, e1, f1⟩ := hF.dp 0 102 (by kernel_rfl)
                          obtain ⟨_, e2, rfl⟩ := hF.dp 3 105 (by kernel_rfl)
                          obtain ⟨ge, rfl, hoe⟩ := f1
                          have hrd := Rd.of_own (Gr.own ((Gr.drew wq).trans hG) hoq)
                          obtain ⟨A', c', w', hr, h2, hG2⟩ := run_append_fresh (P := Tryd.prog) (w := w1) wq.heap.size 51 51 3 i0 (.int .i64 0) 1 8 Tryd.underlying51 hi0 hz0 hz1 hz2 rfl (by omega) ge hoe ⟨gl3, 0, none⟩ kk d3 (intV (l.take kk)) (by rw [intV_length, List.length_take]; omega) (fun j u h => by rw [← intV_take] at h; exact rd_cell (hrd.take (by omega)) h) (intV_one _) (by unfold maxLen; omega) (by omega) ((Gr.drew wq).trans hG).size
                          exact s_val rfl (wants0 rfl) _ rfl (.slice A' kk c') w' (by simp only [execOp, resolve, invoke, builtin, List.map_toArray, List.map_cons, List.map_nil, e1, e2, Sem.run_bind, Sem.run_pure, hr, Result.andThen_ok]) ⟨A', c', rfl, h2⟩ hG2
                        · intro a1 w1 hG hF
                          exact s_old rfl (wants0 rfl) (.tmp 10) (.inr rfl) (.slice (some ⟨gl3, 0, none⟩) q d3) (hF.ol 10 (by kernel_rfl)) rfl
                        · intro a1 w1 hG hF
                          exact s_old rfl (wants0 rfl) (.tmp 13) (.inr rfl) (.int .i64 (kk : Int)) (hF.ol 13 (by kernel_rfl)) rfl
                        · intro a1 w1 hG hF
                          obtain ⟨_, e1, rfl⟩ := hF.dp 6 108 (by kernel_rfl)
                          exact s_is rfl (wants0 rfl) _ rfl (run_addN (a := kk) (b := 1) e1 rfl (by omega))
                        · intro a1 w1 hG hF
                          obtain ⟨_, e1, rfl⟩ := hF.dp 5 107 (by kernel_rfl)
                          obtain ⟨_, e2, rfl⟩ := hF.dp 7 109 (by kernel_rfl)
                          exact s_is rfl (wants0 rfl) _ rfl (by simp only [execOp, e1, e2, Option.map, Sem.run_bind, run_cut_l (P := Tryd.prog) (lo := kk + 1) Tryd.underlying51 (by kernel_rfl) rfl hkq, Result.andThen_ok, Sem.run_pure])
                      · intro vs w1 hG hf
                        have y4 : OwnV wq.heap.size kk (l.take kk) (vs 4) w1 := hf.2.2.2.2.1
                        have y8 : vs 8 = .slice (cutA (some ⟨gl3, 0, none⟩) d3 (kk + 1)) (q - (kk + 1)) (d3 - (kk + 1)) := hf.2.2.2.2.2.2.2.2.1
                        clear hf
                        obtain ⟨A8, c8, hy4, ho8⟩ := y4
                        have hG1 := (Gr.drew wq).trans hG
                        have hrd := (Rd.of_own (Gr.own hG1 hoq)).cutL (lo := kk + 1) hkq hqd
                        rw [intV_drop] at hrd
                        obtain ⟨aL, haL⟩ : ∃ aL, cutA (some ⟨gl3, 0, none⟩) d3 (kk + 1) = some aL := by
                          unfold cutA
                          split
                          · exact ⟨_, rfl⟩
                          · exact ⟨_, rfl⟩
                        rw [haL] at hrd y8
                        have hLl : (l.take kk ++ l.drop (kk + 1)).length = q - 1 := by rw [List.length_append, List.length_take, List.length_drop]; omega
                        simp only [List.take_succ_cons, List.take_zero, List.drop_succ_cons, List.drop_zero, putAll, Nat.zero_add, Nat.reduceAdd, hy4, y8]
                        refine wpList_appT rfl (.tmp 106) (.tmp 110) 51 rfl wq.heap.size 3 i0 (.int .i64 0) 1 8 Tryd.underlying51 hi0 hz0 hz1 hz2 rfl (by omega) (by kernel_rfl) ho8 aL (q - (kk + 1)) (d3 - (kk + 1)) (intV (l.drop (kk + 1))) (by kernel_rfl) (by rw [intV_length, List.length_drop]; omega) (fun j u h => rd_cell hrd h) (intV_one _) (by unfold maxLen; omega) (by omega) hG1.size ?_
                        intro A10 c10 w10 ho10 _ hT10
                        have hB10 := (hT10 intT (fun _ _ _ => by simp [intT])).below hG1.size
                        have hG10 : Gr wq w10 := Below.trans hG1 hB10
                        have he10 : kk + (q - (kk + 1)) = q - 1 := by omega
                        rw [he10, ← intV_append] at ho10
                        have hR10 : OrdR B g' b' m (fun i => (f i).name) R w6 (.slice A10 (kk + (q - (kk + 1))) c10) (.int .i64 ((j : Int) + 1)) w10 := by
                          refine ⟨j + 1, q - 1, A10, c10, l.take kk ++ l.drop (kk + 1), _, hLl.symm, by omega, by rw [he10], by simp, own_base ho10 hBq, fun y hy => ?_, HTq.out.gr hG10, HOs.out.set hxm _, HDn.out.next HNZ.out HX.out ⟨G, hGl⟩ HG.out, HTnq.out.gr hG10⟩
                          rcases List.mem_append.1 hy with hy | hy
                          · exact HLM.out y (List.mem_of_mem_take hy)
                          · exact HLM.out y (List.mem_of_mem_drop hy)
                        clear he10 hT10 hB10 hG10 ho10 hLl hrd haL hG1 ho8 hy4 y8 hG
                        unfold wpList
                        go_simp
                        try refine .inl ?_
                        unfold wpList
                        go_simp
                        try refine .inl ?_
                        go_wp2_with fail
                        exact ⟨hR10, by simp only [slLen]; omega⟩
                · have hqz : q = 0 := by omega
                  have hlz : l = [] := List.eq_nil_of_length_eq_zero (by rw [← HQ.out]; exact hqz)
                  have HTa := HTa2.out.other HTn.out HGG.out HBB.out
                  have hSR : S = R := by
                    have hd := HDn.out
                    rw [hlz] at hd
                    exact hd.all HON.out HOs.out HTa.is.sorted HTs.out.is.sorted
                  have hTs := HTs.out
                  rw [hSR] at hTs
                  have HTa := Lib.hid HTa
                  have HTb := Lib.hid hTs
                  have cq0 : ¬ (q : Int) > 0 := by omega
                  clear hSR hlz HDn HOs HTs HTn HLM hTs HTa2 HOR hqz HQ
                  obtain ⟨w8, hw8⟩ : ∃ w, w = wr := ⟨_, rfl⟩
                  rw [← hw8] at ho hB7 hw7 gw7 HTa HTb ⊢
                  clear hw8 ho
                  go_upto_block 8 with fail
                  go_cut [] from 15 to 146 (fun wx => Gr w8 wx)
                  case first =>
                    go_upto_region 28 with fail
                    go_loopw [15] (fun k wr => ∃ l : Nat, l ≤ 5 ∧ k = .int .i64 (l : Int) ∧ Gr w8 wr) (fun k _ => 5 - (intOf k).toNat)
                    case atStart => exact ⟨0, by omega, rfl, Gr.refl _⟩
                    case round =>
                      obtain ⟨l, hl, rfl, hGl⟩ := hrel
                      by_cases hl5 : l < 5
                      · obtain ⟨P, hP⟩ : ∃ P, P = 4 ^ l := ⟨_, rfl⟩
                        have hWide : Hid (∀ w, Calls Tryd.prog 17 #[.int .i64 (l : Int)] w fun e w' => e = .returned (.int .i64 (P : Int)) ∧ w = w') := Lib.hid (fun w => by rw [hP]; exact wide_ref l (by omega) w)
                        have HP := Lib.hid hP
                        clear hP
                        have cl : (l : Int) ≤ 4 := by omega
                        go_upto_region 31 with fail
                        go_loopw [16] (fun k wr => ∃ q : Nat, q ≤ P ∧ k = .int .i64 (q : Int) ∧ Gr w8 wr) (fun k _ => P - (intOf k).toNat)
                        case atStart => exact ⟨0, by omega, rfl, hGl⟩
                        case round =>
                          obtain ⟨q, hq, rfl, hGq⟩ := hrel
                          by_cases hqP : q < P
                          · have hql : q < 4 ^ l := by rw [← HP.out]; exact hqP
                            have hq256 := pow_256 hl5 hql
                            have cq : (q : Int) < (P : Int) := by omega
                            obtain ⟨D, hD⟩ : ∃ D, D = nodeR R (4 - l) q := ⟨_, rfl⟩
                            have hDl : D.length = 32 := by rw [hD]; exact nodeR_length _ _ _
                            have HNa : Hid (∀ w1, Gr wr w1 → Calls Tryd.prog 7 #[.pointer (some ⟨g, 0, none⟩), .int .i64 (l : Int), .int .i64 (q : Int)] w1 fun e w' => e = .returned (.tuple #[by32 D, .int .i64 0]) ∧ Gr w1 w') := Lib.hid (fun w1 h1 => by
                              rw [hD]
                              exact node_is (HTa.out.is.gr (hGq.trans h1)) l q hl5 hql)
                            have HNb : Hid (∀ w1, Gr wr w1 → Calls Tryd.prog 7 #[.pointer (some ⟨g', 0, none⟩), .int .i64 (l : Int), .int .i64 (q : Int)] w1 fun e w' => e = .returned (.tuple #[by32 D, .int .i64 0]) ∧ Gr w1 w') := Lib.hid (fun w1 h1 => by
                              rw [hD]
                              exact node_is (HTb.out.is.gr (hGq.trans h1)) l q hl5 hql)
                            clear hD hql
                            go_upto_region 34 with first
                              | (go_at_call 17; refine (hWide.out _).mono ?_; rintro e w4 ⟨rfl, rfl⟩)
                              | (go_at_call 7; refine (HNa.out _ (Gr.refl _)).mono ?_; rintro e w4 ⟨rfl, hG4⟩)
                              | (refine wpList_new (w := w4) (t := 23) rfl _ _ _ rfl w4.heap.size (u8s D) rfl rfl rfl (by rw [u8s_length, hDl]; kernel_rfl) (infoD D hDl) (u8s_oneCell _) ?_; intro w5 hA5 hG5)
                            have hG45 := hG4.trans hG5
                            obtain ⟨g17, hg17⟩ : ∃ g, g = w4.heap.size := ⟨_, rfl⟩
                            rw [← hg17] at hA5 ⊢
                            clear hg17 hG4 hG5
                            go_upto_region 35 with first
                              | (go_at_call 7; refine (HNb.out _ hG45).mono ?_; rintro e w6 ⟨rfl, hG6⟩)
                              | (refine wpList_new (w := w6) (t := 23) rfl _ _ _ rfl w6.heap.size (u8s D) rfl rfl rfl (by rw [u8s_length, hDl]; kernel_rfl) (infoD D hDl) (u8s_oneCell _) ?_; intro w7 hA7 hG7)
                            have hA57 := hA5.gr (hG6.trans hG7)
                            have hG9 := hGq.trans (hG45.trans (hG6.trans hG7))
                            obtain ⟨g19, hg19⟩ : ∃ g, g = w6.heap.size := ⟨_, rfl⟩
                            rw [← hg19] at hA7 ⊢
                            have HNE : Hid (false = (D != D)) := Lib.hid (by simp)
                            clear hg19 hG6 hG7 hG45 hA5
                            go_wp2_with first
                              | (refine wpList_loadW rfl 23 (.tmp 17) rfl rfl hA57 ⟨_, _, Tryd.underlying23⟩ (infoD D hDl) ?_)
                              | (refine wpList_loadW rfl 23 (.tmp 19) rfl rfl hA7 ⟨_, _, Tryd.underlying23⟩ (infoD D hDl) ?_)
                              | (refine wpList_valW rfl (.bool false) _ (by rw [HNE.out]; exact run_neqD32 (x := .tmp 136) (y := .tmp 137) hDl hDl rfl rfl) ?_)
                            exact ⟨⟨q + 1, by omega, by simp, hG9⟩, by simp only [intOf]; omega⟩
                          · have cq : ¬ (q : Int) < (P : Int) := by omega
                            go_wp2_with (go_at_call 17; refine (hWide.out _).mono ?_; rintro e w4 ⟨rfl, rfl⟩)
                            exact ⟨⟨l + 1, by omega, by simp, hGq⟩, by simp only [intOf]; omega⟩
                      · have hl5' : l = 5 := by omega
                        have cl : ¬ (l : Int) ≤ 4 := by omega
                        subst hl5'
                        go_wp2_with fail
                        go_meet
                        exact hGl
                  case rest =>
                    have hra := root_is (HTa.out.is.gr hcut)
                    obtain ⟨D, hD⟩ : ∃ D, D = nodeR R 4 0 := ⟨_, rfl⟩
                    have hDl : D.length = 32 := by rw [hD]; exact nodeR_length _ _ _
                    have HRb : Hid (∀ w1, Gr wc w1 → Calls Tryd.prog 10 #[.pointer (some ⟨g', 0, none⟩)] w1 fun e w' => e = .returned (by32 D) ∧ Gr w1 w') := Lib.hid (fun w1 h1 => by rw [hD]; exact root_is (HTb.out.is.gr (Gr.trans hcut h1)))
                    rw [← hD] at hra
                    have HRa := Lib.hid hra
                    have hwe : Below B w wc := Below.trans hw7 (Below.mono hcut hB7)
                    have hBe : B ≤ wc.heap.size := Nat.le_trans hB7 (Below.size hcut)
                    have mk2 : True := trivial
                    clear hra hD
                    go_wp2_with first
                      | (clear mk2; go_at_call 10; refine HRa.out.mono ?_; rintro e w9 ⟨rfl, hG9⟩)
                      | (go_at_call 10; refine (HRb.out _ hG9).mono ?_; rintro e w10 ⟨rfl, hG10⟩)
                      | (refine wpList_valW rfl (.bool true) _ (run_eqA32 (x := .tmp 148) (y := .tmp 150) (D := D) hDl rfl rfl) ?_)
                    go_ret
                    exact ⟨rfl, Below.trans hwe (Below.mono (Gr.trans hG9 hG10) hBe)⟩
end Go.Proofs.YtamhjhkmckefbaaDoor
