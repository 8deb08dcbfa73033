/- The walk of the law MerkleSets. No condition. -/
import Derived.Test.YtamhjhkmckefbaaDoorMkPaths
import Derived.Test.YtamhjhkmckefbaaDoorMkSetsP
import Derived.Test.YtamhjhkmckefbaaDoorMkDoc
import Derived.Test.YtamhjhkmckefbaaDoorMkRefT
import Derived.Deep.CutBlock
import Derived.Deep.CutRange
namespace Go.Proofs.YtamhjhkmckefbaaDoor
open Go.RowKit
/-- The tree and the document's, both told the same. -/
structure BothIs (B : Nat) (w : World) (g b p n : Nat) (R : Rw) : Prop where
  tree : TreeB B w g b n R
  ref : RT B w p R
  few : R.length ≤ n
theorem acts_far_ {w w' : World} {B : Nat} {A : Option Addr} {n : Nat} {f : Nat → ActM} (h : Acts w A n f) (hB : B = w.heap.size) (hb : Below B w w') : Acts w' A n f := fun q hq => by
  obtain ⟨bA, oA, e, hr⟩ := h q hq
  refine ⟨bA, oA, e, fun j u hu => ?_⟩
  have hc := hr j u hu
  exact (World.cell?_of_block (hb.block _ (by rw [hB]; exact lt_of_cell hc))).trans hc
def setsT (g b p : Nat) : Nat → Obj → Bool := fun k o => treeT g b k o || rtT p k o
theorem setsT_cells {g b p k : Nat} {C : Array Value} {t : TypeId} {f : Nat × Nat} (h : (t == 59) = false) (h2 : (t == 39) = false) : setsT g b p k (.cells C t f) = false := by simp [setsT, treeT, rtT, h, h2]
theorem setsT_tree {g b p : Nat} : ∀ k o, treeT g b k o = true → setsT g b p k o = true := fun k o h => by simp [setsT, h]
theorem setsT_ref {g b p : Nat} : ∀ k o, rtT p k o = true → setsT g b p k o = true := fun k o h => by simp [setsT, h]
theorem TreeIs.ref {w w' : World} {g b n p C : Nat} {R : Rw} (h : TreeIs w g b n R) (hT : Tn (rtT p) C w w') : TreeIs w' g b n R := h.tn hT (fun _ _ => rfl) (fun C f => by simp [rtT])
theorem RT.tree {B C : Nat} {w w' : World} {g b p : Nat} {R : Rw} (h : RT B w p R) (hT : Tn (treeT g b) C w w') : RT B w' p R := h.tn hT (fun _ _ => treeT_cells rfl) (fun _ _ _ => treeT_cells rfl)
theorem Arr.otherCells {g g' : Nat} {t : TypeId} {cs : List Value} (hne : g ≠ g') : ∀ (vs : List Value) (o : Nat) (w : World), Arr w g t cs → Arr (w.setCells g' o vs) g t cs
  | [], _, _, h => h
  | v :: vs, o, _, h => Arr.otherCells hne vs (o + 1) _ (h.other hne v)
theorem Arr.types {w : World} {g g' : Nat} {t t' : TypeId} {cs cs' : List Value} (h : Arr w g t cs) (h' : Arr w g' t' cs') (ht : t ≠ t') : g ≠ g' := by
  rintro rfl
  unfold Arr at h h'
  rw [h] at h'
  injection h' with h'
  injection h' with _ h'
  exact ht h'
theorem rd_range {w : World} {g o : Nat} {l : List UInt8} (h : w.rangeAt g o (u8s l)) {n : Nat} (hl : l.length = n) : Rd w (some ⟨g, o, none⟩) n (u8s l) := ⟨by rw [u8s_length, hl], fun i u hu => ⟨_, rfl, by rw [add_row]; exact h i u hu⟩⟩
theorem run_cutAllO {P : Program} {T e : TypeId} {n : Nat} (hT : P.underlying T = some (.array n e)) (hsz : (P.info? e).map (·.size) = some 1) (g o : Nat) (w : World) :
    (Instr.sliceAt T (.pointer (some ⟨g, o, none⟩)) none none none).run P w = .ok (.slice (some ⟨g, o, none⟩) n n) w := by
  obtain ⟨e1, e2⟩ := arrayLen_of hT
  rw [run_sliceAt_array_all w T _ (by rw [e1, e2]; exact hT), e1, e2]
  simp only [run_size1 hsz, Result.andThen_ok, slicedAt, Nat.sub_zero, Nat.zero_mul, add_zero_, ite_self]
theorem run_geqN {P : Program} {ev : Operand → Value} {d : Option Tmp} {t : TypeId} {p : String} {af : Array Edge} {gd : Option (Nat × Bool)} {w : World} {x y : Operand} {T U : TypeId} {a b : Nat} (h1 : ev x = .int .i64 a) (h2 : ev y = .int .i64 b) :
    (execOp ev ⟨d, .binOp .geq T x y U, t, p, af, gd⟩).run P w = .ok (.value (.bool (decide (a ≥ b)))) w := by
  simp only [execOp, h1, h2]
  go_simp
/-- The loop over the leaves, and that over a leaf's names. -/
def LeafsR (R : Rw) (w0 : World) (v16 v17 : Value) (w : World) : Prop := ∃ lf : Nat, lf ≤ 256 ∧ v16 = .int .i64 (cnt R lf : Int) ∧ v17 = .int .i64 (lf : Int) ∧ Gr w0 w
theorem LeafsR.out {R : Rw} {w0 : World} {v16 v17 : Value} {w : World} (h : LeafsR R w0 v16 v17 w) : ∃ lf : Nat, lf ≤ 256 ∧ v16 = .int .i64 (cnt R lf : Int) ∧ v17 = .int .i64 (lf : Int) ∧ Gr w0 w := h
def InLeafR (R : Rw) (lf m : Nat) (w0 : World) (v16 v19 : Value) (w : World) : Prop := ∃ i : Nat, i ≤ m ∧ v16 = .int .i64 ((cnt R lf + i : Nat) : Int) ∧ v19 = .int .i64 (i : Int) ∧ Gr w0 w
theorem InLeafR.out {R : Rw} {lf m : Nat} {w0 : World} {v16 v19 : Value} {w : World} (h : InLeafR R lf m w0 v16 v19 w) : ∃ i : Nat, i ≤ m ∧ v16 = .int .i64 ((cnt R lf + i : Nat) : Int) ∧ v19 = .int .i64 (i : Int) ∧ Gr w0 w := h
/-- The first loop. -/
def SetsR (B g b p m : Nat) (w0 : World) (k : Value) (w : World) : Prop := ∃ (i : Nat) (R : Rw), i ≤ m ∧ k = .int .i64 (i : Int) ∧ BothIs B w g b p i R ∧ Tn (setsT g b p) B w0 w
theorem SetsR.out {B g b p m : Nat} {w0 : World} {k : Value} {w : World} (h : SetsR B g b p m w0 k w) : ∃ (i : Nat) (R : Rw), i ≤ m ∧ k = .int .i64 (i : Int) ∧ BothIs B w g b p i R ∧ Tn (setsT g b p) B w0 w := h
set_option maxRecDepth 100000 in
set_option maxHeartbeats 8000000 in
theorem law_sets (A : Option Addr) (n c : Nat) (f : Nat → ActM) (lv at_ : Int) (w : World) (hA : Acts w A n f) (gw : Glob w) :
    Calls Tryd.prog 3 #[.slice A n c, .int .i64 lv, .int .i64 at_] w fun e w' => e = .returned (.bool true) ∧ Below w.heap.size w w' := by
  have gl := Glob.lowG gw
  have HA := Lib.hid hA
  obtain ⟨m, hm⟩ : ∃ m : Nat, m = min n 24 := ⟨_, rfl⟩
  have hmn : m ≤ n := by omega
  have hm24 : m ≤ 24 := by omega
  have HMM : Hid (m = min n 24) := Lib.hid hm
  obtain ⟨B, hBe⟩ : ∃ B, B = w.heap.size := ⟨_, rfl⟩
  have hBw : Hid (B = w.heap.size) := Lib.hid hBe
  have HNone : Hid (∀ w, Calls Tryd.prog 6 #[] w fun e w' => e = .returned (.pointer none) ∧ w = w') := Lib.hid (fun w => by
    go_enter Tryd.func6, Tryd.ntmps6
    go_wp2
    go_ret
    exact ⟨rfl, rfl⟩)
  rw [← hBe] at gl ⊢
  clear hm hA hBe
  go_enter Tryd.func3, Tryd.ntmps3
  go_upto_region 2 with first
    | (go_at_call 6; refine (HNone.out _).mono ?_; rintro e w1 ⟨rfl, rfl⟩)
    | (go_at_call 7; refine (node_nil 0 0 _).mono ?_; rintro e w1 ⟨rfl, hG1⟩)
    | (refine wpList_new (w := w1) (t := 23) rfl _ _ _ rfl w1.heap.size (u8s Z32) rfl rfl rfl (by kernel_rfl) (infoD _ rfl) (u8s_oneCell _) ?_; intro w2 hA2 hG2)
  have hG12 := hG1.trans hG2
  clear hG1 hG2 hA2
  go_upto_region 3 with first
    | (go_at_call 6; refine (HNone.out _).mono ?_; rintro e w3 ⟨rfl, rfl⟩)
    | (go_at_call 8; refine (set_nil ⟨Z32, rfl⟩ (1 :: List.replicate 31 0) _).mono ?_; rintro e w3 ⟨rfl, hG3⟩)
  have hG13 := hG12.trans hG3
  have gw3 := Glob.gr hG13 gw
  have HNE : Hid (false = (Z32 != Z32)) := Lib.hid (by decide)
  clear hG12 hG3
  go_upto_region 5 with first
    | (go_at_call 6; refine (HNone.out _).mono ?_; rintro e w4 ⟨rfl, rfl⟩)
    | (go_at_call 9; refine (trees_any gw3).mono ?_; rintro e w4 ⟨rfl, hG4⟩)
    | (go_at_call 10; refine (root_nil _).mono ?_; rintro e w5 ⟨rfl, hG5⟩)
    | (go_at_call 11; refine (get_nil ⟨Z32, rfl⟩ _).mono ?_; rintro e w6 ⟨rfl, hG6⟩)
    | (go_at_call 12; refine (keys_nil _ _).mono ?_; rintro e w7 ⟨rfl, hG7⟩)
    | (refine wpList_valW rfl (.bool false) _ (by rw [HNE.out]; exact run_neqA32 (x := .tmp 38) (y := .tmp 39) (D := Z32) rfl rfl rfl) ?_)
    | (refine wpList_valW rfl (.bool false) _ (by rw [HNE.out]; exact run_neqA32 (x := .tmp 45) (y := .tmp 46) (D := Z32) rfl rfl rfl) ?_)
  have hG17 := hG13.trans (hG4.trans (hG5.trans (hG6.trans hG7)))
  clear hG13 hG4 hG5 hG6 hG7 gw3
  go_upto_block 0 with first
    | (go_at_call 13; refine (new_is _).mono ?_; rintro e w8 ⟨g, b, rfl, hT8, hg, hb, hG8⟩)
  have hB7 : B ≤ w7.heap.size := by rw [hBw.out]; exact hG17.size
  have hB8 : B ≤ w8.heap.size := Nat.le_trans hB7 hG8.size
  have hG18 := hG17.trans hG8
  obtain ⟨p, hp⟩ : ∃ p, p = w8.heap.size := ⟨_, rfl⟩
  have hp9 : Arr (w8.alloc (.cells #[.slice none 0 0] 39)) p 39 [.slice none 0 0] := by rw [hp]; exact Arr.newAt rfl rfl
  have hG9 : Gr w8 (w8.alloc (.cells #[.slice none 0 0] 39)) := Gr.alloc _ _
  try change Code.wp _ _ _ _ (w8.alloc (.cells #[.slice none 0 0] 39))
  rw [← hp]
  have hpB : B ≤ p := by rw [hp]; exact hB8
  generalize w8.alloc (.cells #[.slice none 0 0] 39) = w9 at hp9 hG9 ⊢
  have hb9 : BothIs B w9 g b p 0 [] := ⟨⟨hT8.gr hG9, Nat.le_trans hB7 hg, Nat.le_trans hB7 hb⟩, ⟨hpB, none, 0, hp9, ⟨rfl, .inl ⟨rfl, rfl⟩⟩⟩, Nat.le_refl _⟩
  have hw9 : Below B w w9 := by rw [hBw.out]; exact hG18.trans hG9
  have hB9 : B ≤ w9.heap.size := Nat.le_trans hB8 hG9.size
  clear hp hp9 hG9 hT8 hg hb hG8 hG17 hG18 hB7 hB8
  go_cut [] from 11 to 87 (fun wx => ∃ R, BothIs B wx g b p m R ∧ Tn (setsT g b p) B w9 wx)
  case first =>
    go_upto_region 7 with fail
    go_loopw [11] (fun k wr => SetsR B g b p m w9 k wr) (fun k _ => m - (intOf k).toNat)
    case atStart => exact ⟨0, [], by omega, rfl, hb9, Tn.refl _⟩
    case round =>
      obtain ⟨i, R, hi, rfl, hTr, hTnr⟩ := SetsR.out hrel
      clear hrel
      have hBr : B ≤ wr.heap.size := Nat.le_trans hB9 hTnr.size
      have hwr : Below B w wr := Below.trans hw9 (hTnr.below hB9)
      have gwr : Glob wr := gw.keep hwr gl
      have HTr := Lib.hid hTr
      have HTnr := Lib.hid hTnr
      clear hTr hTnr
      by_cases hlt : i < m
      · have hin : i < n := by omega
        have hAr := acts_far_ HA.out hBw.out hwr
        obtain ⟨bA, oA, hAe, rgA⟩ := act_range hAr hin
        subst hAe
        have c1 : (i : Int) < (n : Int) := by omega
        have c2 : (i : Int) < 24 := by omega
        have hnl := (f i).name.2
        have hdl := (f i).digest.2
        go_upto_region 9 with fail
        refine wp_region_cut (by kernel_rfl) [IsV (.slice (some ⟨bA, oA, none⟩) n c), IsV (.int .i64 (i : Int)), IsV (.pointer (some ⟨bA, oA + i * 34, none⟩)), IsV (.agg (actC (f i)).toArray), IsV (by32 (f i).name.1), IsV (.slice (some ⟨bA, oA, none⟩) n c), IsV (.int .i64 (i : Int)), IsV (.pointer (some ⟨bA, oA + i * 34, none⟩)), IsV (.agg (actC (f i)).toArray), IsV (by32 (f i).digest.1), NewA wr.heap.size 30 (u8s Z32), NewA wr.heap.size 23 (u8s Z32)] 12 (by decide) (by kernel_rfl) (by kernel_rfl) (by kernel_rfl) ?_ ?_ ?_
        · intro φ hφ v w1 w2 h hg
          simp only [List.mem_cons, List.not_mem_nil, or_false] at hφ
          rcases hφ with rfl | rfl | rfl | rfl | rfl | rfl | rfl | rfl | rfl | rfl | rfl | rfl
          all_goals first | exact h | exact NewA.gr h hg
        · refine ⟨?_, ?_, ?_, ?_, ?_, ?_, ?_, ?_, ?_, ?_, ?_, ?_, trivial⟩
          · intro a1 w1 hG hF
            exact s_old rfl (wants0 rfl) (.tmp 0) (.inr rfl) (.slice (some ⟨bA, oA, none⟩) n c) (hF.ol 0 (by kernel_rfl)) rfl
          · intro a1 w1 hG hF
            exact s_old rfl (wants0 rfl) (.tmp 11) (.inr rfl) (.int .i64 (i : Int)) (hF.ol 11 (by kernel_rfl)) rfl
          · intro a1 w1 hG hF
            obtain ⟨_, e1, rfl⟩ := hF.dp 0 68 (by kernel_rfl)
            obtain ⟨_, e2, rfl⟩ := hF.dp 1 69 (by kernel_rfl)
            exact s_is rfl (wants0 rfl) _ rfl (by simp only [execOp, e1, e2]; go_simp; try (intro h; omega))
          · intro a1 w1 hG hF
            obtain ⟨_, e1, rfl⟩ := hF.dp 2 70 (by kernel_rfl)
            exact s_wp rfl (wants0 rfl) (wp_load_mid _ _ rfl bA (oA + i * 34) e1 (actC (f i)) _ (((Gr.drew wr).trans hG).range rgA) Tryd.underlying41 rfl (infoAct _) ⟨_, rfl, rfl, Gr.refl _⟩)
          · intro a1 w1 hG hF
            obtain ⟨_, e1, rfl⟩ := hF.dp 3 71 (by kernel_rfl)
            exact s_call rfl (wants0 rfl) _ rfl _ _ (by simp only [execOp, resolve, invoke, List.map_toArray, List.map_cons, List.map_nil, e1]; go_simp) ((key_act (f i) w1).mono fun e w2 ⟨he, hb⟩ => ⟨_, he, rfl, hb⟩)
          · intro a1 w1 hG hF
            exact s_old rfl (wants0 rfl) (.tmp 0) (.inr rfl) (.slice (some ⟨bA, oA, none⟩) n c) (hF.ol 0 (by kernel_rfl)) rfl
          · intro a1 w1 hG hF
            exact s_old rfl (wants0 rfl) (.tmp 11) (.inr rfl) (.int .i64 (i : Int)) (hF.ol 11 (by kernel_rfl)) rfl
          · intro a1 w1 hG hF
            obtain ⟨_, e1, rfl⟩ := hF.dp 5 73 (by kernel_rfl)
            obtain ⟨_, e2, rfl⟩ := hF.dp 6 74 (by kernel_rfl)
            exact s_is rfl (wants0 rfl) _ rfl (by simp only [execOp, e1, e2]; go_simp; try (intro h; omega))
          · intro a1 w1 hG hF
            obtain ⟨_, e1, rfl⟩ := hF.dp 7 75 (by kernel_rfl)
            exact s_wp rfl (wants0 rfl) (wp_load_mid _ _ rfl bA (oA + i * 34) e1 (actC (f i)) _ (((Gr.drew wr).trans hG).range rgA) Tryd.underlying41 rfl (infoAct _) ⟨_, rfl, rfl, Gr.refl _⟩)
          · intro a1 w1 hG hF
            obtain ⟨_, e1, rfl⟩ := hF.dp 8 76 (by kernel_rfl)
            exact s_call rfl (wants0 rfl) _ rfl _ _ (by simp only [execOp, resolve, invoke, List.map_toArray, List.map_cons, List.map_nil, e1]; go_simp) ((digest_act (f i) w1).mono fun e w2 ⟨he, hb⟩ => ⟨_, he, rfl, hb⟩)
          · intro a1 w1 hG hF
            exact s_val rfl (wants0 rfl) _ rfl _ (w1.alloc (.cells (u8s Z32).toArray 30)) (by simp only [execOp]; go_simp; kernel_rfl) ⟨_, rfl, ((Gr.drew wr).trans hG).size, Arr.newAt rfl rfl⟩ (Gr.alloc _ _)
          · intro a1 w1 hG hF
            exact s_val rfl (wants0 rfl) _ rfl _ (w1.alloc (.cells (u8s Z32).toArray 23)) (by simp only [execOp]; go_simp; kernel_rfl) ⟨_, rfl, ((Gr.drew wr).trans hG).size, Arr.newAt rfl rfl⟩ (Gr.alloc _ _)
        · intro vs w1 hG hf
          have y4 : vs 4 = by32 (f i).name.1 := hf.2.2.2.2.1
          have y9 : vs 9 = by32 (f i).digest.1 := hf.2.2.2.2.2.2.2.2.2.1
          have y10 : NewA wr.heap.size 30 (u8s Z32) (vs 10) w1 := hf.2.2.2.2.2.2.2.2.2.2.1
          have y11 : NewA wr.heap.size 23 (u8s Z32) (vs 11) w1 := hf.2.2.2.2.2.2.2.2.2.2.2.1
          clear hf
          obtain ⟨g12, hy12, hb12, hA12⟩ := y10
          obtain ⟨g13, hy13, hb13, hA13⟩ := y11
          have hne := hA12.types hA13 (by decide)
          have hG1 := (Gr.drew wr).trans hG
          simp only [List.take_succ_cons, List.take_zero, List.drop_succ_cons, List.drop_zero, putAll, Nat.zero_add, Nat.reduceAdd, y4, y9, hy12, hy13]
          refine wpList_store_mid rfl _ _ _ rfl g12 0 (u8s (f i).name.1).toArray (by kernel_rfl) (by kernel_rfl) (by have := hA12.there; simpa [u8s_length, hnl, Z32_length] using this) (by have := infoN (f i).name; simpa using this) (all_oneCell_toArray (u8s_oneCell _)) ?_
          rw [List.toList_toArray]
          have hA12' := hA12.setAll (u8s (f i).name.1) (by rw [u8s_length, u8s_length, hnl]; rfl)
          have hA13' := hA13.otherCells hne.symm (u8s (f i).name.1) 0
          have hGa : Gr wr (w1.setCells g12 0 (u8s (f i).name.1)) := Below.trans hG1 (below_setCells hb12 _ _ _)
          generalize w1.setCells g12 0 (u8s (f i).name.1) = wa at hA12' hA13' hGa ⊢
          refine wpList_store_mid rfl _ _ _ rfl g13 0 (u8s (f i).digest.1).toArray (by kernel_rfl) (by kernel_rfl) (by have := hA13'.there; simpa [u8s_length, hdl, Z32_length] using this) (by have := infoD _ hdl; simpa using this) (all_oneCell_toArray (u8s_oneCell _)) ?_
          rw [List.toList_toArray]
          have hB13 := hA13'.setAll (u8s (f i).digest.1) (by rw [u8s_length, u8s_length, hdl]; rfl)
          have hB12 := hA12'.otherCells hne (u8s (f i).digest.1) 0
          have hGb : Gr wr (wa.setCells g13 0 (u8s (f i).digest.1)) := Below.trans hGa (below_setCells hb13 _ _ _)
          generalize wa.setCells g13 0 (u8s (f i).digest.1) = wb at hB12 hB13 hGb ⊢
          have hSet := set_is (HTr.out.tree.is.gr hGb) (by omega : i ≤ 9000) (f i).name (f i).digest HTr.out.tree.hg HTr.out.tree.hb (Nat.le_trans hBr hGb.size) (Glob.gr hGb gwr) gl
          have HSet := Lib.hid hSet
          have hBb : B ≤ wb.heap.size := Nat.le_trans hBr hGb.size
          clear hSet y4 y9 hy12 hy13 hA12 hA13 hA12' hA13' hne hb12 hb13 hGa hG1 hG
          unfold wpList
          go_simp
          try refine .inl ?_
          go_upto_region 11 with first
            | (refine wpList_loadW rfl 30 (.tmp 12) rfl rfl hB12 ⟨_, _, Tryd.underlying30⟩ (infoN (f i).name) ?_)
            | (refine wpList_loadW rfl 23 (.tmp 13) rfl rfl hB13 ⟨_, _, Tryd.underlying23⟩ (infoD (f i).digest.1 hdl) ?_)
            | (go_at_call 8; refine HSet.out.mono ?_; rintro e wd ⟨rfl, hTd, hTnd⟩)
          have hC12 := hB12.tn hTnd (fun C f => treeT_cells rfl)
          have hC13 := hB13.tn hTnd (fun C f => treeT_cells rfl)
          have hRd := (HTr.out.ref.gr hGb).tree hTnd
          have hBd : B ≤ wd.heap.size := Nat.le_trans hBb hTnd.size
          have HTd := Lib.hid hTd
          have HRd := Lib.hid hRd
          have hfew := HTr.out.few
          have HTn4 := Lib.hid (HTnr.out.trans ((Tn.of_gr hGb).trans (hTnd.wide setsT_tree)))
          clear hTd hRd hTnd hB12 hB13 HSet hGb hBb
          refine wp_region_cut (by kernel_rfl) [IsV (.pointer (some ⟨p, 0, none⟩)), IsV (.slice (some ⟨g12, 0, none⟩) 32 32), IsV (.string ⟨(f i).name.1.toArray⟩), IsV (.slice (some ⟨g13, 0, none⟩) 32 32), IsV (.string ⟨(f i).digest.1.toArray⟩)] 5 (by decide) (by kernel_rfl) (by kernel_rfl) (by kernel_rfl) ?_ ?_ ?_
          · intro φ hφ v w1 w2 h hg
            simp only [List.mem_cons, List.not_mem_nil, or_false] at hφ
            rcases hφ with rfl | rfl | rfl | rfl | rfl <;> exact h
          · refine ⟨?_, ?_, ?_, ?_, ?_, trivial⟩
            · intro a1 w1 hG hF
              exact s_old rfl (wants0 rfl) (.tmp 10) (.inr rfl) (.pointer (some ⟨p, 0, none⟩)) (hF.ol 10 (by kernel_rfl)) rfl
            · intro a1 w1 hG hF
              have e1 : a1.eval (.tmp 12) = .pointer (some ⟨g12, 0, none⟩) := hF.ol 12 (by kernel_rfl)
              exact s_is rfl (wants0 rfl) _ rfl (by simp only [execOp, e1, Option.map, Sem.run_bind, run_cutAll (P := Tryd.prog) Tryd.underlying30 (by kernel_rfl), Result.andThen_ok, Sem.run_pure])
            · intro a1 w1 hG hF
              obtain ⟨_, e1, rfl⟩ := hF.dp 1 83 (by kernel_rfl)
              exact s_str rfl (wants0 rfl) 44 9 5 (.tmp 83) rfl Tryd.underlying44 Tryd.underlying5 Tryd.underlying9 _ _ _ (f i).name.1 e1 ((hC12.gr ((Gr.drew wd).trans hG)).rdAll hnl) rfl
            · intro a1 w1 hG hF
              have e1 : a1.eval (.tmp 13) = .pointer (some ⟨g13, 0, none⟩) := hF.ol 13 (by kernel_rfl)
              exact s_is rfl (wants0 rfl) _ rfl (by simp only [execOp, e1, Option.map, Sem.run_bind, run_cutAll (P := Tryd.prog) Tryd.underlying23 (by kernel_rfl), Result.andThen_ok, Sem.run_pure])
            · intro a1 w1 hG hF
              obtain ⟨_, e1, rfl⟩ := hF.dp 3 85 (by kernel_rfl)
              exact s_str rfl (wants0 rfl) 44 9 5 (.tmp 85) rfl Tryd.underlying44 Tryd.underlying5 Tryd.underlying9 _ _ _ (f i).digest.1 e1 ((hC13.gr ((Gr.drew wd).trans hG)).rdAll hdl) rfl
          · intro vs w1 hG hf
            have y0 : vs 0 = .pointer (some ⟨p, 0, none⟩) := hf.1
            have y2 : vs 2 = .string ⟨(f i).name.1.toArray⟩ := hf.2.2.1
            have y4 : vs 4 = .string ⟨(f i).digest.1.toArray⟩ := hf.2.2.2.2.1
            clear hf
            have hG1 := (Gr.drew wd).trans hG
            have hDoc := doc_any (HRd.out.gr hG1) (by omega : R.length ≤ 1000) (f i).name (f i).digest (Nat.le_trans hBd hG1.size)
            have HDoc := Lib.hid hDoc
            simp only [List.take_succ_cons, List.take_zero, List.drop_succ_cons, List.drop_zero, putAll, Nat.zero_add, Nat.reduceAdd, y0, y2, y4]
            clear hDoc y0 y2 y4 hC12 hC13 HRd
            unfold wpList
            go_simp
            refine .inl (HDoc.out.mono ?_)
            rintro e we ⟨rfl, hRe, hTe⟩
            have hR9 : SetsR B g b p m w9 (.int .i64 ((i : Int) + 1)) we := ⟨i + 1, _, by omega, by simp, ⟨⟨(HTd.out.gr hG1).ref hTe, HTr.out.tree.hg, HTr.out.tree.hb⟩, hRe, Nat.le_trans (setR_length _ _ _) (by omega)⟩, HTn4.out.trans ((Tn.of_gr hG1).trans (hTe.wide setsT_ref))⟩
            clear hRe hTe HDoc hG hG1
            unfold wpList
            go_simp
            go_wp2_with fail
            exact ⟨hR9, by simp only [intOf]; omega⟩
      · obtain rfl : m = i := by omega
        by_cases hc : m < n
        · have c1 : (m : Int) < (n : Int) := by omega
          have c2 : ¬ (m : Int) < 24 := by have := HMM.out; omega
          go_wp2_with fail
          go_meet
          exact ⟨R, HTr.out, HTnr.out⟩
        · have c1 : ¬ (m : Int) < (n : Int) := by omega
          go_wp2_with fail
          go_meet
          exact ⟨R, HTr.out, HTnr.out⟩
  case rest =>
    obtain ⟨R, hTc, hTnc⟩ := hcut
    have hwc : Below B w wc := Below.trans hw9 (hTnc.below hB9)
    have hBc : B ≤ wc.heap.size := Nat.le_trans hB9 hTnc.size
    have HTc := Lib.hid hTc
    have hRl : R.length ≤ 1000 := Nat.le_trans hTc.few (by omega)
    clear hTc hTnc hw9 hB9 hb9 HMM hpB
    by_cases hin : 0 ≤ lv ∧ lv ≤ 4 ∧ 0 ≤ at_ ∧ at_ < 4 ^ lv.toNat
    · obtain ⟨h1, h2, h3, h4⟩ := hin
      obtain ⟨l, rfl⟩ : ∃ l : Nat, lv = (l : Int) := ⟨lv.toNat, by omega⟩
      obtain ⟨q, rfl⟩ : ∃ q : Nat, at_ = (q : Int) := ⟨at_.toNat, by omega⟩
      have hl5 : l < 5 := by omega
      have hql : q < 4 ^ l := by
        rw [Int.toNat_natCast] at h4
        have h5 : (4 : Int) ^ l = ((4 ^ l : Nat) : Int) := by rw [Int.natCast_pow]; rfl
        omega
      clear h1 h2 h3 h4
      obtain ⟨D, hD⟩ : ∃ D, D = nodeR R (4 - l) q := ⟨_, rfl⟩
      have hDl : D.length = 32 := by rw [hD]; exact nodeR_length _ _ _
      obtain ⟨E, hE⟩ : ∃ E, E = nodeR R 4 0 := ⟨_, rfl⟩
      have hEl : E.length = 32 := by rw [hE]; exact nodeR_length _ _ _
      obtain ⟨P, hP⟩ : ∃ P, P = 4 ^ l := ⟨_, rfl⟩
      have hqP : q < P := by rw [hP]; exact hql
      have hWide : Hid (∀ w, Calls Tryd.prog 17 #[.int .i64 (l : Int)] w fun e w' => e = .returned (.int .i64 (P : Int)) ∧ w = w') := Lib.hid (fun w => by rw [hP]; exact wide_ref l (by omega) w)
      have HNode : Hid (Calls Tryd.prog 7 #[.pointer (some ⟨g, 0, none⟩), .int .i64 (l : Int), .int .i64 (q : Int)] wc fun e w' => e = .returned (.tuple #[by32 D, .int .i64 0]) ∧ Gr wc w') := Lib.hid (by rw [hD]; exact node_is HTc.out.tree.is l q hl5 hql)
      have HRoot : Hid (∀ w1, Gr wc w1 → Calls Tryd.prog 10 #[.pointer (some ⟨g, 0, none⟩)] w1 fun e w' => e = .returned (by32 E) ∧ Gr w1 w') := Lib.hid (fun w1 h => by rw [hE]; exact root_is (HTc.out.tree.is.gr h))
      have HRn : Hid (∀ w1, Gr wc w1 → Calls Tryd.prog 18 #[.pointer (some ⟨p, 0, none⟩), .int .i64 (l : Int), .int .i64 (q : Int)] w1 fun e w' => e = .returned (.string ⟨D.toArray⟩) ∧ Gr w1 w') := Lib.hid (fun w1 h => by
        have h1 := refNode_any hRl (4 - l) (by omega) q (by rw [show 4 - (4 - l) = l by omega]; exact hql) w1 (HTc.out.ref.gr h)
        rw [show 4 - (4 - l) = l by omega, ← hD] at h1
        exact h1)
      have HR0 : Hid (∀ w1, Gr wc w1 → Calls Tryd.prog 18 #[.pointer (some ⟨p, 0, none⟩), .int .i64 0, .int .i64 0] w1 fun e w' => e = .returned (.string ⟨E.toArray⟩) ∧ Gr w1 w') := Lib.hid (fun w1 h => by
        have h1 := refNode_any hRl 4 (by omega) 0 (by decide) w1 (HTc.out.ref.gr h)
        rw [← hE] at h1
        exact h1)
      have cl1 : ¬ (l : Int) < 0 := by omega
      have cl2 : ¬ (l : Int) > 4 := by omega
      have cq1 : ¬ (q : Int) < 0 := by omega
      have cq2 : ¬ (q : Int) ≥ (P : Int) := by omega
      clear hD hE hP hql
      go_upto_region 13 with first
        | (go_at_call 7; refine HNode.out.mono ?_; rintro e wd ⟨rfl, hGd⟩)
        | (refine wpList_new (w := wd) (t := 23) rfl _ _ _ rfl wd.heap.size (u8s D) rfl rfl rfl (by rw [u8s_length, hDl]; kernel_rfl) (infoD D hDl) (u8s_oneCell _) ?_; intro we hAe hGe)
      have hGce := hGd.trans hGe
      obtain ⟨g14, hg14⟩ : ∃ g, g = wd.heap.size := ⟨_, rfl⟩
      rw [← hg14] at hAe ⊢
      clear hGd hGe hg14
      go_upto_region 16 with first
        | (go_at_call 17; refine (hWide.out _).mono ?_; rintro e wf ⟨rfl, rfl⟩)
        | (go_at_call 10; refine (HRoot.out _ hGce).mono ?_; rintro e wg ⟨rfl, hGg⟩)
        | (refine wpList_new (w := wg) (t := 23) rfl _ _ _ rfl wg.heap.size (u8s E) rfl rfl rfl (by rw [u8s_length, hEl]; kernel_rfl) (infoD E hEl) (u8s_oneCell _) ?_; intro wh hAh hGh)
      have hr14 : Rd wh (some ⟨g14, 0, none⟩) 32 (u8s D) := (hAe.gr (hGg.trans hGh)).rdAll hDl
      obtain ⟨g15, hg15⟩ : ∃ g, g = wg.heap.size := ⟨_, rfl⟩
      rw [← hg15] at hAh ⊢
      have hr15 : Rd wh (some ⟨g15, 0, none⟩) 32 (u8s E) := hAh.rdAll hEl
      have hGch := hGce.trans (hGg.trans hGh)
      clear hGg hGh hg15 hAe hAh hGce HNode HRoot hWide
      refine wp_region_ssaL (by kernel_rfl) [IsV (.int .i64 ((0 : Nat) : Int)), IsV (.bool false), IsV (.bool false), IsV (.slice (some ⟨g14, 0, none⟩) 32 32), IsV (.string ⟨(D).toArray⟩), IsV (.pointer (some ⟨p, 0, none⟩)), IsV (.int .i64 ((l : Nat) : Int)), IsV (.int .i64 ((q : Nat) : Int)), IsV (.string ⟨(D).toArray⟩), IsV (.bool false), IsV (.bool false), IsV (.bool false), IsV (.slice (some ⟨g15, 0, none⟩) 32 32), IsV (.string ⟨(E).toArray⟩), IsV (.pointer (some ⟨p, 0, none⟩)), IsV (.string ⟨(E).toArray⟩), IsV (.bool false), IsV (.bool false)] (by kernel_rfl) ?_ ?_ ?_
      · intro φ hφ v w1 w2 h hg
        simp only [List.mem_cons, List.not_mem_nil, or_false] at hφ
        rcases hφ with rfl | rfl | rfl | rfl | rfl | rfl | rfl | rfl | rfl | rfl | rfl | rfl | rfl | rfl | rfl | rfl | rfl | rfl
        all_goals first | exact h | exact RdV.gr h hg
      · refine ⟨?_, ?_, ?_, ?_, ?_, ?_, ?_, ?_, ?_, ?_, ?_, ?_, ?_, ?_, ?_, ?_, ?_, ?_, trivial⟩
        · intro a1 w1 hG hF
          exact s_old rfl (wants0 rfl) (.tmp 8) (.inr rfl) (.int .i64 ((0 : Nat) : Int)) (hF.ol 8 (by kernel_rfl)) rfl
        · intro a1 w1 hG hF
          obtain ⟨_, e120, rfl⟩ := hF.dp 0 120 (by kernel_rfl)
          exact s_is rfl (wants0 rfl) _ rfl (by simp only [execOp, e120]; go_simp)
        · intro a1 w1 hG hF
          exact s_same rfl (wants0 rfl) (.tmp 121) (.inr rfl) (hF.dp 1 121 (by kernel_rfl))
        · intro a1 w1 hG hF
          have e14 : a1.eval (.tmp 14) = .pointer (some ⟨g14, 0, none⟩) := hF.ol 14 (by kernel_rfl)
          exact s_is rfl (wantsG hF 2 122 false rfl (by kernel_rfl) rfl) _ rfl (by simp only [execOp, e14, Option.map, Sem.run_bind, run_cutAll (P := Tryd.prog) Tryd.underlying23 (by kernel_rfl), Result.andThen_ok, Sem.run_pure])
        · intro a1 w1 hG hF
          obtain ⟨_, e123, rfl⟩ := hF.dp 3 123 (by kernel_rfl)
          exact s_str rfl (wantsG hF 2 122 false rfl (by kernel_rfl) rfl) 44 9 5 (.tmp 123) rfl Tryd.underlying44 Tryd.underlying5 Tryd.underlying9 _ _ _ (D) e123 (((Gr.drew wh).trans hG).rd hr14) rfl
        · intro a1 w1 hG hF
          exact s_old rfl (wantsG hF 2 122 false rfl (by kernel_rfl) rfl) (.tmp 10) (.inr rfl) (.pointer (some ⟨p, 0, none⟩)) (hF.ol 10 (by kernel_rfl)) rfl
        · intro a1 w1 hG hF
          exact s_old rfl (wantsG hF 2 122 false rfl (by kernel_rfl) rfl) (.tmp 1) (.inr rfl) (.int .i64 ((l : Nat) : Int)) (hF.ol 1 (by kernel_rfl)) rfl
        · intro a1 w1 hG hF
          exact s_old rfl (wantsG hF 2 122 false rfl (by kernel_rfl) rfl) (.tmp 2) (.inr rfl) (.int .i64 ((q : Nat) : Int)) (hF.ol 2 (by kernel_rfl)) rfl
        · intro a1 w1 hG hF
          obtain ⟨_, e125, rfl⟩ := hF.dp 5 125 (by kernel_rfl)
          obtain ⟨_, e126, rfl⟩ := hF.dp 6 126 (by kernel_rfl)
          obtain ⟨_, e127, rfl⟩ := hF.dp 7 127 (by kernel_rfl)
          exact s_call rfl (wantsG hF 2 122 false rfl (by kernel_rfl) rfl) _ rfl _ _ (by simp only [execOp, resolve, invoke, List.map_toArray, List.map_cons, List.map_nil, e125, e126, e127]; go_simp) ((HRn.out w1 (hGch.trans ((Gr.drew wh).trans hG))).mono fun e w2 ⟨he, hb⟩ => ⟨_, he, rfl, hb⟩)
        · intro a1 w1 hG hF
          obtain ⟨_, e124, rfl⟩ := hF.dp 4 124 (by kernel_rfl)
          obtain ⟨_, e128, rfl⟩ := hF.dp 8 128 (by kernel_rfl)
          exact s_is rfl (wantsG hF 2 122 false rfl (by kernel_rfl) rfl) _ rfl (by simp only [execOp, e124, e128]; go_simp)
        · intro a1 w1 hG hF
          obtain ⟨_, e122, rfl⟩ := hF.dp 2 122 (by kernel_rfl)
          obtain ⟨_, e129, rfl⟩ := hF.dp 9 129 (by kernel_rfl)
          exact s_pickF rfl (wants0 rfl) (.tmp 122) _ (.tmp 129) rfl e122 _ e129 rfl
        · intro a1 w1 hG hF
          exact s_same rfl (wants0 rfl) (.tmp 130) (.inr rfl) (hF.dp 10 130 (by kernel_rfl))
        · intro a1 w1 hG hF
          have e15 : a1.eval (.tmp 15) = .pointer (some ⟨g15, 0, none⟩) := hF.ol 15 (by kernel_rfl)
          exact s_is rfl (wantsG hF 11 131 false rfl (by kernel_rfl) rfl) _ rfl (by simp only [execOp, e15, Option.map, Sem.run_bind, run_cutAll (P := Tryd.prog) Tryd.underlying23 (by kernel_rfl), Result.andThen_ok, Sem.run_pure])
        · intro a1 w1 hG hF
          obtain ⟨_, e132, rfl⟩ := hF.dp 12 132 (by kernel_rfl)
          exact s_str rfl (wantsG hF 11 131 false rfl (by kernel_rfl) rfl) 44 9 5 (.tmp 132) rfl Tryd.underlying44 Tryd.underlying5 Tryd.underlying9 _ _ _ (E) e132 (((Gr.drew wh).trans hG).rd hr15) rfl
        · intro a1 w1 hG hF
          exact s_old rfl (wantsG hF 11 131 false rfl (by kernel_rfl) rfl) (.tmp 10) (.inr rfl) (.pointer (some ⟨p, 0, none⟩)) (hF.ol 10 (by kernel_rfl)) rfl
        · intro a1 w1 hG hF
          obtain ⟨_, e134, rfl⟩ := hF.dp 14 134 (by kernel_rfl)
          exact s_call rfl (wantsG hF 11 131 false rfl (by kernel_rfl) rfl) _ rfl _ _ (by simp only [execOp, resolve, invoke, List.map_toArray, List.map_cons, List.map_nil, e134]; go_simp) ((HR0.out w1 (hGch.trans ((Gr.drew wh).trans hG))).mono fun e w2 ⟨he, hb⟩ => ⟨_, he, rfl, hb⟩)
        · intro a1 w1 hG hF
          obtain ⟨_, e133, rfl⟩ := hF.dp 13 133 (by kernel_rfl)
          obtain ⟨_, e135, rfl⟩ := hF.dp 15 135 (by kernel_rfl)
          exact s_is rfl (wantsG hF 11 131 false rfl (by kernel_rfl) rfl) _ rfl (by simp only [execOp, e133, e135]; go_simp)
        · intro a1 w1 hG hF
          obtain ⟨_, e131, rfl⟩ := hF.dp 11 131 (by kernel_rfl)
          obtain ⟨_, e136, rfl⟩ := hF.dp 16 136 (by kernel_rfl)
          exact s_pickF rfl (wants0 rfl) (.tmp 131) _ (.tmp 136) rfl e131 _ e136 rfl
      · intro vs w1 hG hf
        have z137 : vs 17 = .bool false := hf.2.2.2.2.2.2.2.2.2.2.2.2.2.2.2.2.2.1
        clear hf
        simp only [putAll, Nat.zero_add, Nat.reduceAdd, z137]
        have hGci := hGch.trans ((Gr.drew wh).trans hG)
        clear hG hr14 hr15 HRn HR0 hGch z137
        obtain ⟨wi, hwi⟩ : ∃ w, w = w1 := ⟨_, rfl⟩
        rw [← hwi] at hGci ⊢
        clear hwi
        have hwi : Below B w wi := Below.trans hwc (Below.mono hGci hBc)
        have hBi : B ≤ wi.heap.size := Nat.le_trans hBc hGci.size
        have HTi : Hid (TreeB B wi g b m R) := Lib.hid (HTc.out.tree.gr hGci)
        have HRi : Hid (RT B wi p R) := Lib.hid (HTc.out.ref.gr hGci)
        have hc256 : ∀ l, cnt R l ≤ 1000 := fun l => Nat.le_trans (List.length_filter_le _ _) hRl
        have hcz := cnt_zero R
        have HC0 := Lib.hid hcz
        clear hGci hwc hBc HTc hcz cl1 cl2 cq1 cq2 hqP
        go_simp
        go_upto_region 20 with fail
        go_loopw [16, 17] (fun v16 v17 wr => LeafsR R wi v16 v17 wr) (fun _ v17 _ => 256 - (intOf v17).toNat)
        case atStart => exact ⟨0, by omega, by rw [HC0.out]; rfl, rfl, Gr.refl _⟩
        case round =>
          obtain ⟨lf, hlf, rfl, rfl, hGr⟩ := LeafsR.out hrel
          clear hrel
          have hcl := hc256 lf
          by_cases hlt : lf < 256
          · have cf : (lf : Int) < 256 := by omega
            have HKey : Hid (Calls Tryd.prog 12 #[.pointer (some ⟨g, 0, none⟩), .int .i64 (lf : Int)] wr fun e w' => ∃ (A : Option Addr) (m' c : Nat), e = .returned (.slice A m' c) ∧ NmR w' A m' (namesR R lf) ∧ Hid (m' = (inLeaf R lf).length) ∧ m' ≤ m ∧ Gr wr w') := Lib.hid ((keys_is (HTi.out.is.gr hGr) (by omega) lf).mono fun _ _ ⟨A, m', c, h1, h2, h3, h4, h5⟩ => ⟨A, m', c, h1, h2, Lib.hid h3, h4, h5⟩)
            go_upto_region 24 with (go_at_call 12; refine HKey.out.mono ?_; rintro e wk ⟨Ak, mk, ck, rfl, hNm, HMK, hmm, hGk⟩)
            have hGik := hGr.trans hGk
            have HNm := Lib.hid hNm
            have hcs := cnt_succ lf R
            rw [← HMK.out] at hcs
            have HCS := Lib.hid hcs
            clear hNm hGr hGk HKey hcs
            go_loopw [16, 19] (fun v16 v19 wr => InLeafR R lf mk wk v16 v19 wr) (fun _ v19 _ => mk - (intOf v19).toNat)
            case atStart => exact ⟨0, by omega, rfl, rfl, Gr.refl _⟩
            case round =>
              obtain ⟨i, hi, rfl, rfl, hGq⟩ := InLeafR.out hrel
              clear hrel
              by_cases him : i < mk
              · obtain ⟨r, hr⟩ : ∃ r, (inLeaf R lf)[i]? = some r := ⟨_, List.getElem?_eq_getElem (by rw [← HMK.out]; exact him)⟩
                obtain ⟨x, hx⟩ : ∃ x, x = r.1 := ⟨_, rfl⟩
                obtain ⟨D, hD⟩ : ∃ D, D = r.2.1 := ⟨_, rfl⟩
                have hDl : D.length = 32 := by rw [hD]; exact r.2.2
                have hxl := x.2
                have hat := leaf_at HTi.out.is.sorted hr
                obtain ⟨k, hk⟩ : ∃ k, k = cnt R lf + i := ⟨_, rfl⟩
                rw [← hk] at hat
                have hkR : k < R.length := (List.getElem?_eq_some_iff.1 hat).1
                obtain ⟨hgx, hlx⟩ := leaf_get HTi.out.is.sorted hr
                obtain ⟨bk, hAk, hrx⟩ := HNm.out.2 i x (by unfold namesR; rw [List.getElem?_map, hr, hx]; rfl)
                subst hAk
                have rgx := hGq.range hrx
                have hGet := get_is (HTi.out.is.gr (hGik.trans hGq)) x
                rw [hx, hgx, ← hD, ← hx] at hGet
                have HGet := Lib.hid hGet
                have HLf : Hid (∀ w, Calls Tryd.prog 19 #[.agg (u8s x.1).toArray] w fun e w' => e = .returned (.int .i64 (lf : Int)) ∧ Gr w w') := Lib.hid (fun w => by
                  have h1 := leaf_any x w
                  have h2 : ((x.1.getD 0 0).toNat : Int) = (lf : Int) := by rw [hx, ← hlx]; rfl
                  rw [h2] at h1
                  exact h1)
                obtain ⟨AR, cR, hAR, hOR⟩ := (HRi.out.gr (hGik.trans hGq)).mem
                obtain ⟨gN, hAN, hgN, hrN⟩ := own_at2 hOR hkR hat
                subst hAN
                have hrc : rowC r = [.string ⟨x.1.toArray⟩, .string ⟨D.toArray⟩] := by rw [hx, hD]; rfl
                rw [hrc] at hrN
                obtain ⟨rn, hrn⟩ : ∃ rn, rn = R.length := ⟨_, rfl⟩
                rw [← hrn] at hAR hOR hkR
                have hk1000 : k ≤ 1000 := by have := hRl; omega
                have him1 : (i : Int) < (mk : Int) := by omega
                have hmk1000 : mk ≤ 1000 := by omega
                have HKI := Lib.hid hk
                have hki : ((cnt R lf + i : Nat) : Int) = (k : Int) := by rw [hk]
                rw [hki]
                clear hr hx hD hat hgx hlx hrx hGet hrc hrn hk hki
                go_upto_region 27 with first
                  | (refine wpList_load_mid rfl _ _ rfl bk _ rfl (u8s x.1) _ (rangeEq rgx (by omega)) Tryd.underlying30 rfl (infoN x) ?_)
                  | (go_at_call 11; refine HGet.out.mono ?_; rintro e wg ⟨rfl, hGg⟩)
                  | (refine wpList_new (w := wg) (t := 23) rfl _ _ _ rfl wg.heap.size (u8s D) rfl rfl rfl (by rw [u8s_length, hDl]; kernel_rfl) (infoD D hDl) (u8s_oneCell _) ?_; intro wt hAt hGt)
                have hG3 := hGg.trans hGt
                obtain ⟨g20, hg20⟩ : ∃ g, g = wg.heap.size := ⟨_, rfl⟩
                rw [← hg20] at hAt ⊢
                have hr20 : Rd wt (some ⟨g20, 0, none⟩) 32 (u8s D) := hAt.rdAll hDl
                have rgt := hG3.range rgx
                have hrt : Rd wt (some ⟨bk, i * 32, none⟩) 32 (u8s x.1) := rd_range rgt hxl
                have c0x : wt.cell? ⟨p, 0, none⟩ = some (.slice (some ⟨gN, 0, none⟩) rn cR) := (hAR.gr hG3).cell rfl
                have kcx : wt.cell? ⟨gN, k * 2, none⟩ = some (.string ⟨x.1.toArray⟩) := (hG3.range hrN) 0 _ rfl
                have dcx : wt.cell? ⟨gN, k * 2 + 1, none⟩ = some (.string ⟨D.toArray⟩) := (hG3.range hrN) 1 _ rfl
                have HGE : Hid (false = decide (k ≥ rn)) := Lib.hid (by rw [decide_eq_false (by omega)])
                have hGqt := hGq.trans hG3
                clear hGg hGt hg20 hAt rgx HGet hAR hOR hgN hrN hG3 hGq
                refine wp_region_ssaL (by kernel_rfl) [IsV (.int .i64 ((k : Nat) : Int)), IsV (.pointer (some ⟨p, 0, none⟩)), IsV (.pointer (some ⟨p, 0, none⟩)), IsV (.pointer (some ⟨p, 0, none⟩)), IsV (.slice (some ⟨gN, 0, none⟩) rn cR), IsV (.int .i64 ((rn : Nat) : Int)), IsV (.bool false), IsV (.bool false), IsV (.slice (some ⟨bk, 0, none⟩) mk ck), IsV (.int .i64 ((i : Nat) : Int)), IsV (.pointer (some ⟨bk, i * 32, none⟩)), IsV (.slice (some ⟨bk, i * 32, none⟩) 32 32), IsV (.string ⟨(x.1).toArray⟩), IsV (.pointer (some ⟨p, 0, none⟩)), IsV (.pointer (some ⟨p, 0, none⟩)), IsV (.pointer (some ⟨p, 0, none⟩)), IsV (.slice (some ⟨gN, 0, none⟩) rn cR), IsV (.int .i64 ((k : Nat) : Int)), IsV (.pointer (some ⟨gN, k * 2, none⟩)), IsV (.pointer (some ⟨gN, k * 2, none⟩)), IsV (.string ⟨(x.1).toArray⟩), IsV (.bool false), IsV (.bool false), IsV (.bool false), IsV (.slice (some ⟨g20, 0, none⟩) 32 32), IsV (.string ⟨(D).toArray⟩), IsV (.pointer (some ⟨p, 0, none⟩)), IsV (.pointer (some ⟨p, 0, none⟩)), IsV (.pointer (some ⟨p, 0, none⟩)), IsV (.slice (some ⟨gN, 0, none⟩) rn cR), IsV (.int .i64 ((k : Nat) : Int)), IsV (.pointer (some ⟨gN, k * 2, none⟩)), IsV (.pointer (some ⟨gN, k * 2 + 1, none⟩)), IsV (.string ⟨(D).toArray⟩), IsV (.bool false), IsV (.bool false), IsV (.bool false), IsV (.slice (some ⟨bk, 0, none⟩) mk ck), IsV (.int .i64 ((i : Nat) : Int)), IsV (.pointer (some ⟨bk, i * 32, none⟩)), IsV (.agg (u8s (x.1)).toArray), IsV (.int .i64 ((lf : Nat) : Int)), IsV (.int .i64 ((lf : Nat) : Int)), IsV (.bool false), IsV (.bool false)] (by kernel_rfl) ?_ ?_ ?_
                · intro φ hφ v w1 w2 h hg
                  simp only [List.mem_cons, List.not_mem_nil, or_false] at hφ
                  rcases hφ with rfl | rfl | rfl | rfl | rfl | rfl | rfl | rfl | rfl | rfl | rfl | rfl | rfl | rfl | rfl | rfl | rfl | rfl | rfl | rfl | rfl | rfl | rfl | rfl | rfl | rfl | rfl | rfl | rfl | rfl | rfl | rfl | rfl | rfl | rfl | rfl | rfl | rfl | rfl | rfl | rfl | rfl | rfl | rfl | rfl
                  all_goals first | exact h | exact RdV.gr h hg
                · refine ⟨?_, ?_, ?_, ?_, ?_, ?_, ?_, ?_, ?_, ?_, ?_, ?_, ?_, ?_, ?_, ?_, ?_, ?_, ?_, ?_, ?_, ?_, ?_, ?_, ?_, ?_, ?_, ?_, ?_, ?_, ?_, ?_, ?_, ?_, ?_, ?_, ?_, ?_, ?_, ?_, ?_, ?_, ?_, ?_, ?_, trivial⟩
                  · intro a1 w1 hG hF
                    exact s_old rfl (wants0 rfl) (.tmp 16) (.inr rfl) (.int .i64 ((k : Nat) : Int)) (hF.ol 16 (by kernel_rfl)) rfl
                  · intro a1 w1 hG hF
                    exact s_old rfl (wants0 rfl) (.tmp 10) (.inr rfl) (.pointer (some ⟨p, 0, none⟩)) (hF.ol 10 (by kernel_rfl)) rfl
                  · intro a1 w1 hG hF
                    obtain ⟨_, e158, rfl⟩ := hF.dp 1 158 (by kernel_rfl)
                    exact s_is rfl (wants0 rfl) _ rfl (run_nil e158)
                  · intro a1 w1 hG hF
                    obtain ⟨_, e159, rfl⟩ := hF.dp 2 159 (by kernel_rfl)
                    exact s_is rfl (wants0 rfl) _ rfl (by simp only [execOp, e159]; go_simp)
                  · intro a1 w1 hG hF
                    obtain ⟨_, e160, rfl⟩ := hF.dp 3 160 (by kernel_rfl)
                    have hc := Gr.cell ((Gr.drew wt).trans hG) c0x
                    exact s_is rfl (wants0 rfl) _ rfl (by simp only [execOp, e160]; go_simp)
                  · intro a1 w1 hG hF
                    obtain ⟨_, e161, rfl⟩ := hF.dp 4 161 (by kernel_rfl)
                    exact s_is rfl (wants0 rfl) _ rfl (run_len_slice Tryd.underlying37 e161)
                  · intro a1 w1 hG hF
                    obtain ⟨_, e157, rfl⟩ := hF.dp 0 157 (by kernel_rfl)
                    obtain ⟨_, e162, rfl⟩ := hF.dp 5 162 (by kernel_rfl)
                    exact s_is rfl (wants0 rfl) _ rfl (by rw [HGE.out]; exact run_geqN (a := k) (b := rn) e157 e162)
                  · intro a1 w1 hG hF
                    exact s_same rfl (wants0 rfl) (.tmp 163) (.inr rfl) (hF.dp 6 163 (by kernel_rfl))
                  · intro a1 w1 hG hF
                    exact s_old rfl (wantsG hF 7 164 false rfl (by kernel_rfl) rfl) (.tmp 18) (.inr rfl) (.slice (some ⟨bk, 0, none⟩) mk ck) (hF.ol 18 (by kernel_rfl)) rfl
                  · intro a1 w1 hG hF
                    exact s_old rfl (wantsG hF 7 164 false rfl (by kernel_rfl) rfl) (.tmp 19) (.inr rfl) (.int .i64 ((i : Nat) : Int)) (hF.ol 19 (by kernel_rfl)) rfl
                  · intro a1 w1 hG hF
                    obtain ⟨_, e165, rfl⟩ := hF.dp 8 165 (by kernel_rfl)
                    obtain ⟨_, e166, rfl⟩ := hF.dp 9 166 (by kernel_rfl)
                    exact s_is rfl (wantsG hF 7 164 false rfl (by kernel_rfl) rfl) _ rfl (by simp only [execOp, e165, e166]; go_simp; try (intro h; omega))
                  · intro a1 w1 hG hF
                    obtain ⟨_, e167, rfl⟩ := hF.dp 10 167 (by kernel_rfl)
                    exact s_is rfl (wantsG hF 7 164 false rfl (by kernel_rfl) rfl) _ rfl (by simp only [execOp, e167, Option.map, Sem.run_bind, run_cutAllO (P := Tryd.prog) Tryd.underlying30 (by kernel_rfl), Result.andThen_ok, Sem.run_pure])
                  · intro a1 w1 hG hF
                    obtain ⟨_, e168, rfl⟩ := hF.dp 11 168 (by kernel_rfl)
                    exact s_str rfl (wantsG hF 7 164 false rfl (by kernel_rfl) rfl) 44 9 5 (.tmp 168) rfl Tryd.underlying44 Tryd.underlying5 Tryd.underlying9 _ _ _ (x.1) e168 (((Gr.drew wt).trans hG).rd hrt) rfl
                  · intro a1 w1 hG hF
                    exact s_old rfl (wantsG hF 7 164 false rfl (by kernel_rfl) rfl) (.tmp 10) (.inr rfl) (.pointer (some ⟨p, 0, none⟩)) (hF.ol 10 (by kernel_rfl)) rfl
                  · intro a1 w1 hG hF
                    obtain ⟨_, e170, rfl⟩ := hF.dp 13 170 (by kernel_rfl)
                    exact s_is rfl (wantsG hF 7 164 false rfl (by kernel_rfl) rfl) _ rfl (run_nil e170)
                  · intro a1 w1 hG hF
                    obtain ⟨_, e171, rfl⟩ := hF.dp 14 171 (by kernel_rfl)
                    exact s_is rfl (wantsG hF 7 164 false rfl (by kernel_rfl) rfl) _ rfl (by simp only [execOp, e171]; go_simp)
                  · intro a1 w1 hG hF
                    obtain ⟨_, e172, rfl⟩ := hF.dp 15 172 (by kernel_rfl)
                    have hc := Gr.cell ((Gr.drew wt).trans hG) c0x
                    exact s_is rfl (wantsG hF 7 164 false rfl (by kernel_rfl) rfl) _ rfl (by simp only [execOp, e172]; go_simp)
                  · intro a1 w1 hG hF
                    exact s_old rfl (wantsG hF 7 164 false rfl (by kernel_rfl) rfl) (.tmp 16) (.inr rfl) (.int .i64 ((k : Nat) : Int)) (hF.ol 16 (by kernel_rfl)) rfl
                  · intro a1 w1 hG hF
                    obtain ⟨_, e173, rfl⟩ := hF.dp 16 173 (by kernel_rfl)
                    obtain ⟨_, e174, rfl⟩ := hF.dp 17 174 (by kernel_rfl)
                    exact s_is rfl (wantsG hF 7 164 false rfl (by kernel_rfl) rfl) _ rfl (by simp only [execOp, e173, e174]; go_simp; try (intro h; omega))
                  · intro a1 w1 hG hF
                    obtain ⟨_, e175, rfl⟩ := hF.dp 18 175 (by kernel_rfl)
                    exact s_is rfl (wantsG hF 7 164 false rfl (by kernel_rfl) rfl) _ rfl (by simp only [execOp, e175]; go_simp)
                  · intro a1 w1 hG hF
                    obtain ⟨_, e176, rfl⟩ := hF.dp 19 176 (by kernel_rfl)
                    exact s_is rfl (wantsG hF 7 164 false rfl (by kernel_rfl) rfl) _ rfl (run_load1B (.inr (.inr (.inl Tryd.underlying9))) e176 (Gr.cell ((Gr.drew wt).trans hG) kcx))
                  · intro a1 w1 hG hF
                    obtain ⟨_, e169, rfl⟩ := hF.dp 12 169 (by kernel_rfl)
                    obtain ⟨_, e177, rfl⟩ := hF.dp 20 177 (by kernel_rfl)
                    exact s_is rfl (wantsG hF 7 164 false rfl (by kernel_rfl) rfl) _ rfl (by simp only [execOp, e169, e177]; go_simp)
                  · intro a1 w1 hG hF
                    obtain ⟨_, e164, rfl⟩ := hF.dp 7 164 (by kernel_rfl)
                    obtain ⟨_, e178, rfl⟩ := hF.dp 21 178 (by kernel_rfl)
                    exact s_pickF rfl (wants0 rfl) (.tmp 164) _ (.tmp 178) rfl e164 _ e178 rfl
                  · intro a1 w1 hG hF
                    exact s_same rfl (wants0 rfl) (.tmp 179) (.inr rfl) (hF.dp 22 179 (by kernel_rfl))
                  · intro a1 w1 hG hF
                    have e20 : a1.eval (.tmp 20) = .pointer (some ⟨g20, 0, none⟩) := hF.ol 20 (by kernel_rfl)
                    exact s_is rfl (wantsG hF 23 180 false rfl (by kernel_rfl) rfl) _ rfl (by simp only [execOp, e20, Option.map, Sem.run_bind, run_cutAll (P := Tryd.prog) Tryd.underlying23 (by kernel_rfl), Result.andThen_ok, Sem.run_pure])
                  · intro a1 w1 hG hF
                    obtain ⟨_, e181, rfl⟩ := hF.dp 24 181 (by kernel_rfl)
                    exact s_str rfl (wantsG hF 23 180 false rfl (by kernel_rfl) rfl) 44 9 5 (.tmp 181) rfl Tryd.underlying44 Tryd.underlying5 Tryd.underlying9 _ _ _ (D) e181 (((Gr.drew wt).trans hG).rd hr20) rfl
                  · intro a1 w1 hG hF
                    exact s_old rfl (wantsG hF 23 180 false rfl (by kernel_rfl) rfl) (.tmp 10) (.inr rfl) (.pointer (some ⟨p, 0, none⟩)) (hF.ol 10 (by kernel_rfl)) rfl
                  · intro a1 w1 hG hF
                    obtain ⟨_, e183, rfl⟩ := hF.dp 26 183 (by kernel_rfl)
                    exact s_is rfl (wantsG hF 23 180 false rfl (by kernel_rfl) rfl) _ rfl (run_nil e183)
                  · intro a1 w1 hG hF
                    obtain ⟨_, e184, rfl⟩ := hF.dp 27 184 (by kernel_rfl)
                    exact s_is rfl (wantsG hF 23 180 false rfl (by kernel_rfl) rfl) _ rfl (by simp only [execOp, e184]; go_simp)
                  · intro a1 w1 hG hF
                    obtain ⟨_, e185, rfl⟩ := hF.dp 28 185 (by kernel_rfl)
                    have hc := Gr.cell ((Gr.drew wt).trans hG) c0x
                    exact s_is rfl (wantsG hF 23 180 false rfl (by kernel_rfl) rfl) _ rfl (by simp only [execOp, e185]; go_simp)
                  · intro a1 w1 hG hF
                    exact s_old rfl (wantsG hF 23 180 false rfl (by kernel_rfl) rfl) (.tmp 16) (.inr rfl) (.int .i64 ((k : Nat) : Int)) (hF.ol 16 (by kernel_rfl)) rfl
                  · intro a1 w1 hG hF
                    obtain ⟨_, e186, rfl⟩ := hF.dp 29 186 (by kernel_rfl)
                    obtain ⟨_, e187, rfl⟩ := hF.dp 30 187 (by kernel_rfl)
                    exact s_is rfl (wantsG hF 23 180 false rfl (by kernel_rfl) rfl) _ rfl (by simp only [execOp, e186, e187]; go_simp; try (intro h; omega))
                  · intro a1 w1 hG hF
                    obtain ⟨_, e188, rfl⟩ := hF.dp 31 188 (by kernel_rfl)
                    exact s_is rfl (wantsG hF 23 180 false rfl (by kernel_rfl) rfl) _ rfl (by simp only [execOp, e188]; go_simp)
                  · intro a1 w1 hG hF
                    obtain ⟨_, e189, rfl⟩ := hF.dp 32 189 (by kernel_rfl)
                    exact s_is rfl (wantsG hF 23 180 false rfl (by kernel_rfl) rfl) _ rfl (run_load1B (.inr (.inr (.inl Tryd.underlying9))) e189 (Gr.cell ((Gr.drew wt).trans hG) dcx))
                  · intro a1 w1 hG hF
                    obtain ⟨_, e182, rfl⟩ := hF.dp 25 182 (by kernel_rfl)
                    obtain ⟨_, e190, rfl⟩ := hF.dp 33 190 (by kernel_rfl)
                    exact s_is rfl (wantsG hF 23 180 false rfl (by kernel_rfl) rfl) _ rfl (by simp only [execOp, e182, e190]; go_simp)
                  · intro a1 w1 hG hF
                    obtain ⟨_, e180, rfl⟩ := hF.dp 23 180 (by kernel_rfl)
                    obtain ⟨_, e191, rfl⟩ := hF.dp 34 191 (by kernel_rfl)
                    exact s_pickF rfl (wants0 rfl) (.tmp 180) _ (.tmp 191) rfl e180 _ e191 rfl
                  · intro a1 w1 hG hF
                    exact s_same rfl (wants0 rfl) (.tmp 192) (.inr rfl) (hF.dp 35 192 (by kernel_rfl))
                  · intro a1 w1 hG hF
                    exact s_old rfl (wantsG hF 36 193 false rfl (by kernel_rfl) rfl) (.tmp 18) (.inr rfl) (.slice (some ⟨bk, 0, none⟩) mk ck) (hF.ol 18 (by kernel_rfl)) rfl
                  · intro a1 w1 hG hF
                    exact s_old rfl (wantsG hF 36 193 false rfl (by kernel_rfl) rfl) (.tmp 19) (.inr rfl) (.int .i64 ((i : Nat) : Int)) (hF.ol 19 (by kernel_rfl)) rfl
                  · intro a1 w1 hG hF
                    obtain ⟨_, e194, rfl⟩ := hF.dp 37 194 (by kernel_rfl)
                    obtain ⟨_, e195, rfl⟩ := hF.dp 38 195 (by kernel_rfl)
                    exact s_is rfl (wantsG hF 36 193 false rfl (by kernel_rfl) rfl) _ rfl (by simp only [execOp, e194, e195]; go_simp; try (intro h; omega))
                  · intro a1 w1 hG hF
                    obtain ⟨_, e196, rfl⟩ := hF.dp 39 196 (by kernel_rfl)
                    exact s_is rfl (wantsG hF 36 193 false rfl (by kernel_rfl) rfl) _ rfl (run_loadMid ⟨_, _, Tryd.underlying30⟩ (infoN x) e196 (((Gr.drew wt).trans hG).range rgt))
                  · intro a1 w1 hG hF
                    obtain ⟨_, e197, rfl⟩ := hF.dp 40 197 (by kernel_rfl)
                    exact s_call rfl (wantsG hF 36 193 false rfl (by kernel_rfl) rfl) _ rfl _ _ (by simp only [execOp, resolve, invoke, List.map_toArray, List.map_cons, List.map_nil, e197]; go_simp) ((HLf.out w1).mono fun e w2 ⟨he, hb⟩ => ⟨_, he, rfl, hb⟩)
                  · intro a1 w1 hG hF
                    exact s_old rfl (wantsG hF 36 193 false rfl (by kernel_rfl) rfl) (.tmp 17) (.inr rfl) (.int .i64 ((lf : Nat) : Int)) (hF.ol 17 (by kernel_rfl)) rfl
                  · intro a1 w1 hG hF
                    obtain ⟨_, e198, rfl⟩ := hF.dp 41 198 (by kernel_rfl)
                    obtain ⟨_, e199, rfl⟩ := hF.dp 42 199 (by kernel_rfl)
                    exact s_is rfl (wantsG hF 36 193 false rfl (by kernel_rfl) rfl) _ rfl (by simp only [execOp, e198, e199]; go_simp)
                  · intro a1 w1 hG hF
                    obtain ⟨_, e193, rfl⟩ := hF.dp 36 193 (by kernel_rfl)
                    obtain ⟨_, e200, rfl⟩ := hF.dp 43 200 (by kernel_rfl)
                    exact s_pickF rfl (wants0 rfl) (.tmp 193) _ (.tmp 200) rfl e193 _ e200 rfl
                · intro vs w1 hG hf
                  have z201 : vs 44 = .bool false := hf.2.2.2.2.2.2.2.2.2.2.2.2.2.2.2.2.2.2.2.2.2.2.2.2.2.2.2.2.2.2.2.2.2.2.2.2.2.2.2.2.2.2.2.2.1
                  clear hf
                  simp only [putAll, Nat.zero_add, Nat.reduceAdd, z201]
                  have hGz := hGqt.trans ((Gr.drew wt).trans hG)
                  have hR9 : InLeafR R lf mk wk (.int .i64 ((k : Int) + 1)) (.int .i64 ((i : Int) + 1)) w1 := ⟨i + 1, by omega, by rw [← Nat.add_assoc, ← HKI.out]; simp, by simp, hGz⟩
                  clear hG hr20 rgt hrt c0x kcx dcx hGqt hGz z201 HLf
                  go_simp
                  go_wp2_with fail
                  exact ⟨hR9, by simp only [intOf]; omega⟩
              · have hie : i = mk := by omega
                have him1 : ¬ (i : Int) < (mk : Int) := by omega
                have hR9 : LeafsR R wi (.int .i64 ((cnt R lf + i : Nat) : Int)) (.int .i64 ((lf : Int) + 1)) wr := ⟨lf + 1, by omega, by rw [HCS.out, hie], by simp, hGik.trans hGq⟩
                clear hGq
                go_wp2_with fail
                exact ⟨hR9, by simp only [intOf]; omega⟩
          · have hl256 : lf = 256 := by omega
            have cf : ¬ (lf : Int) < 256 := by omega
            have hca := cnt_all R
            rw [← hl256] at hca
            obtain ⟨AR, cR, hAR, hOR⟩ := (HRi.out.gr hGr).mem
            have c0x : wr.cell? ⟨p, 0, none⟩ = some (.slice AR R.length cR) := hAR.cell rfl
            obtain ⟨rn, hrn⟩ : ∃ rn, rn = cnt R lf := ⟨_, rfl⟩
            rw [← hca, ← hrn] at c0x
            rw [← hrn]
            clear hca hrn hAR hOR hl256 hcl hlt hlf
            go_wp2_with fail
            go_ret
            exact ⟨rfl, Below.trans hwi (Below.mono hGr hBi)⟩
    · have HNode : Hid (Calls Tryd.prog 7 #[.pointer (some ⟨g, 0, none⟩), .int .i64 lv, .int .i64 at_] wc fun e w' => e = .returned (.tuple #[by32 Z32, .int .i64 1]) ∧ Gr wc w') := Lib.hid (node_out (some ⟨g, 0, none⟩) lv at_ hin wc)
      go_upto_region 13 with first
        | (go_at_call 7; refine HNode.out.mono ?_; rintro e wd ⟨rfl, hGd⟩)
        | (refine wpList_new (w := wd) (t := 23) rfl _ _ _ rfl wd.heap.size (u8s Z32) rfl rfl rfl (by kernel_rfl) (infoD Z32 rfl) (u8s_oneCell _) ?_; intro we hAe hGe)
      have hwe : Below B w we := Below.trans hwc (Below.mono (hGd.trans hGe) hBc)
      obtain ⟨g14, hg14⟩ : ∃ g, g = wd.heap.size := ⟨_, rfl⟩
      rw [← hg14] at hAe ⊢
      clear hg14 hGd hGe HNode HTc
      by_cases h1 : lv < 0
      · go_wp2_with first
          | (refine wpList_loadW rfl 23 (.tmp 14) rfl rfl hAe ⟨_, _, Tryd.underlying23⟩ (infoD Z32 rfl) ?_)
          | (refine wpList_valW rfl (.bool true) _ (run_eqA32 (x := .tmp 114) (y := .tmp 115) (D := Z32) rfl rfl rfl) ?_)
        go_ret
        exact ⟨rfl, hwe⟩
      · by_cases h2 : lv > 4
        · go_wp2_with first
            | (refine wpList_loadW rfl 23 (.tmp 14) rfl rfl hAe ⟨_, _, Tryd.underlying23⟩ (infoD Z32 rfl) ?_)
            | (refine wpList_valW rfl (.bool true) _ (run_eqA32 (x := .tmp 114) (y := .tmp 115) (D := Z32) rfl rfl rfl) ?_)
          go_ret
          exact ⟨rfl, hwe⟩
        · by_cases h3 : at_ < 0
          · go_wp2_with first
              | (refine wpList_loadW rfl 23 (.tmp 14) rfl rfl hAe ⟨_, _, Tryd.underlying23⟩ (infoD Z32 rfl) ?_)
              | (refine wpList_valW rfl (.bool true) _ (run_eqA32 (x := .tmp 114) (y := .tmp 115) (D := Z32) rfl rfl rfl) ?_)
            go_ret
            exact ⟨rfl, hwe⟩
          · obtain ⟨l, rfl⟩ : ∃ l : Nat, lv = (l : Int) := ⟨lv.toNat, by omega⟩
            have h4 : ¬ at_ < (4 : Int) ^ l := fun h => hin ⟨by omega, by omega, by omega, by rw [Int.toNat_natCast]; exact h⟩
            obtain ⟨P, hP⟩ : ∃ P, P = 4 ^ l := ⟨_, rfl⟩
            have hPi : ((P : Nat) : Int) = (4 : Int) ^ l := by rw [hP, Int.natCast_pow]; rfl
            have h5 : at_ ≥ (P : Int) := by rw [hPi]; omega
            have hWide : Hid (∀ w, Calls Tryd.prog 17 #[.int .i64 (l : Int)] w fun e w' => e = .returned (.int .i64 (P : Int)) ∧ w = w') := Lib.hid (fun w => by rw [hP]; exact wide_ref l (by omega) w)
            clear h4 hPi hP hin
            go_wp2_with first
              | (go_at_call 17; refine (hWide.out _).mono ?_; rintro e wf ⟨rfl, rfl⟩)
              | (refine wpList_loadW rfl 23 (.tmp 14) rfl rfl hAe ⟨_, _, Tryd.underlying23⟩ (infoD Z32 rfl) ?_)
              | (refine wpList_valW rfl (.bool true) _ (run_eqA32 (x := .tmp 114) (y := .tmp 115) (D := Z32) rfl rfl rfl) ?_)
            go_ret
            exact ⟨rfl, hwe⟩
end Go.Proofs.YtamhjhkmckefbaaDoor
