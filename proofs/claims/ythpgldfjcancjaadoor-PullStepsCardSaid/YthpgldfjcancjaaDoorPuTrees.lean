/- The walk of the law's trees: both trees, and the document's. No condition. -/
import Derived.Test.YthpgldfjcancjaaDoorPulls
import Derived.Test.YthpgldfjcancjaaDoorPuTwo
import Derived.Test.YthpgldfjcancjaaDoorMkSetsP
import Derived.Test.YthpgldfjcancjaaDoorMkOrdP
import Derived.Test.YthpgldfjcancjaaDoorMkDoc
import Derived.Test.YthpgldfjcancjaaDoorKitM
import Derived.Deep.CutBlock
import Derived.Deep.CutRange
namespace Go.Proofs.YthpgldfjcancjaaDoor
open Go.RowKit
/-- A row of the law: a key, its digests. -/
structure RowM where
  key : Int
  a : Int
  b : Int
def rowMC (r : RowM) : List Value := [.int .i64 r.key, .int .i64 r.a, .int .i64 r.b]
def Rows3 (w : World) (A : Option Addr) (n : Nat) (f : Nat → RowM) : Prop := ∀ i, i < n → ∃ b o, A = some ⟨b, o, none⟩ ∧ w.rangeAt b (o + i * 3) (rowMC (f i))
theorem rows3_far {w w' : World} {B : Nat} {A : Option Addr} {n : Nat} {f : Nat → RowM} (h : Rows3 w A n f) (hB : B = w.heap.size) (hb : Below B w w') : Rows3 w' A n f := fun q hq => by
  obtain ⟨bA, oA, e, hr⟩ := h q hq
  refine ⟨bA, oA, e, fun j u hu => ?_⟩
  have hc := hr j u hu
  exact (World.cell?_of_block (hb.block _ (by rw [hB]; exact lt_of_cell hc))).trans hc
def u64N (z : Int) : Nat := (z % 18446744073709551616).toNat
theorem u64N_eq (z : Int) : IntKind.u64.wrap z = (u64N z : Int) := by
  rw [IntKind.wrap_u64]
  unfold u64N
  omega
theorem rem_nat (m n : Nat) : ((m : Int).tmod (n : Int)) = ((m % n : Nat) : Int) := by rw [← Int.ofNat_tmod]
def oneN (n : Nat) : Nm := ⟨UInt8.ofNat n :: List.replicate 31 0, by simp⟩
def twoN (m n : Nat) : Nm := ⟨UInt8.ofNat m :: UInt8.ofNat n :: List.replicate 30 0, by simp⟩
theorem oneN_val {n : Nat} (hn : n < 256) : Value.int .u8 (n : Int) :: List.replicate 31 (.int .u8 0) = u8s (oneN n).1 := by
  unfold u8s oneN
  rw [List.map_cons, List.map_replicate, UInt8.toNat_ofNat', Nat.mod_eq_of_lt hn]
  rfl
theorem twoN_val {m n : Nat} (hm : m < 256) (hn : n < 256) : Value.int .u8 (m : Int) :: Value.int .u8 (n : Int) :: List.replicate 30 (.int .u8 0) = u8s (twoN m n).1 := by
  unfold u8s twoN
  rw [List.map_cons, List.map_cons, List.map_replicate, UInt8.toNat_ofNat', UInt8.toNat_ofNat', Nat.mod_eq_of_lt hm, Nat.mod_eq_of_lt hn]
  rfl
/-- The name and the digests of a row. -/
def RowM.nm (r : RowM) : Nm := twoN (u64N r.key % 40 / 2 * 13) (u64N r.key % 40)
def RowM.da (r : RowM) : Nm := oneN (u64N r.a % 3)
def RowM.db (r : RowM) : Nm := oneN (u64N r.b % 3)
theorem run_toU8 {P : Program} {ev : Operand → Value} {d : Option Tmp} {t S T : TypeId} {p : String} {af : Array Edge} {gd : Option (Nat × Bool)} {w : World} {x : Operand} (hs : P.underlying S = some (.int .u64)) (hd : P.underlying T = some (.int .u8)) {a : Nat} (ha : a < 256) (h1 : ev x = .int .u64 (a : Int)) :
    (execOp ev ⟨d, .convert S T x, t, p, af, gd⟩).run P w = .ok (.value (.int .u8 (a : Int))) w := by
  simp only [execOp, h1]
  go_simp
  first | done | (simp only [IntKind.wrap, IntKind.bits, IntKind.signed]; simp; omega)
theorem Arr.otherCells {g g' : Nat} {t : TypeId} {cs : List Value} (hne : g ≠ g') : ∀ (vs : List Value) (o : Nat) (w : World), Arr w g t cs → Arr (w.setCells g' o vs) g t cs
  | [], _, _, h => h
  | v :: vs, o, _, h => Arr.otherCells hne vs (o + 1) _ (h.other hne v)
theorem run_toUN {P : Program} {ev : Operand → Value} {d : Option Tmp} {t S T : TypeId} {p : String} {af : Array Edge} {gd : Option (Nat × Bool)} {w : World} {x : Operand} (hs : P.underlying S = some (.int .i64)) (hd : P.underlying T = some (.int .u64)) {z : Int} (h1 : ev x = .int .i64 z) :
    (execOp ev ⟨d, .convert S T x, t, p, af, gd⟩).run P w = .ok (.value (.int .u64 (u64N z : Int))) w := by
  rw [run_toU hs hd h1, u64N_eq]
theorem results_tmp4 {fn : Func} {t u v x : Tmp} (h : fn.results = #[.tmp t, .tmp u, .tmp v, .tmp x]) (tmps : Array Value) (P : Program) (w : World) :
    (results fn tmps).run P w = .ok (.tuple #[tmps.getD t undef, tmps.getD u undef, tmps.getD v undef, tmps.getD x undef]) w := by
  simp [results, h]
theorem run_rem3 {P : Program} {ev : Operand → Value} {d : Option Tmp} {t T U : TypeId} {p : String} {af : Array Edge} {gd : Option (Nat × Bool)} {w : World} {x y : Operand} {a : Nat} (h1 : ev x = .int .u64 (a : Int)) (h2 : ev y = .int .u64 3) : (execOp ev ⟨d, .binOp .rem T x y U, t, p, af, gd⟩).run P w = .ok (.value (.int .u64 ((a % 3 : Nat) : Int))) w := by
  rw [run_remU (m := 3) (by omega) h1 h2, rem_nat]
theorem run_one {ev : Operand → Value} {d : Option Tmp} {t : TypeId} {p : String} {af : Array Edge} {gd : Option (Nat × Bool)} {w : World} {x : Operand} {a : Nat} (ha : a < 256) (h1 : ev x = .int .u8 (a : Int)) :
    (execOp ev ⟨d, .build 43 #[(0, x)], t, p, af, gd⟩).run Tryd.prog w = .ok (.value (.agg (u8s (oneN a).1).toArray)) w := by
  have : (execOp ev ⟨d, .build 43 #[(0, x)], t, p, af, gd⟩).run Tryd.prog w = .ok (.value (.agg (Value.int .u8 (a : Int) :: List.replicate 31 (.int .u8 0)).toArray)) w := by
    simp only [execOp, List.map_toArray, List.map_cons, List.map_nil, h1]
    kernel_rfl
  rw [this, oneN_val ha]
/-- Both trees and the document's. -/
structure FourIs (B : Nat) (w : World) (g b g' b' p p' n : Nat) (R S : Rw) : Prop where
  ta : TreeIs w g b n R
  tb : TreeIs w g' b' n S
  ra : RT B w p R
  rb : RT B w p' S
  fa : R.length ≤ n
  fb : S.length ≤ n
  na : NoZ R
  nb : NoZ S
structure Apart4 (B g b g' b' p p' : Nat) : Prop where
  hg : B ≤ g
  hb : B ≤ b
  hg' : B ≤ g'
  hb' : B ≤ b'
  gg : g ≠ g'
  bb : b ≠ b'
  pp : p ≠ p'
def fourT (g b g' b' p p' : Nat) : Nat → Obj → Bool := fun k o => treeT g b k o || treeT g' b' k o || rtT p k o || rtT p' k o
theorem fourT_1 {g b g' b' p p' : Nat} : ∀ k o, treeT g b k o = true → fourT g b g' b' p p' k o = true := fun k o h => by simp [fourT, h]
theorem fourT_2 {g b g' b' p p' : Nat} : ∀ k o, treeT g' b' k o = true → fourT g b g' b' p p' k o = true := fun k o h => by simp [fourT, h]
theorem fourT_3 {g b g' b' p p' : Nat} : ∀ k o, rtT p k o = true → fourT g b g' b' p p' k o = true := fun k o h => by simp [fourT, h]
theorem fourT_4 {g b g' b' p p' : Nat} : ∀ k o, rtT p' k o = true → fourT g b g' b' p p' k o = true := fun k o h => by simp [fourT, h]
theorem TreeIs.ref {w w' : World} {g b n p C : Nat} {R : Rw} (h : TreeIs w g b n R) (hT : Tn (rtT p) C w w') : TreeIs w' g b n R := h.tn hT (fun _ _ => rfl) (fun C f => by simp [rtT])
theorem RT.tree {B C : Nat} {w w' : World} {g b p : Nat} {R : Rw} (h : RT B w p R) (hT : Tn (treeT g b) C w w') : RT B w' p R := h.tn hT (fun _ _ => treeT_cells rfl) (fun _ _ _ => treeT_cells rfl)
theorem RT.ref {B C : Nat} {w w' : World} {p p' : Nat} {R : Rw} (h : RT B w p R) (hT : Tn (rtT p') C w w') (hp : p ≠ p') : RT B w' p R := h.tn hT (fun _ _ => by simp [rtT, hp]) (fun _ _ _ => by simp [rtT])
/-- The loop. -/
def TrsR (B g b g' b' p p' m : Nat) (w0 : World) (k : Value) (w : World) : Prop := ∃ (i : Nat) (R S : Rw), i ≤ m ∧ k = .int .i64 (i : Int) ∧ FourIs B w g b g' b' p p' i R S ∧ Tn (fourT g b g' b' p p') B w0 w
theorem TrsR.out {B g b g' b' p p' m : Nat} {w0 : World} {k : Value} {w : World} (h : TrsR B g b g' b' p p' m w0 k w) : ∃ (i : Nat) (R S : Rw), i ≤ m ∧ k = .int .i64 (i : Int) ∧ FourIs B w g b g' b' p p' i R S ∧ Tn (fourT g b g' b' p p') B w0 w := h
set_option maxRecDepth 100000 in
set_option maxHeartbeats 8000000 in
theorem trees_any {w : World} {A : Option Addr} {n c : Nat} {f : Nat → RowM} (hA : Rows3 w A n f) (gw : Glob w) :
    Calls Tryd.prog 6 #[.slice A n c] w fun e w' => ∃ g b g' b' p p' m R S, e = .returned (.tuple #[.pointer (some ⟨g, 0, none⟩), .pointer (some ⟨g', 0, none⟩), .pointer (some ⟨p, 0, none⟩), .pointer (some ⟨p', 0, none⟩)]) ∧ m ≤ 20 ∧ FourIs w.heap.size w' g b g' b' p p' m R S ∧ Apart4 w.heap.size g b g' b' p p' ∧ Gr w w' := by
  have gl := Glob.lowG gw
  have HA := Lib.hid hA
  obtain ⟨m, hm⟩ : ∃ m : Nat, m = min n 20 := ⟨_, rfl⟩
  have hmn : m ≤ n := by omega
  have hm20 : m ≤ 20 := by omega
  have HMM : Hid (m = min n 20) := Lib.hid hm
  obtain ⟨B, hBe⟩ : ∃ B, B = w.heap.size := ⟨_, rfl⟩
  have hBw : Hid (B = w.heap.size) := Lib.hid hBe
  rw [← hBe] at gl ⊢
  clear hm hA
  have mk : True := trivial
  go_enter Tryd.func6, Tryd.ntmps6
  go_upto_region 2 with first
    | (clear mk; go_at_call 21; refine (new_is _).mono ?_; rintro e w1 ⟨g, b, rfl, hT1, hg, hb, hG1⟩)
    | (go_at_call 21; refine (new_is _).mono ?_; rintro e w2 ⟨g', b', rfl, hT2, hg2, hb2, hG2⟩)
  have hB2 : B ≤ w2.heap.size := by rw [hBe]; exact (hG1.trans hG2).size
  go_upto_block 0 with fail
  have hgg : g ≠ g' := by have := hT1.lt.1; omega
  have hbb : b ≠ b' := by have := hT1.lt.2; omega
  obtain ⟨p, hp⟩ : ∃ p, p = w2.heap.size := ⟨_, rfl⟩
  obtain ⟨p', hp'⟩ : ∃ p', p' = w2.heap.size + 1 := ⟨_, rfl⟩
  have hA1 : Arr ((w2.alloc (.cells #[.slice none 0 0] 57)).alloc (.cells #[.slice none 0 0] 57)) p 57 [.slice none 0 0] := by rw [hp]; exact Arr.alloc (Arr.newAt rfl rfl) _
  have hA2 : Arr ((w2.alloc (.cells #[.slice none 0 0] 57)).alloc (.cells #[.slice none 0 0] 57)) p' 57 [.slice none 0 0] := by rw [hp']; exact Arr.newAt (by simp only [asz]) rfl
  have hG3 : Gr w2 ((w2.alloc (.cells #[.slice none 0 0] 57)).alloc (.cells #[.slice none 0 0] 57)) := (Gr.alloc _ _).trans (Gr.alloc _ _)
  try change Code.wp _ _ _ _ ((w2.alloc (.cells #[.slice none 0 0] 57)).alloc (.cells #[.slice none 0 0] 57))
  rw [← hp', ← hp]
  generalize (w2.alloc (.cells #[.slice none 0 0] 57)).alloc (.cells #[.slice none 0 0] 57) = w3 at hA1 hA2 hG3 ⊢
  have hpp : p ≠ p' := by omega
  have hB1 : B ≤ w1.heap.size := by rw [hBe]; exact hG1.size
  have h4 : FourIs B w3 g b g' b' p p' 0 [] [] := ⟨hT1.gr (hG2.trans hG3), hT2.gr hG3, ⟨by omega, none, 0, hA1, ⟨rfl, .inl ⟨rfl, rfl⟩⟩⟩, ⟨by omega, none, 0, hA2, ⟨rfl, .inl ⟨rfl, rfl⟩⟩⟩, Nat.le_refl _, Nat.le_refl _, NoZ.nil, NoZ.nil⟩
  have H4 : Hid (Apart4 B g b g' b' p p') := Lib.hid ⟨by omega, by omega, by omega, by omega, hgg, hbb, hpp⟩
  have hG13 := hG1.trans (hG2.trans hG3)
  have hw3 : Below B w w3 := by rw [hBe]; exact hG13
  have hB3 : B ≤ w3.heap.size := by rw [hBe]; exact hG13.size
  clear hT1 hT2 hg hb hg2 hb2 hG1 hG2 hG3 hG13 hgg hbb hpp hp hp' hA1 hA2 hB1 hB2 hBe
  go_cut [] from 10 to 82 (fun wx => ∃ R S, FourIs B wx g b g' b' p p' m R S ∧ Tn (fourT g b g' b' p p') B w3 wx)
  case first =>
    go_upto_region 4 with fail
    go_loopw [10] (fun k wr => TrsR B g b g' b' p p' m w3 k wr) (fun k _ => m - (intOf k).toNat)
    case atStart => exact ⟨0, [], [], by omega, rfl, h4, Tn.refl _⟩
    case round =>
      obtain ⟨i, R, S, hi, rfl, hTr, hTnr⟩ := TrsR.out hrel
      clear hrel
      have hBr : B ≤ wr.heap.size := Nat.le_trans hB3 hTnr.size
      have hwr : Below B w wr := Below.trans hw3 (hTnr.below hB3)
      have gwr : Glob wr := gw.keep hwr gl
      have HTr := Lib.hid hTr
      have HTnr := Lib.hid hTnr
      clear hTr hTnr
      by_cases hlt : i < m
      · have hin : i < n := by omega
        have hAr := rows3_far HA.out hBw.out hwr
        obtain ⟨bA, oA, hAe, rgA⟩ := hAr i hin
        subst hAe
        have c1 : (i : Int) < (n : Int) := by omega
        have c2 : (i : Int) < 20 := by omega
        have k0 : wr.cell? ⟨bA, oA + i * 3, none⟩ = some (.int .i64 (f i).key) := rgA 0 _ rfl
        have k1 : wr.cell? ⟨bA, oA + i * 3 + 1, none⟩ = some (.int .i64 (f i).a) := rgA 1 _ rfl
        have k2 : wr.cell? ⟨bA, oA + i * 3 + 2, none⟩ = some (.int .i64 (f i).b) := rgA 2 _ rfl
        obtain ⟨u, hu⟩ : ∃ u, u = u64N (f i).key % 40 := ⟨_, rfl⟩
        have hu40 : u < 40 := by omega
        have hv : (IntKind.u64.wrap (f i).key).tmod 40 = (u : Int) := by rw [u64N_eq, show (40 : Int) = ((40 : Nat) : Int) from rfl, rem_nat, ← hu]
        have hnm : (f i).nm = twoN (u / 2 * 13) u := by rw [hu]; rfl
        have hkv := twoN_val (m := u / 2 * 13) (n := u) (by omega) (by omega)
        rw [show ((u / 2 * 13 : Nat) : Int) = (u : Int) / 2 * 13 by omega, ← hnm] at hkv
        have HKV : Hid (Value.agg (Value.int .u8 ((u : Int) / 2 * 13) :: Value.int .u8 (u : Int) :: List.replicate 30 (.int .u8 0)).toArray = .agg (u8s (f i).nm.1).toArray) := Lib.hid (by rw [hkv])
        have hnl := (f i).nm.2
        have hi9 : i ≤ 9000 := by omega
        have hi1 : i ≤ 1000 := by omega
        clear hu hnm hkv
        go_upto_region 8 with (refine wpList_new (w := wr) (t := 51) rfl _ _ _ rfl wr.heap.size (u8s (f i).nm.1) rfl HKV.out rfl (by rw [u8s_length, hnl]; kernel_rfl) (infoN (f i).nm) (u8s_oneCell _) ?_; intro w5 hA5 hG5)
        have hdl := (f i).da.2
        have hel := (f i).db.2
        have HK1 : Hid (∀ w', Below w5.heap.size w5.drew w' → w'.cell? ⟨bA, oA + i * 3 + 1, none⟩ = some (.int .i64 (f i).a)) := Lib.hid (fun w' hb => (World.cell?_of_block (hb.block _ (lt_of_cell (Gr.cell hG5 k1)))).trans (Gr.cell (Gr.drew w5) (Gr.cell hG5 k1)))
        have HK2 : Hid (∀ w', Below w5.heap.size w5.drew w' → w'.cell? ⟨bA, oA + i * 3 + 2, none⟩ = some (.int .i64 (f i).b)) := Lib.hid (fun w' hb => (World.cell?_of_block (hb.block _ (lt_of_cell (Gr.cell hG5 k2)))).trans (Gr.cell (Gr.drew w5) (Gr.cell hG5 k2)))
        refine wp_region_ssaJL (TwoJ w5.heap.size 43 (u8s Z32) (u8s (f i).da.1) (u8s (f i).db.1) 13 14 18 19 20 21) (Below w5.heap.size) (fun _ _ _ => Below.trans) (by kernel_rfl) [IsV (.slice (some ⟨bA, oA, none⟩) n c), IsV (.int .i64 (i : Int)), IsV (.pointer (some ⟨bA, oA + i * 3, none⟩)), IsV (.pointer (some ⟨bA, oA + i * 3 + 1, none⟩)), IsV (.int .i64 (f i).a), IsV (.int .u64 (u64N (f i).a : Int)), IsV (.int .u64 ((u64N (f i).a % 3 : Nat) : Int)), IsV (.int .u8 ((u64N (f i).a % 3 : Nat) : Int)), IsV (.agg (u8s (f i).da.1).toArray), IsV (.slice (some ⟨bA, oA, none⟩) n c), IsV (.int .i64 (i : Int)), IsV (.pointer (some ⟨bA, oA + i * 3, none⟩)), IsV (.pointer (some ⟨bA, oA + i * 3 + 2, none⟩)), IsV (.int .i64 (f i).b), IsV (.int .u64 (u64N (f i).b : Int)), IsV (.int .u64 ((u64N (f i).b % 3 : Nat) : Int)), IsV (.int .u8 ((u64N (f i).b % 3 : Nat) : Int)), IsV (.agg (u8s (f i).db.1).toArray), AnyV, AnyV, AnyV, AnyV] (by kernel_rfl) (Below.refl _ _) ⟨Nat.le_refl _, fun h => by simp at h, fun h => by simp at h, fun h => by simp at h, fun h => by simp at h, fun h => by simp at h⟩ ?_ ?_ ?_
        · intro φ hφ v w1 w2 h hg
          simp only [List.mem_cons, List.not_mem_nil, or_false] at hφ
          rcases hφ with rfl | rfl | rfl | rfl | rfl | rfl | rfl | rfl | rfl | rfl | rfl | rfl | rfl | rfl | rfl | rfl | rfl | rfl | rfl | rfl | rfl | rfl <;> first | exact h | trivial
        · refine ⟨?_, ?_, ?_, ?_, ?_, ?_, ?_, ?_, ?_, ?_, ?_, ?_, ?_, ?_, ?_, ?_, ?_, ?_, ?_, ?_, ?_, ?_, trivial⟩
          · intro listed hls hun hcl a1 w1 hG hJ hF
            refine TwoJ.pure ?_ hJ (by rw [hls]; decide) (by decide) (by decide) (by decide) (by decide) (by decide) (by decide)
            exact s_old rfl (wants0 rfl) (.tmp 0) (.inr rfl) (.slice (some ⟨bA, oA, none⟩) n c) (hF.ol 0 (by kernel_rfl)) rfl
          · intro listed hls hun hcl a1 w1 hG hJ hF
            refine TwoJ.pure ?_ hJ (by rw [hls]; decide) (by decide) (by decide) (by decide) (by decide) (by decide) (by decide)
            exact s_old rfl (wants0 rfl) (.tmp 10) (.inr rfl) (.int .i64 (i : Int)) (hF.ol 10 (by kernel_rfl)) rfl
          · intro listed hls hun hcl a1 w1 hG hJ hF
            refine TwoJ.pure ?_ hJ (by rw [hls]; decide) (by decide) (by decide) (by decide) (by decide) (by decide) (by decide)
            obtain ⟨_, e1, rfl⟩ := hF.dp 0 45 (by kernel_rfl)
            obtain ⟨_, e2, rfl⟩ := hF.dp 1 46 (by kernel_rfl)
            exact s_is rfl (wants0 rfl) _ rfl (by simp only [execOp, e1, e2]; go_simp; try (intro h; omega))
          · intro listed hls hun hcl a1 w1 hG hJ hF
            refine TwoJ.pure ?_ hJ (by rw [hls]; decide) (by decide) (by decide) (by decide) (by decide) (by decide) (by decide)
            obtain ⟨_, e1, rfl⟩ := hF.dp 2 47 (by kernel_rfl)
            exact s_is rfl (wants0 rfl) _ rfl (by simp only [execOp, e1]; go_simp)
          · intro listed hls hun hcl a1 w1 hG hJ hF
            refine TwoJ.pure ?_ hJ (by rw [hls]; decide) (by decide) (by decide) (by decide) (by decide) (by decide) (by decide)
            obtain ⟨_, e1, rfl⟩ := hF.dp 3 48 (by kernel_rfl)
            have hc := HK1.out w1 hG
            exact s_is rfl (wants0 rfl) _ rfl (by simp only [execOp, e1]; go_simp)
          · intro listed hls hun hcl a1 w1 hG hJ hF
            refine TwoJ.pure ?_ hJ (by rw [hls]; decide) (by decide) (by decide) (by decide) (by decide) (by decide) (by decide)
            obtain ⟨_, e1, rfl⟩ := hF.dp 4 49 (by kernel_rfl)
            exact s_is rfl (wants0 rfl) _ rfl (run_toUN Tryd.underlying3 Tryd.underlying58 e1)
          · intro listed hls hun hcl a1 w1 hG hJ hF
            refine TwoJ.pure ?_ hJ (by rw [hls]; decide) (by decide) (by decide) (by decide) (by decide) (by decide) (by decide)
            obtain ⟨_, e1, rfl⟩ := hF.dp 5 50 (by kernel_rfl)
            exact s_is rfl (wants0 rfl) _ rfl (run_rem3 e1 rfl)
          · intro listed hls hun hcl a1 w1 hG hJ hF
            refine TwoJ.pure ?_ hJ (by rw [hls]; decide) (by decide) (by decide) (by decide) (by decide) (by decide) (by decide)
            obtain ⟨_, e1, rfl⟩ := hF.dp 6 51 (by kernel_rfl)
            exact s_is rfl (wants0 rfl) _ rfl (run_toU8 Tryd.underlying58 Tryd.underlying5 (by omega) e1)
          · intro listed hls hun hcl a1 w1 hG hJ hF
            refine TwoJ.pure ?_ hJ (by rw [hls]; decide) (by decide) (by decide) (by decide) (by decide) (by decide) (by decide)
            obtain ⟨_, e1, rfl⟩ := hF.dp 7 52 (by kernel_rfl)
            exact s_is rfl (wants0 rfl) _ rfl (run_one (by omega) e1)
          · intro listed hls hun hcl a1 w1 hG hJ hF
            refine TwoJ.pure ?_ hJ (by rw [hls]; decide) (by decide) (by decide) (by decide) (by decide) (by decide) (by decide)
            exact s_old rfl (wants0 rfl) (.tmp 0) (.inr rfl) (.slice (some ⟨bA, oA, none⟩) n c) (hF.ol 0 (by kernel_rfl)) rfl
          · intro listed hls hun hcl a1 w1 hG hJ hF
            refine TwoJ.pure ?_ hJ (by rw [hls]; decide) (by decide) (by decide) (by decide) (by decide) (by decide) (by decide)
            exact s_old rfl (wants0 rfl) (.tmp 10) (.inr rfl) (.int .i64 (i : Int)) (hF.ol 10 (by kernel_rfl)) rfl
          · intro listed hls hun hcl a1 w1 hG hJ hF
            refine TwoJ.pure ?_ hJ (by rw [hls]; decide) (by decide) (by decide) (by decide) (by decide) (by decide) (by decide)
            obtain ⟨_, e1, rfl⟩ := hF.dp 9 54 (by kernel_rfl)
            obtain ⟨_, e2, rfl⟩ := hF.dp 10 55 (by kernel_rfl)
            exact s_is rfl (wants0 rfl) _ rfl (by simp only [execOp, e1, e2]; go_simp; try (intro h; omega))
          · intro listed hls hun hcl a1 w1 hG hJ hF
            refine TwoJ.pure ?_ hJ (by rw [hls]; decide) (by decide) (by decide) (by decide) (by decide) (by decide) (by decide)
            obtain ⟨_, e1, rfl⟩ := hF.dp 11 56 (by kernel_rfl)
            exact s_is rfl (wants0 rfl) _ rfl (by simp only [execOp, e1]; go_simp)
          · intro listed hls hun hcl a1 w1 hG hJ hF
            refine TwoJ.pure ?_ hJ (by rw [hls]; decide) (by decide) (by decide) (by decide) (by decide) (by decide) (by decide)
            obtain ⟨_, e1, rfl⟩ := hF.dp 12 57 (by kernel_rfl)
            have hc := HK2.out w1 hG
            exact s_is rfl (wants0 rfl) _ rfl (by simp only [execOp, e1]; go_simp)
          · intro listed hls hun hcl a1 w1 hG hJ hF
            refine TwoJ.pure ?_ hJ (by rw [hls]; decide) (by decide) (by decide) (by decide) (by decide) (by decide) (by decide)
            obtain ⟨_, e1, rfl⟩ := hF.dp 13 58 (by kernel_rfl)
            exact s_is rfl (wants0 rfl) _ rfl (run_toUN Tryd.underlying3 Tryd.underlying58 e1)
          · intro listed hls hun hcl a1 w1 hG hJ hF
            refine TwoJ.pure ?_ hJ (by rw [hls]; decide) (by decide) (by decide) (by decide) (by decide) (by decide) (by decide)
            obtain ⟨_, e1, rfl⟩ := hF.dp 14 59 (by kernel_rfl)
            exact s_is rfl (wants0 rfl) _ rfl (run_rem3 e1 rfl)
          · intro listed hls hun hcl a1 w1 hG hJ hF
            refine TwoJ.pure ?_ hJ (by rw [hls]; decide) (by decide) (by decide) (by decide) (by decide) (by decide) (by decide)
            obtain ⟨_, e1, rfl⟩ := hF.dp 15 60 (by kernel_rfl)
            exact s_is rfl (wants0 rfl) _ rfl (run_toU8 Tryd.underlying58 Tryd.underlying5 (by omega) e1)
          · intro listed hls hun hcl a1 w1 hG hJ hF
            refine TwoJ.pure ?_ hJ (by rw [hls]; decide) (by decide) (by decide) (by decide) (by decide) (by decide) (by decide)
            obtain ⟨_, e1, rfl⟩ := hF.dp 16 61 (by kernel_rfl)
            exact s_is rfl (wants0 rfl) _ rfl (run_one (by omega) e1)
          · intro listed hls hun hcl a1 w1 hG hJ hF
            exact TwoJ.alloc rfl rfl rfl (alloc32_run _ _ _ rfl) rfl hJ (by rw [hls]; decide) hun (by decide) (by decide) (by decide) (by decide) (by rw [hF.size]; exact Nat.lt_of_lt_of_eq (by decide : 13 < 87) (by kernel_rfl)) rfl
          · intro listed hls hun hcl a1 w1 hG hJ hF
            exact wpOp_mono (fun a' w' ⟨v, h1, h2, h3, h4⟩ => ⟨v, h1, h2, h3, h4.swap⟩) (TwoJ.alloc rfl rfl rfl (alloc32_run _ _ _ rfl) rfl hJ.swap (by rw [hls]; decide) hun (by decide) (by decide) (by decide) (by decide) (by rw [hF.size]; exact Nat.lt_of_lt_of_eq (by decide : 14 < 87) (by kernel_rfl)) rfl)
          · intro listed hls hun hcl a1 w1 hG hJ hF
            have hal : listed.getD 18 false = true := hcl ⟨18, .data⟩ (by simp) rfl
            obtain ⟨gg, hg1, hN, hA⟩ := hJ.one hal
            have e1 : a1.eval (.tmp 13) = .pointer (some ⟨gg, 0, none⟩) := by simp [Act.eval, hg1]
            obtain ⟨_, e2, rfl⟩ := hF.dp 8 53 (by kernel_rfl)
            obtain ⟨hJ2, hA0, _⟩ := hJ.told (by rw [hls]; decide) hal hun (by decide) (by decide) (by decide) (by rw [u8s_length, u8s_length, hdl]; rfl) hg1 undef
            refine wpOp_of _ rfl rfl (wp_store_mid _ _ _ rfl gg 0 (u8s (f i).da.1).toArray e1 e2 (by have := hA0.there; simpa [u8s_length, hdl, Z32_length] using this) (by have := infoD _ hdl; simpa using this) (all_oneCell_toArray (u8s_oneCell _)) ?_)
            rw [List.toList_toArray]
            exact ⟨undef, rfl, trivial, below_setCells hN _ _ _, hJ2⟩
          · intro listed hls hun hcl a1 w1 hG hJ hF
            have hal : listed.getD 19 false = true := hcl ⟨19, .data⟩ (by simp) rfl
            obtain ⟨gg, hg1, hN, hA⟩ := hJ.swap.one hal
            have e1 : a1.eval (.tmp 14) = .pointer (some ⟨gg, 0, none⟩) := by simp [Act.eval, hg1]
            obtain ⟨_, e2, rfl⟩ := hF.dp 17 62 (by kernel_rfl)
            obtain ⟨hJ2, hA0, _⟩ := hJ.swap.told (by rw [hls]; decide) hal hun (by decide) (by decide) (by decide) (by rw [u8s_length, u8s_length, hel]; rfl) hg1 undef
            refine wpOp_of _ rfl rfl (wp_store_mid _ _ _ rfl gg 0 (u8s (f i).db.1).toArray e1 e2 (by have := hA0.there; simpa [u8s_length, hel, Z32_length] using this) (by have := infoD _ hel; simpa using this) (all_oneCell_toArray (u8s_oneCell _)) ?_)
            rw [List.toList_toArray]
            exact ⟨undef, rfl, trivial, below_setCells hN _ _ _, hJ2.swap⟩
        · intro vs wb hG hf hJ
          clear hf
          obtain ⟨g13, h13, hb13, hA13⟩ := hJ.one rfl
          obtain ⟨g14, h14, hb14, hA14⟩ := hJ.two rfl
          have hB13 : Arr wb g13 43 (u8s (f i).da.1) := hA13
          have hB14 : Arr wb g14 43 (u8s (f i).db.1) := hA14
          have hy13 : vs 18 = .pointer (some ⟨g13, 0, none⟩) := tmp_of h13 (by kernel_rfl)
          have hy14 : vs 19 = .pointer (some ⟨g14, 0, none⟩) := tmp_of h14 (by kernel_rfl)
          clear h13 h14 hA13 hA14 hJ HK1 HK2
          have hs5 := hG5.size
          have hB12 : Arr wb wr.heap.size 51 (u8s (f i).nm.1) := (hG.block _ hA5.lt).trans (hA5.gr (Gr.drew w5))
          have hGb : Gr wr wb := Below.trans (show Below wr.heap.size wr w5.drew from hG5.trans (Gr.drew w5)) (hG.mono hs5)
          simp only [putAll, Nat.zero_add, Nat.reduceAdd, hy13, hy14]
          have hSet := set_is (HTr.out.ta.gr hGb) (hi9) (f i).nm (f i).da H4.out.hg H4.out.hb (Nat.le_trans hBr hGb.size) (Glob.gr hGb gwr) gl
          have HSet := Lib.hid hSet
          have hBb : B ≤ wb.heap.size := Nat.le_trans hBr hGb.size
          have gwb : Glob wb := Glob.gr hGb gwr
          have HArm := Lib.hid (fun (wd : World) (hTnd : Tn (treeT g b) B wb wd) => set_is ((HTr.out.tb.gr hGb).other hTnd H4.out.gg.symm H4.out.bb.symm) hi9 (f i).nm (f i).db H4.out.hg' H4.out.hb' (Nat.le_trans hBb hTnd.size) (gwb.keep (hTnd.below hBb) gl) gl)
          clear hSet hy13 hy14 hb13 hb14 hG hA5 hG5 hs5
          go_simp
          go_upto_region 11 with first
            | (refine wpList_loadW rfl 51 (.tmp 12) rfl rfl hB12 ⟨_, _, Tryd.underlying51⟩ (infoN (f i).nm) ?_)
            | (refine wpList_loadW rfl 43 (.tmp 13) rfl rfl hB13 ⟨_, _, Tryd.underlying43⟩ (infoD (f i).da.1 hdl) ?_)
            | (refine wpList_loadW rfl 51 (.tmp 12) rfl rfl hC12 ⟨_, _, Tryd.underlying51⟩ (infoN (f i).nm) ?_)
            | (refine wpList_loadW rfl 43 (.tmp 14) rfl rfl hC14 ⟨_, _, Tryd.underlying43⟩ (infoD (f i).db.1 hel) ?_)
            | (go_at_call 18; refine HSet.out.mono ?_; rintro e wd ⟨rfl, hTd, hTnd⟩; have hC12 := hB12.tn hTnd (fun C f => treeT_cells rfl); have hC13 := hB13.tn hTnd (fun C f => treeT_cells rfl); have hC14 := hB14.tn hTnd (fun C f => treeT_cells rfl); have hBd : B ≤ wd.heap.size := Nat.le_trans hBb hTnd.size; have HSet2 := Lib.hid (HArm.out wd hTnd); have HTd := Lib.hid hTd; have HTnd := Lib.hid hTnd; clear hTd hTnd hB12 hB13 hB14 HSet)
            | (go_at_call 18; refine HSet2.out.mono ?_; rintro e wf ⟨rfl, hTf, hTnf⟩)
          have hD12 := hC12.tn hTnf (fun C f => treeT_cells rfl)
          have hD13 := hC13.tn hTnf (fun C f => treeT_cells rfl)
          have hD14 := hC14.tn hTnf (fun C f => treeT_cells rfl)
          have hBf : B ≤ wf.heap.size := Nat.le_trans hBd hTnf.size
          have HTa := Lib.hid (HTd.out.other hTnf H4.out.gg H4.out.bb)
          have HTb := Lib.hid hTf
          have HRa := Lib.hid (((HTr.out.ra.gr hGb).tree HTnd.out).tree hTnf)
          have HRb := Lib.hid (((HTr.out.rb.gr hGb).tree HTnd.out).tree hTnf)
          have hfa := HTr.out.fa
          have hfb := HTr.out.fb
          have HNA := Lib.hid HTr.out.na
          have HNB := Lib.hid HTr.out.nb
          have HTn4 := Lib.hid (((HTnr.out.trans (Tn.of_gr hGb)).trans (HTnd.out.wide fourT_1)).trans (hTnf.wide fourT_2))
          clear hTf hTnf hC12 hC13 hC14 HSet2 hGb hBb HTd HTnd HTnr HTr gwb hBd HArm
          refine wp_region_cut (by kernel_rfl) [IsV (.pointer (some ⟨p, 0, none⟩)), IsV (.slice (some ⟨wr.heap.size, 0, none⟩) 32 32), IsV (.string ⟨(f i).nm.1.toArray⟩), IsV (.slice (some ⟨g13, 0, none⟩) 32 32), IsV (.string ⟨(f i).da.1.toArray⟩)] 5 (by decide) (by kernel_rfl) (by kernel_rfl) (by kernel_rfl) ?_ ?_ ?_
          · intro φ hφ v w1 w2 h hg
            simp only [List.mem_cons, List.not_mem_nil, or_false] at hφ
            rcases hφ with rfl | rfl | rfl | rfl | rfl <;> exact h
          · refine ⟨?_, ?_, ?_, ?_, ?_, trivial⟩
            · intro a1 w1 hG hF
              exact s_old rfl (wants0 rfl) (.tmp 8) (.inr rfl) (.pointer (some ⟨p, 0, none⟩)) (hF.ol 8 (by kernel_rfl)) rfl
            · intro a1 w1 hG hF
              have e1 : a1.eval (.tmp 12) = .pointer (some ⟨wr.heap.size, 0, none⟩) := hF.ol 12 (by kernel_rfl)
              exact s_is rfl (wants0 rfl) _ rfl (by simp only [execOp, e1, Option.map, Sem.run_bind, run_cutAll (P := Tryd.prog) Tryd.underlying51 (by kernel_rfl), Result.andThen_ok, Sem.run_pure])
            · intro a1 w1 hG hF
              obtain ⟨_, e1, rfl⟩ := hF.dp 1 72 (by kernel_rfl)
              exact s_str rfl (wants0 rfl) 44 9 5 (.tmp 72) rfl Tryd.underlying44 Tryd.underlying5 Tryd.underlying9 _ _ _ (f i).nm.1 e1 ((hD12.gr ((Gr.drew wf).trans hG)).rdAll hnl) rfl
            · intro a1 w1 hG hF
              have e1 : a1.eval (.tmp 13) = .pointer (some ⟨g13, 0, none⟩) := hF.ol 13 (by kernel_rfl)
              exact s_is rfl (wants0 rfl) _ rfl (by simp only [execOp, e1, Option.map, Sem.run_bind, run_cutAll (P := Tryd.prog) Tryd.underlying43 (by kernel_rfl), Result.andThen_ok, Sem.run_pure])
            · intro a1 w1 hG hF
              obtain ⟨_, e1, rfl⟩ := hF.dp 3 74 (by kernel_rfl)
              exact s_str rfl (wants0 rfl) 44 9 5 (.tmp 74) rfl Tryd.underlying44 Tryd.underlying5 Tryd.underlying9 _ _ _ (f i).da.1 e1 ((hD13.gr ((Gr.drew wf).trans hG)).rdAll hdl) rfl
          · intro vs w1 hG hf
            have y0 : vs 0 = .pointer (some ⟨p, 0, none⟩) := hf.1
            have y2 : vs 2 = .string ⟨(f i).nm.1.toArray⟩ := hf.2.2.1
            have y4 : vs 4 = .string ⟨(f i).da.1.toArray⟩ := hf.2.2.2.2.1
            clear hf
            have hG1 := (Gr.drew wf).trans hG
            have HDoc := Lib.hid (doc_any (HRa.out.gr hG1) (Nat.le_trans hfa hi1) (f i).nm (f i).da (Nat.le_trans hBf hG1.size))
            simp only [List.take_succ_cons, List.take_zero, List.drop_succ_cons, List.drop_zero, putAll, Nat.zero_add, Nat.reduceAdd, y0, y2, y4]
            clear y0 y2 y4
            unfold wpList
            go_simp
            refine .inl (HDoc.out.mono ?_)
            rintro e we ⟨rfl, hRe, hTe⟩
            have hE12 := (hD12.gr hG1).tn hTe (fun C f => by simp [rtT])
            have hE14 := (hD14.gr hG1).tn hTe (fun C f => by simp [rtT])
            have hBe2 : B ≤ we.heap.size := Nat.le_trans hBf (Nat.le_trans hG1.size hTe.size)
            have HTa2 := Lib.hid ((HTa.out.gr hG1).ref hTe)
            have HTb2 := Lib.hid ((HTb.out.gr hG1).ref hTe)
            have HRa2 := Lib.hid hRe
            have HRb2 := Lib.hid ((HRb.out.gr hG1).ref hTe H4.out.pp.symm)
            have HTn5 := Lib.hid ((HTn4.out.trans (Tn.of_gr hG1)).trans (hTe.wide fourT_3))
            clear hRe hTe HDoc hG hG1 hD12 hD13 hD14 HTa HTb HRa HRb HTn4
            unfold wpList
            go_simp
            go_upto_region 12 with fail
            refine wp_region_cut (by kernel_rfl) [IsV (.pointer (some ⟨p', 0, none⟩)), IsV (.slice (some ⟨wr.heap.size, 0, none⟩) 32 32), IsV (.string ⟨(f i).nm.1.toArray⟩), IsV (.slice (some ⟨g14, 0, none⟩) 32 32), IsV (.string ⟨(f i).db.1.toArray⟩)] 5 (by decide) (by kernel_rfl) (by kernel_rfl) (by kernel_rfl) ?_ ?_ ?_
            · intro φ hφ v w1 w2 h hg
              simp only [List.mem_cons, List.not_mem_nil, or_false] at hφ
              rcases hφ with rfl | rfl | rfl | rfl | rfl <;> exact h
            · refine ⟨?_, ?_, ?_, ?_, ?_, trivial⟩
              · intro a1 w1 hG hF
                exact s_old rfl (wants0 rfl) (.tmp 9) (.inr rfl) (.pointer (some ⟨p', 0, none⟩)) (hF.ol 9 (by kernel_rfl)) rfl
              · intro a1 w1 hG hF
                have e1 : a1.eval (.tmp 12) = .pointer (some ⟨wr.heap.size, 0, none⟩) := hF.ol 12 (by kernel_rfl)
                exact s_is rfl (wants0 rfl) _ rfl (by simp only [execOp, e1, Option.map, Sem.run_bind, run_cutAll (P := Tryd.prog) Tryd.underlying51 (by kernel_rfl), Result.andThen_ok, Sem.run_pure])
              · intro a1 w1 hG hF
                obtain ⟨_, e1, rfl⟩ := hF.dp 1 78 (by kernel_rfl)
                exact s_str rfl (wants0 rfl) 44 9 5 (.tmp 78) rfl Tryd.underlying44 Tryd.underlying5 Tryd.underlying9 _ _ _ (f i).nm.1 e1 ((hE12.gr ((Gr.drew we).trans hG)).rdAll hnl) rfl
              · intro a1 w1 hG hF
                have e1 : a1.eval (.tmp 14) = .pointer (some ⟨g14, 0, none⟩) := hF.ol 14 (by kernel_rfl)
                exact s_is rfl (wants0 rfl) _ rfl (by simp only [execOp, e1, Option.map, Sem.run_bind, run_cutAll (P := Tryd.prog) Tryd.underlying43 (by kernel_rfl), Result.andThen_ok, Sem.run_pure])
              · intro a1 w1 hG hF
                obtain ⟨_, e1, rfl⟩ := hF.dp 3 80 (by kernel_rfl)
                exact s_str rfl (wants0 rfl) 44 9 5 (.tmp 80) rfl Tryd.underlying44 Tryd.underlying5 Tryd.underlying9 _ _ _ (f i).db.1 e1 ((hE14.gr ((Gr.drew we).trans hG)).rdAll hel) rfl
            · intro vs w1 hG hf
              have y0 : vs 0 = .pointer (some ⟨p', 0, none⟩) := hf.1
              have y2 : vs 2 = .string ⟨(f i).nm.1.toArray⟩ := hf.2.2.1
              have y4 : vs 4 = .string ⟨(f i).db.1.toArray⟩ := hf.2.2.2.2.1
              clear hf
              have hG1 := (Gr.drew we).trans hG
              have HDoc := Lib.hid (doc_any (HRb2.out.gr hG1) (Nat.le_trans hfb hi1) (f i).nm (f i).db (Nat.le_trans hBe2 hG1.size))
              simp only [List.take_succ_cons, List.take_zero, List.drop_succ_cons, List.drop_zero, putAll, Nat.zero_add, Nat.reduceAdd, y0, y2, y4]
              clear y0 y2 y4
              unfold wpList
              go_simp
              refine .inl (HDoc.out.mono ?_)
              rintro e wh ⟨rfl, hRe, hTe⟩
              have hR9 : TrsR B g b g' b' p p' m w3 (.int .i64 ((i : Int) + 1)) wh := ⟨i + 1, _, _, by omega, by simp, ⟨(HTa2.out.gr hG1).ref hTe, (HTb2.out.gr hG1).ref hTe, (HRa2.out.gr hG1).ref hTe H4.out.pp, hRe, Nat.le_trans (setR_length _ _ _) (by omega), Nat.le_trans (setR_length _ _ _) (by omega), HNA.out.set _ _, HNB.out.set _ _⟩, (HTn5.out.trans (Tn.of_gr hG1)).trans (hTe.wide fourT_4)⟩
              clear hRe hTe HDoc hG hG1 hE12 hE14 HTa2 HTb2 HRa2 HRb2 HTn5
              unfold wpList
              go_simp
              go_wp2_with fail
              exact ⟨hR9, by simp only [intOf]; omega⟩
      · obtain rfl : i = m := by omega
        by_cases hc : i < n
        · have c1 : (i : Int) < (n : Int) := by omega
          have c2 : ¬ (i : Int) < 20 := by have := HMM.out; omega
          go_wp2_with fail
          go_meet
          exact ⟨R, S, HTr.out, HTnr.out⟩
        · have c1 : ¬ (i : Int) < (n : Int) := by omega
          go_wp2_with fail
          go_meet
          exact ⟨R, S, HTr.out, HTnr.out⟩
  case rest =>
    obtain ⟨R, S, hTc, hTnc⟩ := hcut
    have hwc : Below B w wc := Below.trans hw3 (hTnc.below hB3)
    have HX : Hid (Below B w wc ∧ FourIs B wc g b g' b' p p' m R S) := Lib.hid ⟨hwc, hTc⟩
    clear hTc hTnc hwc
    go_wp2_with fail
    refine bodyPost_ret (results_tmp4 rfl _ _ _) rfl ?_
    refine ⟨g, b, g', b', p, p', m, R, S, rfl, hm20, ?_, ?_, ?_⟩
    · exact HX.out.2
    · exact H4.out
    · have := HX.out.1
      rw [hBw.out] at this
      exact this
end Go.Proofs.YthpgldfjcancjaaDoor
