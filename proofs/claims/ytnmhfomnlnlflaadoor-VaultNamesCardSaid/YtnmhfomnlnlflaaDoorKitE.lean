/- Small laws of this seat, laid as one text. No condition. -/
import Derived.Test.YtnmhfomnlnlflaaDoorKitB
import Derived.Test.YtnmhfomnlnlflaaDoorKitC
import Derived.Test.YtnmhfomnlnlflaaDoorKitD
import Derived.Test.YtnmhfomnlnlflaaDoorKitA
import Derived.Deep.Cut
import Derived.Lib.SlBytesConst
/- The vault in memory; the walks of its making and of its small parts. No condition. -/
namespace Go.Proofs.YtnmhfomnlnlflaaDoor
open Go.RowKit
open Go.Maps (Keyed)
def strV (l : List UInt8) : Value := .string ⟨l.toArray⟩
def useV (c k : Nat) : Value := .agg #[.int .i64 (c : Int), .int .i64 (k : Int)]
def sealV (e c k : Nat) (wi out : List UInt8) : Value := .agg #[.int .i64 (c : Int), .int .i64 (k : Int), .int .i64 (e : Int), strV wi, strV out]
/-- The entries of the names: numbered from 1 on. -/
def nameE : Nat → List (List UInt8) → List (Value × Value)
  | _, [] => []
  | i, s :: r => (strV s, .int .i64 ((i + 1 : Nat) : Int)) :: nameE (i + 1) r
def useE (L : List Sealing) : List (Value × Value) := L.map fun s => (useV s.client s.counter, .bool true)
/-- The entries of the table. -/
def TabR (τ : Nat → Obj → Bool) (B : Nat) (w : World) : List Sealing → List (Value × Value) → Prop
  | [], [] => True
  | s :: L, p :: T => (p.1 = sealV s.epoch s.client s.counter s.wi s.out ∧ ∃ A c, p.2 = .slice A s.b.length c ∧ s.b.length ≤ c ∧ (A = none → c = 0) ∧ RdS τ B w A s.b.length (u8s s.b)) ∧ TabR τ B w L T
  | _, _ => False
theorem laidOutV : laidOutB Tryd.prog = true := by kernel_rfl
theorem keyedS : Keyed Tryd.prog 9 := Maps.string_keyed Tryd.underlying9
theorem keyedU : Keyed Tryd.prog 64 := Keyed.of_law (deep_law_laid laidOutV (m := 2) (by omega) (of_decide_eq_true (by kernel_rfl)) (by kernel_rfl) (by rw [Tryd.underlying64]))
theorem keyedT : Keyed Tryd.prog 67 := Keyed.of_law (deep_law_laid laidOutV (m := 3) (by omega) (of_decide_eq_true (by kernel_rfl)) (by kernel_rfl) (by rw [Tryd.underlying67]))
/-- The blocks of a vault's maps may turn, and no others. -/
def ownV (b1 b2 b3 : Nat) : Nat → Obj → Bool := fun k o => (k == b1 || k == b2 || k == b3) && (match o with | .map _ _ => true | _ => false)
/-- At g lies a vault; its maps are the blocks b1, b2, b3, none of them below B. -/
structure VIs (τ : Nat → Obj → Bool) (B : Nat) (w : World) (g b1 b2 b3 : Nat) (v : Vt) : Prop where
  arr : Arr w g 58 (Value.bool v.ideal :: (u8s v.key ++ [Value.map (some b1), Value.map (some b2), Value.map (some b3)]))
  len : v.key.length = 32
  lo : B ≤ b1
  lt1 : b1 < b2
  lt2 : b2 < b3
  names : MapIs Tryd.prog 9 w b1 (nameE 0 v.names)
  used : MapIs Tryd.prog 64 w b2 (useE v.L)
  table : ∃ T, MapIs Tryd.prog 67 w b3 T ∧ (v.ideal = true → TabR τ B w v.L T)
section
variable {τ σ : Nat → Obj → Bool} {B : Nat} {w w' : World} {g b1 b2 b3 : Nat} {v : Vt}
theorem TabR.tn : ∀ {L : List Sealing} {T : List (Value × Value)}, TabR τ B w L T → Tn τ B w w' → TabR τ B w' L T
  | [], [], _, _ => trivial
  | _ :: _, _ :: _, ⟨⟨h1, A, c, h2, h3, h4, h5⟩, h6⟩, hT => ⟨⟨h1, A, c, h2, h3, h4, h5.tn hT⟩, h6.tn hT⟩
  | [], _ :: _, h, _ => h.elim
  | _ :: _, [], h, _ => h.elim
/-- Another one's turning leaves the vault as it is. -/
theorem VIs.other (h : VIs τ B w g b1 b2 b3 v) (hT : Tn σ B w w') (hτ : Tn τ B w w') (hm : ∀ k es c, (k = b1 ∨ k = b2 ∨ k = b3) → σ k (.map es c) = false) (hg : ∀ C f, σ g (.cells C 58 f) = false) : VIs τ B w' g b1 b2 b3 v := by
  obtain ⟨T, h1, h2⟩ := h.table
  exact ⟨h.arr.tn hT hg, h.len, h.lo, h.lt1, h.lt2, h.names.tn hT fun es c => hm _ es c (.inl rfl), h.used.tn hT fun es c => hm _ es c (.inr (.inl rfl)), T, h1.tn hT fun es c => hm _ es c (.inr (.inr rfl)), fun hi => (h2 hi).tn hτ⟩
theorem VIs.gr (h : VIs τ B w g b1 b2 b3 v) (hG : Gr w w') : VIs τ B w' g b1 b2 b3 v :=
  h.other (σ := fun _ _ => false) (Tn.of_gr hG) (Tn.of_gr hG) (fun _ _ _ _ => rfl) (fun _ _ => rfl)
theorem VIs.cell0 (h : VIs τ B w g b1 b2 b3 v) : w.cell? ⟨g, 0, none⟩ = some (.bool v.ideal) := h.arr.cell rfl
theorem VIs.cellN (h : VIs τ B w g b1 b2 b3 v) {i : Nat} {x : Value} (hx : ([.map (some b1), .map (some b2), .map (some b3)] : List Value)[i]? = some x) : w.cell? ⟨g, 33 + i, none⟩ = some x := h.arr.cell (by
  rw [show 33 + i = (32 + i) + 1 by omega, List.getElem?_cons_succ, List.getElem?_append_right (by simp [h.len]), u8s_length, h.len, show 32 + i - 32 = i by omega]
  exact hx)
theorem VIs.range (h : VIs τ B w g b1 b2 b3 v) : w.rangeAt g 1 (u8s v.key) := fun j x hj => h.arr.cell (by
  rw [show 1 + j = j + 1 by omega, List.getElem?_cons_succ, List.getElem?_append_left (List.getElem?_eq_some_iff.1 hj).1]
  exact hj)
end
/-- At g lies a vault with this key, whatever its maps hold. -/
def VK (w : World) (g : Nat) (K : List UInt8) : Prop := K.length = 32 ∧ ∃ i x y z, Arr w g 58 (Value.bool i :: (u8s K ++ [Value.map x, Value.map y, Value.map z]))
theorem VIs.vk {τ : Nat → Obj → Bool} {B : Nat} {w : World} {g b1 b2 b3 : Nat} {v : Vt} (h : VIs τ B w g b1 b2 b3 v) : VK w g v.key := ⟨h.len, _, _, _, _, h.arr⟩
theorem VK.len {w : World} {g : Nat} {K : List UInt8} (h : VK w g K) : K.length = 32 := h.1
theorem VK.gr {w w' : World} {g : Nat} {K : List UInt8} (h : VK w g K) (hG : Gr w w') : VK w' g K := by
  obtain ⟨h1, i, x, y, z, h2⟩ := h
  exact ⟨h1, i, x, y, z, h2.gr hG⟩
theorem VK.range {w : World} {g : Nat} {K : List UInt8} (h : VK w g K) : w.rangeAt g 1 (u8s K) := fun j x hj => by
  obtain ⟨h1, i, x, y, z, h2⟩ := h
  refine h2.cell ?_
  rw [show 1 + j = j + 1 by omega, List.getElem?_cons_succ, List.getElem?_append_left (List.getElem?_eq_some_iff.1 hj).1]
  exact hj
/-- A vault's cells, built. -/
theorem built_vault (b : Bool) (K : List UInt8) (hK : K.length = 32) (x y z : Option Nat) : Tryd.prog.built 58 [(0, .bool b), (1, .agg (u8s K).toArray), (2, .map x), (3, .map y), (4, .map z)] = some (Value.bool b :: (u8s K ++ [Value.map x, Value.map y, Value.map z])).toArray := by
  obtain ⟨it, hit⟩ : ∃ it, Tryd.prog.info? 58 = some it := Option.isSome_iff_exists.1 (by kernel_rfl)
  obtain ⟨Z, hz⟩ : ∃ Z, (Tryd.prog.info? 58).bind (·.zero) = some Z := Option.isSome_iff_exists.1 (by kernel_rfl)
  have hs : ((Tryd.prog.info? 58).bind (·.zero)).map (·.cells.size) = some 36 := by kernel_rfl
  rw [hz] at hs
  have hs : Z.cells.size = 36 := by simpa using hs
  rw [hit] at hz
  have hz : it.zero = some Z := hz
  obtain ⟨fs, hu⟩ : ∃ fs, Tryd.prog.underlying 58 = some (.struct fs) := ⟨_, Tryd.underlying58⟩
  have hp : (match Tryd.prog.underlying 58 with | some (.struct fs) => fs.toList.mapM (fun f => (Tryd.prog.info? f.type).map fun i => (f.offset, i.size)) | _ => none) = some [(0, 1), (1, 32), (33, 1), (34, 1), (35, 1)] := by kernel_rfl
  rw [hu] at hp
  have hp : fs.toList.mapM (fun f => (Tryd.prog.info? f.type).map fun i => (f.offset, i.size)) = some [(0, 1), (1, 32), (33, 1), (34, 1), (35, 1)] := hp
  unfold Program.built
  rw [hit, hu]
  simp only [hz, hp]
  have hl : Z.cells.toList.length = 36 := by simpa using hs
  rw [fill_step _ _ 0 _ [.bool b] 0 (by rfl) rfl _ (by simp; omega)]
  have e1 : Z.cells.toList.take 0 ++ [Value.bool b] ++ Z.cells.toList.drop (0 + [Value.bool b].length) = Value.bool b :: Z.cells.toList.drop 1 := by simp
  rw [e1, fill_step _ _ 1 _ (u8s K) 1 (by simp [hK]) rfl _ (by simp [hK]; omega)]
  have e2 : ((Value.bool b :: Z.cells.toList.drop 1 : List Value).toArray.toList.take 1 ++ u8s K ++ (Value.bool b :: Z.cells.toList.drop 1 : List Value).toArray.toList.drop (1 + (u8s K).length)) = (Value.bool b :: u8s K) ++ Z.cells.toList.drop 33 := by
    simp [hK, Nat.add_comm 1 32]
  rw [e2]
  generalize hD : Z.cells.toList.drop 33 = D
  have hDl : D.length = 3 := by rw [← hD]; simp; omega
  have hB : (Value.bool b :: u8s K : List Value).length = 33 := by simp [hK]
  rw [show (Value.bool b :: (u8s K ++ [Value.map x, Value.map y, Value.map z])) = (Value.bool b :: u8s K) ++ [Value.map x, Value.map y, Value.map z] from rfl]
  generalize (Value.bool b :: u8s K : List Value) = C at hB ⊢
  match D, hDl with
  | [d0, d1, d2], _ =>
    rw [fill_step _ _ 2 _ [.map x] 33 (by rfl) rfl _ (by simp; omega)]
    have e3 : (C ++ [d0, d1, d2]).toArray.toList.take 33 ++ [Value.map x] ++ (C ++ [d0, d1, d2]).toArray.toList.drop (33 + [Value.map x].length) = (C ++ [Value.map x]) ++ [d1, d2] := by
      rw [List.take_append_of_le_length (by omega), List.take_of_length_le (by omega), List.drop_append, List.drop_of_length_le (by simp; omega)]
      simp [hB]
    rw [e3, fill_step _ _ 3 _ [.map y] 34 (by rfl) rfl _ (by simp; omega)]
    have e4 : ((C ++ [Value.map x]) ++ [d1, d2]).toArray.toList.take 34 ++ [Value.map y] ++ ((C ++ [Value.map x]) ++ [d1, d2]).toArray.toList.drop (34 + [Value.map y].length) = (C ++ [Value.map x, Value.map y]) ++ [d2] := by
      have h1 : (C ++ [Value.map x]).length = 34 := by simp [hB]
      rw [List.take_append_of_le_length (by omega), List.take_of_length_le (by omega), List.drop_append, List.drop_of_length_le (by simp [hB])]
      simp [hB]
    rw [e4, fill_step _ _ 4 _ [.map z] 35 (by rfl) rfl _ (by simp; omega)]
    have e5 : ((C ++ [Value.map x, Value.map y]) ++ [d2]).toArray.toList.take 35 ++ [Value.map z] ++ ((C ++ [Value.map x, Value.map y]) ++ [d2]).toArray.toList.drop (35 + [Value.map z].length) = C ++ [Value.map x, Value.map y, Value.map z] := by
      have h1 : (C ++ [Value.map x, Value.map y]).length = 35 := by simp [hB]
      rw [List.take_append_of_le_length (by omega), List.take_of_length_le (by omega), List.drop_append, List.drop_of_length_le (by simp [hB])]
      simp [hB]
    rw [e5]
    rfl
set_option maxRecDepth 100000 in
set_option maxHeartbeats 2000000 in
theorem none_any (w : World) : Calls Tryd.prog 19 #[] w fun e w' => e = .returned (.pointer none) ∧ w = w' := by
  go_enter Tryd.func19, Tryd.ntmps19
  go_wp2_with fail
  go_ret
  exact ⟨rfl, rfl⟩
end Go.Proofs.YtnmhfomnlnlflaaDoor
/- The walks of the vault's making, of its counts, of what may be sealed, and of its draws. No condition. -/
namespace Go.Proofs.YtnmhfomnlnlflaaDoor
open Go.RowKit
theorem run_buildV {ev : Operand → Value} {d : Option Tmp} {t : TypeId} {p : String} {af : Array Edge} {gd : Option (Nat × Bool)} {w : World} {x0 x1 x2 x3 x4 : Operand} {b : Bool} {K : List UInt8} (hK : K.length = 32) {x y z : Option Nat}
    (h0 : ev x0 = .bool b) (h1 : ev x1 = .agg (u8s K).toArray) (h2 : ev x2 = .map x) (h3 : ev x3 = .map y) (h4 : ev x4 = .map z) :
    (execOp ev ⟨d, .build 58 #[(0, x0), (1, x1), (2, x2), (3, x3), (4, x4)], t, p, af, gd⟩).run Tryd.prog w = .ok (.value (.agg (Value.bool b :: (u8s K ++ [Value.map x, Value.map y, Value.map z])).toArray)) w := by
  have h := run_build (P := Tryd.prog) w 58 #[(0, .bool b), (1, .agg (u8s K).toArray), (2, .map x), (3, .map y), (4, .map z)] _ (built_vault b K hK x y z)
  simp only [execOp, List.map_toArray, List.map_cons, List.map_nil, h0, h1, h2, h3, h4, Sem.run_bind, h, Result.andThen_ok, Sem.run_pure]
set_option maxRecDepth 100000 in
set_option maxHeartbeats 4000000 in
theorem make_any (i : Bool) (K : List UInt8) (hK : K.length = 32) (w : World) :
    Calls Tryd.prog 20 #[.bool i, .agg (u8s K).toArray] w fun e w' => ∃ g b1 b2 b3, e = .returned (.pointer (some ⟨g, 0, none⟩)) ∧ Gr w w' ∧ w.heap.size ≤ b1 ∧ b3 < w'.heap.size ∧ w.heap.size ≤ g ∧ ∀ τ B, B ≤ b1 → VIs τ B w' g b1 b2 b3 ⟨i, K, [], []⟩ := by
  have h3 : Arr (w.alloc (.cells (u8s K).toArray 22)) w.heap.size 22 (u8s K) := Arr.newAt rfl rfl
  have G0 : Gr w (w.alloc (.cells (u8s K).toArray 22)) := Gr.alloc _ _
  have hz0 : (w.alloc (.cells (u8s K).toArray 22)).heap.size = w.heap.size + 1 := asz _ _
  go_enter Tryd.func20, Tryd.ntmps20
  go_upto_region 1 with fail
  change Code.wp _ _ _ _ (w.alloc (.cells (u8s K).toArray 22))
  generalize w.alloc (.cells (u8s K).toArray 22) = w0 at h3 G0 hz0 ⊢
  have hmk := fun t w => run_makeMap (P := Tryd.prog) t w
  go_wp2_with first
    | (refine wpList_load_mid rfl 22 (.tmp 3) rfl w.heap.size 0 rfl (u8s K) _ h3.range Tryd.underlying22 rfl (infoU8_32 K hK) ?_)
    | (refine wpList_val rfl _ _ (run_buildV hK rfl rfl rfl rfl rfl) ?_)
  go_ret
  refine ⟨w.heap.size + 1 + 1 + 1 + 1, w.heap.size + 1, w.heap.size + 1 + 1, w.heap.size + 1 + 1 + 1, rfl, Gr.trans G0 ((((Gr.alloc _ _).trans (Gr.alloc _ _)).trans (Gr.alloc _ _)).trans (Gr.alloc _ _)), by omega, by simp only [asz, hz0]; omega, by omega, fun τ B hB => ⟨?_, hK, hB, by omega, by omega, ?_, ?_, [], ?_, fun _ => trivial⟩⟩
  · exact Arr.newAt (by simp only [asz, hz0]) rfl
  · exact MapIs.gr (MapIs.madeAt _ _ _ hz0) (((Gr.alloc _ _).trans (Gr.alloc _ _)).trans (Gr.alloc _ _))
  · exact MapIs.gr (MapIs.madeAt _ _ _ (by simp only [asz, hz0])) ((Gr.alloc _ _).trans (Gr.alloc _ _))
  · exact MapIs.gr (MapIs.madeAt _ _ _ (by simp only [asz, hz0])) (Gr.alloc _ _)
set_option maxRecDepth 100000 in
set_option maxHeartbeats 4000000 in
theorem real_any (K : List UInt8) (hK : K.length = 32) (w : World) :
    Calls Tryd.prog 18 #[.agg (u8s K).toArray] w fun e w' => ∃ g b1 b2 b3, e = .returned (.pointer (some ⟨g, 0, none⟩)) ∧ Gr w w' ∧ w.heap.size ≤ b1 ∧ b3 < w'.heap.size ∧ w.heap.size ≤ g ∧ ∀ τ B, B ≤ b1 → VIs τ B w' g b1 b2 b3 ⟨false, K, [], []⟩ := by
  have h3 : Arr (w.alloc (.cells (u8s K).toArray 22)) w.heap.size 22 (u8s K) := Arr.newAt rfl rfl
  have G0 : Gr w (w.alloc (.cells (u8s K).toArray 22)) := Gr.alloc _ _
  have HM := Lib.hid (make_any false K hK)
  go_enter Tryd.func18, Tryd.ntmps18
  go_upto_region 1 with fail
  change Code.wp _ _ _ _ (w.alloc (.cells (u8s K).toArray 22))
  generalize w.alloc (.cells (u8s K).toArray 22) = w0 at h3 G0 ⊢
  go_wp2_with first
    | (refine wpList_load_mid rfl 22 (.tmp 1) rfl w.heap.size 0 rfl (u8s K) _ h3.range Tryd.underlying22 rfl (infoU8_32 K hK) ?_)
  refine (HM.out w0).mono ?_
  rintro e w1 ⟨g, b1, b2, b3, rfl, hG, h1, h2, h4, hV⟩
  have hs := G0.size
  go_wp2_with fail
  go_ret
  exact ⟨g, b1, b2, b3, rfl, G0.trans hG, by omega, h2, by omega, hV⟩
set_option maxRecDepth 100000 in
set_option maxHeartbeats 4000000 in
theorem ideal_any (K : List UInt8) (hK : K.length = 32) (w : World) :
    Calls Tryd.prog 9 #[.agg (u8s K).toArray] w fun e w' => ∃ g b1 b2 b3, e = .returned (.pointer (some ⟨g, 0, none⟩)) ∧ Gr w w' ∧ w.heap.size ≤ b1 ∧ b3 < w'.heap.size ∧ w.heap.size ≤ g ∧ ∀ τ B, B ≤ b1 → VIs τ B w' g b1 b2 b3 ⟨true, K, [], []⟩ := by
  have h3 : Arr (w.alloc (.cells (u8s K).toArray 22)) w.heap.size 22 (u8s K) := Arr.newAt rfl rfl
  have G0 : Gr w (w.alloc (.cells (u8s K).toArray 22)) := Gr.alloc _ _
  have HM := Lib.hid (make_any true K hK)
  go_enter Tryd.func9, Tryd.ntmps9
  go_upto_region 1 with fail
  change Code.wp _ _ _ _ (w.alloc (.cells (u8s K).toArray 22))
  generalize w.alloc (.cells (u8s K).toArray 22) = w0 at h3 G0 ⊢
  go_wp2_with first
    | (refine wpList_load_mid rfl 22 (.tmp 1) rfl w.heap.size 0 rfl (u8s K) _ h3.range Tryd.underlying22 rfl (infoU8_32 K hK) ?_)
  refine (HM.out w0).mono ?_
  rintro e w1 ⟨g, b1, b2, b3, rfl, hG, h1, h2, h4, hV⟩
  have hs := G0.size
  go_wp2_with fail
  go_ret
  exact ⟨g, b1, b2, b3, rfl, G0.trans hG, by omega, h2, by omega, hV⟩
set_option maxRecDepth 100000 in
set_option maxHeartbeats 2000000 in
theorem count_any {τ : Nat → Obj → Bool} {B : Nat} {w : World} {g b1 b2 b3 : Nat} {v : Vt} (hV : VIs τ B w g b1 b2 b3 v) :
    Calls Tryd.prog 14 #[.pointer (some ⟨g, 0, none⟩)] w fun e w' => e = .returned (.int .i64 (v.L.length : Nat)) ∧ w = w' := by
  have c := hV.cellN (i := 1) rfl
  have hl := fun ty => run_len_mapIs (P := Tryd.prog) (ty := ty) hV.used Tryd.underlying55
  rw [show (useE v.L).length = v.L.length by simp [useE]] at hl
  go_enter Tryd.func14, Tryd.ntmps14
  go_wp2_with fail
  go_ret
  exact ⟨rfl, rfl⟩
set_option maxRecDepth 100000 in
set_option maxHeartbeats 2000000 in
theorem isIdeal_any {τ : Nat → Obj → Bool} {B : Nat} {w : World} {g b1 b2 b3 : Nat} {v : Vt} (hV : VIs τ B w g b1 b2 b3 v) :
    Calls Tryd.prog 17 #[.pointer (some ⟨g, 0, none⟩)] w fun e w' => e = .returned (.bool v.ideal) ∧ w = w' := by
  have c := hV.cell0
  generalize v.ideal = i at c ⊢
  go_enter Tryd.func17, Tryd.ntmps17
  go_wp2_with fail
  go_ret
  exact ⟨rfl, rfl⟩
set_option maxRecDepth 100000 in
set_option maxHeartbeats 2000000 in
theorem count_nil (w : World) : Calls Tryd.prog 14 #[.pointer none] w fun e w' => e = .returned (.int .i64 0) ∧ w = w' := by
  go_enter Tryd.func14, Tryd.ntmps14
  go_wp2_with fail
  go_ret
  exact ⟨rfl, rfl⟩
set_option maxRecDepth 100000 in
set_option maxHeartbeats 2000000 in
theorem isIdeal_nil (w : World) : Calls Tryd.prog 17 #[.pointer none] w fun e w' => e = .returned (.bool false) ∧ w = w' := by
  go_enter Tryd.func17, Tryd.ntmps17
  go_wp2_with fail
  go_ret
  exact ⟨rfl, rfl⟩
set_option maxRecDepth 100000 in
set_option maxHeartbeats 4000000 in
theorem right_yes (e c k : Int) (h : Right e c k) (w : World) : Calls Tryd.prog 23 #[.int .i64 e, .int .i64 c, .int .i64 k] w fun r w' => r = .returned (.int .i64 0) ∧ Gr w w' := by
  obtain ⟨h1, h2, h3, h4, h5, h6⟩ := h
  obtain ⟨X, hX⟩ : ∃ X, X = nonceL c.toNat k.toNat := ⟨_, rfl⟩
  have hXl : X.length = 12 := by rw [hX]; simp
  have HN : Hid (∀ w, Calls Tryd.prog 35 #[.int .i64 c, .int .i64 k] w fun e w' => e = .returned (.tuple #[.agg (u8s X).toArray, .int .i64 0]) ∧ Below w.heap.size w w') := by
    intro w
    have := nonce_any c.toNat k.toNat (by omega) (by omega) (by omega) (by omega) w
    rw [hX]
    rwa [Int.toNat_of_nonneg (by omega), Int.toNat_of_nonneg (by omega)] at this
  clear hX
  have g1 : ¬ e < 1 := by omega
  have g2 : ¬ 1048576 < e := by omega
  go_enter Tryd.func23, Tryd.ntmps23
  go_wp2_with fail
  refine (HN.out w).mono ?_
  rintro r w1 ⟨rfl, hB1⟩
  go_wp2_with (refine wpList_new rfl 68 (.tmp 7) (.tmp 13) rfl _ (u8s X) rfl rfl rfl (by simp only [u8s_length, hXl]; rfl) (info12 X hXl) (u8s_oneCell _) ?_; intro w2 h5 hG2)
  go_ret
  exact ⟨rfl, Gr.trans hB1 hG2⟩
set_option maxRecDepth 100000 in
set_option maxHeartbeats 4000000 in
theorem right_no (e c k : Int) (h : ¬ Right e c k) (w : World) : Calls Tryd.prog 23 #[.int .i64 e, .int .i64 c, .int .i64 k] w fun r w' => r = .returned (.int .i64 1) ∧ Gr w w' := by
  by_cases hn : 1 ≤ c ∧ c ≤ 16 ∧ 1 ≤ k ∧ k ≤ 4611686018427387904
  · have he : e < 1 ∨ 1048576 < e := by unfold Right at h; omega
    obtain ⟨h3, h4, h5, h6⟩ := hn
    obtain ⟨X, hX⟩ : ∃ X, X = nonceL c.toNat k.toNat := ⟨_, rfl⟩
    have hXl : X.length = 12 := by rw [hX]; simp
    have HN : Hid (∀ w, Calls Tryd.prog 35 #[.int .i64 c, .int .i64 k] w fun e w' => e = .returned (.tuple #[.agg (u8s X).toArray, .int .i64 0]) ∧ Below w.heap.size w w') := by
      intro w
      have := nonce_any c.toNat k.toNat (by omega) (by omega) (by omega) (by omega) w
      rw [hX]
      rwa [Int.toNat_of_nonneg (by omega), Int.toNat_of_nonneg (by omega)] at this
    clear hX
    by_cases g1 : e < 1
    · go_enter Tryd.func23, Tryd.ntmps23
      go_wp2_with fail
      refine (HN.out w).mono ?_
      rintro r w1 ⟨rfl, hB1⟩
      go_wp2_with (refine wpList_new rfl 68 (.tmp 7) (.tmp 13) rfl _ (u8s X) rfl rfl rfl (by simp only [u8s_length, hXl]; rfl) (info12 X hXl) (u8s_oneCell _) ?_; intro w2 h5 hG2)
      go_ret
      exact ⟨rfl, Gr.trans hB1 hG2⟩
    · have g2 : 1048576 < e := by omega
      go_enter Tryd.func23, Tryd.ntmps23
      go_wp2_with fail
      refine (HN.out w).mono ?_
      rintro r w1 ⟨rfl, hB1⟩
      go_wp2_with (refine wpList_new rfl 68 (.tmp 7) (.tmp 13) rfl _ (u8s X) rfl rfl rfl (by simp only [u8s_length, hXl]; rfl) (info12 X hXl) (u8s_oneCell _) ?_; intro w2 h5 hG2)
      go_ret
      exact ⟨rfl, Gr.trans hB1 hG2⟩
  · obtain ⟨X, hX⟩ : ∃ X : List UInt8, X = List.replicate 12 0 := ⟨_, rfl⟩
    have hXl : X.length = 12 := by rw [hX]; simp
    have HN : Hid (∀ w, Calls Tryd.prog 35 #[.int .i64 c, .int .i64 k] w fun e w' => e = .returned (.tuple #[.agg (u8s X).toArray, .int .i64 1]) ∧ Below w.heap.size w w') := by
      intro w
      rw [hX]
      exact nonce_no c k hn w
    clear hX hn h
    go_enter Tryd.func23, Tryd.ntmps23
    go_wp2_with fail
    refine (HN.out w).mono ?_
    rintro r w1 ⟨rfl, hB1⟩
    go_wp2_with (refine wpList_new rfl 68 (.tmp 7) (.tmp 13) rfl _ (u8s X) rfl rfl rfl (by simp only [u8s_length, hXl]; rfl) (info12 X hXl) (u8s_oneCell _) ?_; intro w2 h5 hG2)
    go_ret
    exact ⟨rfl, Gr.trans hB1 hG2⟩
theorem own_empty (w : World) : (w.alloc (.cells #[] 5)).ownsRow w.heap.size 5 1 (.slice (some ⟨w.heap.size, 0, none⟩) 0 0) 0 [] :=
  ⟨rfl, .inr ⟨w.heap.size, 0, #[], rfl, Nat.le_refl _, (Arr.newAt (l := []) rfl rfl), Nat.le_refl _, by unfold maxLen; omega, rfl, rfl⟩⟩
set_option maxRecDepth 100000 in
set_option maxHeartbeats 4000000 in
theorem bclone_any (A : Option Addr) (n c : Nat) (l : List UInt8) (hn : n ≤ 1000000) (w : World) (hr : Rd w A n (u8s l)) (hA : A = none → n = 0 ∧ c = 0) :
    Calls Tryd.prog 24 #[.slice A n c] w fun e w' => ∃ v, e = .returned v ∧ w'.ownsRow w.heap.size 5 1 v n (u8s l) ∧ Gr w w' := by
  obtain ⟨i0, hi0, hz0, hz1, hz2⟩ := info_parts Tryd.info5
  cases A with
  | none =>
    obtain ⟨rfl, rfl⟩ := hA rfl
    have hl : l = [] := by have := hr.1; simpa using this
    subst hl
    have he : ∀ w : World, (binOp .eql 27 (.slice none 0 0) (.slice none 0 0)).run Tryd.prog w = .ok (.bool true) w := fun _ => rfl
    go_enter Tryd.func24, Tryd.ntmps24
    go_wp2_with fail
    go_ret
    exact ⟨_, rfl, World.ownsRow_nil _ _ _ _, Gr.refl _⟩
  | some ad =>
    clear hA
    have he : ∀ w : World, (binOp .eql 27 (.slice (some ad) n c) (.slice none 0 0)).run Tryd.prog w = .ok (.bool false) w := fun _ => rfl
    go_enter Tryd.func24, Tryd.ntmps24
    go_wp2_with (at_builtin; go_must (refine wpList_app _ rfl (.tmp 5) (.tmp 6) 27 rfl w.heap.size 5 i0 (.int .u8 0) 1 Tryd.underlying27 hi0 hz0 hz1 hz2 rfl _ 0 _ rfl (own_empty w) (some ad) n c _ rfl (hr.alloc _) (u8s_oneCell _) (by omega) (by unfold maxLen; omega) (by simp) ?_))
    intro v1 w1 hA1
    have ho := hA1.own
    have hG : Gr w w1 := Below.trans (Gr.alloc w _) (hA1.below (own_empty w) (by simp))
    clear hA1
    go_simp
    go_wp2_with fail
    go_ret
    exact ⟨_, rfl, ho, hG⟩
set_option maxRecDepth 100000 in
set_option maxHeartbeats 4000000 in
/-- The law's copy of some bytes. -/
theorem cut_any (A : Option Addr) (n c : Nat) (l0 : List UInt8) (N k : Nat) (hk : k = min n N) (hN : N ≤ 1000000) (w : World) (hnc : n ≤ c) (hr : Rd w A n (u8s l0)) :
    Calls Tryd.prog 11 #[.slice A n c, .int .i64 (N : Int)] w fun e w' => ∃ v, e = .returned v ∧ w'.ownsRow w.heap.size 5 1 v k (u8s (l0.take k)) ∧ Gr w w' := by
  obtain ⟨i0, hi0, hz0, hz1, hz2⟩ := info_parts Tryd.info5
  have hki : min (n : Int) (N : Int) = (k : Int) := by omega
  have hrk : Rd w A k (u8s (l0.take k)) := by rw [← u8s_take]; exact hr.take (by omega)
  have hcut := fun w1 => run_cut_h (P := Tryd.prog) Tryd.underlying27 (by kernel_rfl) (A := A) (n := n) (c := c) (hi := k) (h := (k : Int)) rfl (by omega) w1
  generalize l0.take k = l at hrk ⊢
  have hk2 : k ≤ 1000000 := by omega
  clear hk hr
  go_enter Tryd.func11, Tryd.ntmps11
  go_wp2_with (at_builtin; go_must (refine wpList_app _ rfl (.tmp 5) (.tmp 11) 27 rfl w.heap.size 5 i0 (.int .u8 0) 1 Tryd.underlying27 hi0 hz0 hz1 hz2 rfl _ 0 _ rfl (own_empty w) A k c _ rfl (hrk.alloc _) (u8s_oneCell _) (by omega) (by unfold maxLen; omega) (by simp) ?_))
  intro v1 w1 hA1
  have ho := hA1.own
  have hG : Gr w w1 := Below.trans (Gr.alloc w _) (hA1.below (own_empty w) (by simp))
  clear hA1
  go_simp
  go_wp2_with fail
  go_ret
  exact ⟨_, rfl, ho, hG⟩
end Go.Proofs.YtnmhfomnlnlflaaDoor
/- The walk of the vault's draw. No condition. -/
namespace Go.Proofs.YtnmhfomnlnlflaaDoor
open Go.RowKit
set_option maxRecDepth 100000 in
set_option maxHeartbeats 4000000 in
theorem draw_any {w : World} {g : Nat} {K : List UInt8} (hV : VK w g K) (kind n size : Nat) (hk : kind ≤ 1000) (hn : n ≤ 1000000) (hs : 8 ≤ size) (hs2 : size ≤ 1000) :
    Calls Tryd.prog 22 #[.pointer (some ⟨g, 0, none⟩), .int .i64 (kind : Int), .int .i64 (n : Int), .int .i64 (size : Int)] w fun e w' => ∃ x, e = .returned x ∧ w'.ownsRow w.heap.size 5 1 x size (u8s (drawL K kind n size)) ∧ Gr w w' := by
  obtain ⟨i0, hi0, hz0, hz1, hz2⟩ := info_parts Tryd.info5
  have hKl := hV.len
  obtain ⟨O, hO⟩ : ∃ O, O = beL 8 n := ⟨_, rfl⟩
  have hOl : O.length = 8 := by rw [hO]; simp
  obtain ⟨N, hN⟩ : ∃ N, N = beL 4 kind ++ beL 8 n := ⟨_, rfl⟩
  have hNl : N.length = 12 := by rw [hN]; simp
  obtain ⟨X, hX⟩ : ∃ X, X = streamL K 0 N (List.replicate (size - 8) 0) := ⟨_, rfl⟩
  have hXl : X.length = size - 8 := by rw [hX, streamL_len]; simp
  have HD : Hid (u8s O ++ u8s X = u8s (drawL K kind n size)) := by
    show _ = _
    rw [hX, hO, hN, drawL, u8s_append]
  have HNN : Hid (u8s (beL 4 kind) ++ u8s O = u8s N) := by
    show _ = _
    rw [hN, hO, u8s_append]
  have HP4 : Hid (∀ w, Calls Tryd.prog 33 #[.int .u64 (kind : Int), .int .i64 4] w fun e w' => ∃ v, e = .returned v ∧ w'.ownsRow w.heap.size 5 1 v 4 (u8s (beL 4 kind)) ∧ Below w.heap.size w w') := fun w => putHigh_any kind (by omega) 4 w
  have HP8 : Hid (∀ w, Calls Tryd.prog 33 #[.int .u64 (n : Int), .int .i64 8] w fun e w' => ∃ v, e = .returned v ∧ w'.ownsRow w.heap.size 5 1 v 8 (u8s O) ∧ Below w.heap.size w w') := by
    intro w
    rw [hO]
    exact putHigh_any n (by omega) 8 w
  have HST : Hid (∀ w A c, size - 8 ≤ c → Rd w A (size - 8) (u8s (List.replicate (size - 8) 0)) → Calls Tryd.prog 34 #[.agg (u8s K).toArray, .int .u32 0, .agg (u8s N).toArray, .slice A (size - 8) c] w fun e w' => ∃ x, e = .returned x ∧ w'.ownsRow w.heap.size 5 1 x (size - 8) (u8s X) ∧ Below w.heap.size w w') := by
    intro w A c hc hr
    rw [hX]
    exact stream_any K hKl 0 N hNl A (size - 8) c _ (by omega) hc w hr
  clear hO hN hX
  have hk4 : (kind : Int) ≤ 1000 := by omega
  have hn8 : (n : Int) ≤ 1000000 := by omega
  go_enter Tryd.func22, Tryd.ntmps22
  go_wp2_with fail
  refine (HP8.out w).mono ?_
  rintro e w1 ⟨v9, rfl, ho9, hB1⟩
  go_wp2_with fail
  refine (HP4.out w1).mono ?_
  rintro e w2 ⟨v16, rfl, ho16, hB2⟩
  have ho92 := Gr.own hB2 ho9
  obtain ⟨A9, c9, rfl, hc9, _⟩ := own_form ho92
  have hr9 := Rd.of_own ho92
  go_wp2_with (at_builtin; go_must (refine wpList_app _ rfl (.tmp 16) (.tmp 17) 27 rfl w1.heap.size 5 i0 (.int .u8 0) 1 Tryd.underlying27 hi0 hz0 hz1 hz2 rfl v16 4 _ rfl ho16 A9 8 c9 _ rfl hr9 (u8s_oneCell _) (by omega) (by unfold maxLen; omega) hB2.size ?_))
  intro v18 w3 hA3
  have ho3 := hA3.own
  rw [HNN.out] at ho3
  have hB3 := hA3.below ho16 hB2.size
  have hB13 : Gr w1 w3 := Below.trans hB2 hB3
  obtain ⟨g18, c18, rfl, hc18, _, _, hrg⟩ := own_rangeK ho3 (by omega)
  have ha := fun w => run_arrAt (P := Tryd.prog) Tryd.underlying68 (A := some ⟨g18, 0, none⟩) (c := c18) (Nat.le_refl 12) w
  have ho93 := Gr.own hB13 ho9
  have hG3 : Gr w w3 := Gr.trans hB1 hB13
  clear hA3 ho16 ho9 hB1 hB2 hB3 hB13 ho92 hr9 ho3
  go_simp
  go_upto_region 3 with first
    | (refine wpList_load_mid rfl 68 (.tmp 19) rfl g18 0 rfl (u8s N) _ hrg Tryd.underlying68 rfl (info12 N hNl) ?_)
    | (refine wpList_new rfl 68 (.tmp 10) (.tmp 20) rfl _ (u8s N) rfl rfl rfl (by simp only [u8s_length, hNl]; rfl) (info12 N hNl) (u8s_oneCell _) ?_; intro w4 h10 hG4)
  generalize w3.heap.size = g10 at h10 ⊢
  have ho94 := Gr.own hG4 ho93
  have hr9 := Rd.of_own ho94
  have hG := hG3.trans hG4
  have hV4 := hV.gr hG
  have hG40 := hG
  clear hV ho93 hG3 hG4 ha hrg hG
  refine wp_region_cut (by kernel_rfl) [IsV (.slice A9 8 c9), IsV (.pointer (some ⟨g, 0, none⟩)), IsV (.pointer (some ⟨g, 0, none⟩)), IsV (.pointer (some ⟨g, 1, none⟩)), IsV (.agg (u8s (K)).toArray), IsV (.agg (u8s (N)).toArray), IsV (.int .i64 ((size : Nat) : Int)), IsV (.int .i64 ((size - 8 : Nat) : Int)), RdV (size - 8) (List.replicate (size - 8) 0), RdV (size - 8) (X)] 10 (by decide) (by kernel_rfl) (by kernel_rfl) (by kernel_rfl) ?_ ?_ ?_
  · intro φ hφ v w1 w2 h hg
    simp only [List.mem_cons, List.not_mem_nil, or_false] at hφ
    rcases hφ with rfl | rfl | rfl | rfl | rfl | rfl | rfl | rfl | rfl | rfl
    all_goals first | exact h | exact RdV.gr h hg
  · refine ⟨?_, ?_, ?_, ?_, ?_, ?_, ?_, ?_, ?_, ?_, trivial⟩
    · intro a1 w1 hG hF
      exact s_old rfl (wants0 rfl) (.tmp 9) (.inr rfl) (.slice A9 8 c9) (hF.ol 9 (by kernel_rfl)) rfl
    · intro a1 w1 hG hF
      exact s_old rfl (wants0 rfl) (.tmp 0) (.inr rfl) (.pointer (some ⟨g, 0, none⟩)) (hF.ol 0 (by kernel_rfl)) rfl
    · intro a1 w1 hG hF
      obtain ⟨_, e22, rfl⟩ := hF.dp 1 22 (by kernel_rfl)
      exact s_is rfl (wants0 rfl) _ rfl (run_nil e22)
    · intro a1 w1 hG hF
      obtain ⟨_, e23, rfl⟩ := hF.dp 2 23 (by kernel_rfl)
      exact s_is rfl (wants0 rfl) _ rfl (run_field (o := 1) (k := 31) Tryd.underlying58 rfl rfl (by kernel_rfl) e23)
    · intro a1 w1 hG hF
      obtain ⟨_, e24, rfl⟩ := hF.dp 3 24 (by kernel_rfl)
      exact s_is rfl (wants0 rfl) _ rfl (run_loadMid ⟨_, _, Tryd.underlying22⟩ (infoU8_32 _ hKl) e24 (((Gr.drew w4).trans hG).range hV4.range))
    · intro a1 w1 hG hF
      have e10 : a1.eval (.tmp 10) = .pointer (some ⟨g10, 0, none⟩) := hF.ol 10 (by kernel_rfl)
      exact s_is rfl (wants0 rfl) _ rfl (run_loadArr ⟨_, _, Tryd.underlying68⟩ (info12 N hNl) e10 (h10.gr ((Gr.drew w4).trans hG)))
    · intro a1 w1 hG hF
      exact s_old rfl (wants0 rfl) (.tmp 3) (.inr rfl) (.int .i64 ((size : Nat) : Int)) (hF.ol 3 (by kernel_rfl)) rfl
    · intro a1 w1 hG hF
      obtain ⟨_, e27, rfl⟩ := hF.dp 6 27 (by kernel_rfl)
      exact s_is rfl (wants0 rfl) _ rfl (run_subN (a := size) (b := 8) e27 rfl (by omega) (by omega))
    · intro a1 w1 hG hF
      obtain ⟨_, e28, rfl⟩ := hF.dp 7 28 (by kernel_rfl)
      exact s_make rfl (wants0 rfl) rfl Tryd.underlying27 hi0 hz0 hz1 hz2 (size - 8) (by omega) e28 e28 rfl
    · intro a1 w1 hG hF
      obtain ⟨_, e25, rfl⟩ := hF.dp 4 25 (by kernel_rfl)
      obtain ⟨_, e26, rfl⟩ := hF.dp 5 26 (by kernel_rfl)
      obtain ⟨_, e29, A29, c29, rfl, hc29, r29⟩ := hF.dp 8 29 (by kernel_rfl)
      exact s_call rfl (wants0 rfl) _ rfl _ _ (by simp only [execOp, resolve, invoke, List.map_toArray, List.map_cons, List.map_nil, e25, e26, e29]; go_simp) ((HST.out w1 A29 c29 hc29 r29).mono fun e w2 ⟨v, he, ho, hb⟩ => ⟨_, he, RdV.own ho, hb⟩)
  · intro vs w1 hG hf
    have z21 : vs 0 = .slice A9 8 c9 := hf.1
    obtain ⟨A30, c30, z30, hc30, r30⟩ : RdV (size - 8) (X) (vs 9) w1 := hf.2.2.2.2.2.2.2.2.2.1
    clear hf
    simp only [List.take_succ_cons, List.take_zero, List.drop_succ_cons, List.drop_zero, putAll, Nat.zero_add, Nat.reduceAdd, z21, z30]
    have hG5 := (Gr.drew _).trans hG
    have ho95 := Gr.own hG5 ho94
    have hG6 := hG40.trans hG5
    refine wpList_app w1 rfl (.tmp 21) (.tmp 30) 27 rfl w.heap.size 5 i0 (.int .u8 0) 1 Tryd.underlying27 hi0 hz0 hz1 hz2 rfl (.slice A9 8 c9) 8 _ (by kernel_rfl) ho95 A30 (size - 8) c30 _ (by kernel_rfl) r30 (u8s_oneCell _) (by omega) (by unfold maxLen; omega) hG6.size ?_
    intro v31 w7 hA7
    have ho7 := hA7.own
    rw [HD.out] at ho7
    have hG7 : Gr w w7 := Below.trans hG6 (hA7.below ho95 hG6.size)
    rw [show 8 + (size - 8) = size by omega] at ho7
    clear hA7
    unfold wpList
    go_simp
    refine .inl ?_
    go_wp2_with fail
    go_ret
    exact ⟨_, rfl, ho7, hG7⟩
end Go.Proofs.YtnmhfomnlnlflaaDoor
/- The walk of the vault's Blind. No condition. -/
namespace Go.Proofs.YtnmhfomnlnlflaaDoor
open Go.RowKit
theorem strV_inj {a b : List UInt8} (h : strV a = strV b) : a = b := by
  injection h with h
  injection h with h
  exact congrArg Array.toList h
theorem nameE_length : ∀ (l : List (List UInt8)) (i : Nat), (nameE i l).length = l.length
  | [], _ => rfl
  | _ :: l, i => by simp [nameE, nameE_length l]
theorem nameE_append (s : List UInt8) : ∀ (l : List (List UInt8)) (i : Nat), nameE i (l ++ [s]) = nameE i l ++ [(strV s, .int .i64 ((i + l.length + 1 : Nat) : Int))]
  | [], i => by simp [nameE]
  | _ :: l, i => by
    simp only [List.cons_append, nameE, nameE_append s l, List.length_cons]
    rw [show i + 1 + l.length + 1 = i + (l.length + 1) + 1 by omega]
theorem nameE_mem (nm : List UInt8) : ∀ (l : List (List UInt8)) (i : Nat), nm ∈ l → (strV nm, Value.int .i64 ((i + l.idxOf nm + 1 : Nat) : Int)) ∈ nameE i l
  | s :: l, i, h => by
    rw [nameE, List.mem_cons]
    by_cases e : s = nm
    · subst e
      left
      simp
    · right
      have hm : nm ∈ l := by
        rcases List.mem_cons.1 h with h | h
        · exact absurd h.symm e
        · exact h
      have := nameE_mem nm l (i + 1) hm
      rw [List.idxOf_cons, show (s == nm) = false by simpa using e, cond_false, show i + (l.idxOf nm + 1) + 1 = i + 1 + l.idxOf nm + 1 by omega]
      exact this
theorem nameE_no {nm : List UInt8} : ∀ (l : List (List UInt8)) (i : Nat), nm ∉ l → ∀ p ∈ nameE i l, p.1 ≠ strV nm
  | [], _, _, _, hp => by cases hp
  | s :: l, i, h, p, hp => by
    rw [nameE] at hp
    rcases List.mem_cons.1 hp with rfl | hp
    · exact fun e => h (by rw [strV_inj e]; simp)
    · exact nameE_no l (i + 1) (fun hm => h (by simp [hm])) p hp
theorem keyOf_str {l : List UInt8} (h : l.length ≤ 1000000) : keyOf Tryd.prog 9 (strV l) = some (.string l) := by
  have := WideMaps.keyOf_string_mk (P := Tryd.prog) Tryd.underlying9 (s := ⟨l.toArray⟩) (by show l.length ≤ maxLen; unfold maxLen; omega)
  simpa [strV] using this
theorem below0_set (w : World) (b : Nat) (o : Obj) : Below 0 w (ChangeMaps.setBlock w b o) := ⟨rfl, rfl, rfl, by simp [ChangeMaps.setBlock], fun k hk => absurd hk (by omega)⟩
/-- A map of one's own is all that turned. -/
theorem Tn.one {P : Program} {k : TypeId} {L L' : List (Value × Value)} {τ : Nat → Obj → Bool} {B : Nat} {w w' : World} {b : Nat} (h : MapIs P k w b L) (h' : MapIs P k w' b L') (h0 : Below 0 w w') (ho : ∀ i, i < w.heap.size → i ≠ b → w'.heap[i]? = w.heap[i]?) (hb : B ≤ b) (hm : ∀ es c, τ b (.map es c) = true) : Tn τ B w w' := by
  obtain ⟨es, c, hbk, _⟩ := h
  obtain ⟨es', c', hbk', _⟩ := h'
  refine ⟨h0.os, h0.tape, h0.output, h0.size, fun i hi hf => ho i hi (fun e => ?_), fun i hi => ?_⟩
  · subst e
    rcases hf with hf | hf
    · omega
    · rw [hbk] at hf; simp [Turns, hm] at hf
  · by_cases e : i = b
    · subst e; rw [hbk', hbk]; simp [Turns, hm]
    · rw [ho i hi e]
/-- A name is added. -/
theorem VIs.nameAdd {τ : Nat → Obj → Bool} {B : Nat} {w w' : World} {g b1 b2 b3 : Nat} {v : Vt} {nm : List UInt8} (h : VIs τ B w g b1 b2 b3 v) (h0 : Below 0 w w') (ho : ∀ i, i < w.heap.size → i ≠ b1 → w'.heap[i]? = w.heap[i]?) (hM : MapIs Tryd.prog 9 w' b1 (nameE 0 v.names ++ [(strV nm, .int .i64 ((v.names.length + 1 : Nat) : Int))])) (hτ : ∀ k o, ownV b1 b2 b3 k o = true → τ k o = true) :
    VIs τ B w' g b1 b2 b3 { v with names := v.names ++ [nm] } ∧ Tn (ownV b1 b2 b3) B w w' := by
  have hT : Tn (ownV b1 b2 b3) B w w' := Tn.one h.names hM h0 ho h.lo (fun es c => by simp [ownV])
  have h12 := h.lt1
  have h23 := h.lt2
  obtain ⟨T, h1, h2⟩ := h.table
  refine ⟨⟨h.arr.tn hT (fun C f => by simp [ownV]), h.len, h.lo, h12, h23, ?_, h.used.same (ho _ h.used.lt (by omega)), T, h1.same (ho _ h1.lt (by omega)), fun hi => (h2 hi).tn (hT.wide hτ)⟩, hT⟩
  rw [nameE_append, Nat.zero_add]
  exact hM
set_option maxRecDepth 100000 in
set_option maxHeartbeats 4000000 in
theorem vblind_nil (A : Option Addr) (n c : Nat) (w : World) :
    Calls Tryd.prog 12 #[.pointer none, .slice A n c] w fun e w' => e = .returned (.tuple #[.agg (u8s (List.replicate 32 0)).toArray, .int .i64 1]) ∧ Gr w w' := by
  have h4 : Arr (w.alloc (.cells (u8s (List.replicate 32 0)).toArray 31)) w.heap.size 31 (u8s (List.replicate 32 0)) := Arr.newAt rfl rfl
  have G0 : Gr w (w.alloc (.cells (u8s (List.replicate 32 0)).toArray 31)) := Gr.alloc _ _
  go_enter Tryd.func12, Tryd.ntmps12
  go_wp2_with (refine wpList_put h4 rfl 31 (.tmp 4) (.tmp 21) rfl (u8s (List.replicate 32 0)) rfl rfl rfl (infoBl _ rfl) (u8s_oneCell _) ?_; intro w4 h44 hB4 _)
  refine bodyPost_ret (results_cell_tmp rfl _ _ w.heap.size _ _ _ _ rfl h44 Tryd.underlying31 rfl (by kernel_rfl)) rfl ?_
  exact ⟨rfl, Below.trans G0 hB4⟩
set_option maxRecDepth 100000 in
set_option maxHeartbeats 4000000 in
theorem vblind_no (g : Nat) (A : Option Addr) (n c : Nat) (h : n < 1 ∨ 64 < n) (w : World) :
    Calls Tryd.prog 12 #[.pointer (some ⟨g, 0, none⟩), .slice A n c] w fun e w' => e = .returned (.tuple #[.agg (u8s (List.replicate 32 0)).toArray, .int .i64 1]) ∧ Gr w w' := by
  have h4 : Arr (w.alloc (.cells (u8s (List.replicate 32 0)).toArray 31)) w.heap.size 31 (u8s (List.replicate 32 0)) := Arr.newAt rfl rfl
  have G0 : Gr w (w.alloc (.cells (u8s (List.replicate 32 0)).toArray 31)) := Gr.alloc _ _
  by_cases h1 : n < 1
  · have g1 : (n : Int) < 1 := by omega
    go_enter Tryd.func12, Tryd.ntmps12
    go_wp2_with (refine wpList_put h4 rfl 31 (.tmp 4) (.tmp 21) rfl (u8s (List.replicate 32 0)) rfl rfl rfl (infoBl _ rfl) (u8s_oneCell _) ?_; intro w4 h44 hB4 _)
    refine bodyPost_ret (results_cell_tmp rfl _ _ w.heap.size _ _ _ _ rfl h44 Tryd.underlying31 rfl (by kernel_rfl)) rfl ?_
    exact ⟨rfl, Below.trans G0 hB4⟩
  · have g1 : ¬ (n : Int) < 1 := by omega
    have g2 : (64 : Int) < (n : Int) := by omega
    go_enter Tryd.func12, Tryd.ntmps12
    go_wp2_with (refine wpList_put h4 rfl 31 (.tmp 4) (.tmp 21) rfl (u8s (List.replicate 32 0)) rfl rfl rfl (infoBl _ rfl) (u8s_oneCell _) ?_; intro w4 h44 hB4 _)
    refine bodyPost_ret (results_cell_tmp rfl _ _ w.heap.size _ _ _ _ rfl h44 Tryd.underlying31 rfl (by kernel_rfl)) rfl ?_
    exact ⟨rfl, Below.trans G0 hB4⟩
set_option maxRecDepth 100000 in
set_option maxHeartbeats 8000000 in
theorem vblind_any {τ : Nat → Obj → Bool} {B : Nat} {w : World} {g b1 b2 b3 : Nat} {v : Vt} (hV : VIs τ B w g b1 b2 b3 v) (hτ : ∀ k o, ownV b1 b2 b3 k o = true → τ k o = true) (A : Option Addr) (n c : Nat) (nm : List UInt8) (hn1 : 1 ≤ n) (hn2 : n ≤ 64) (hnc : n ≤ c) (hr : Rd w A n (u8s nm)) (hnl : v.names.length ≤ 100000) (gw : Glob w) :
    Calls Tryd.prog 12 #[.pointer (some ⟨g, 0, none⟩), .slice A n c] w fun e w' => e = .returned (.tuple #[.agg (u8s (v.blind nm)).toArray, .int .i64 0]) ∧ VIs τ B w' g b1 b2 b3 (v.named nm) ∧ Tn (ownV b1 b2 b3) B w w' := by
  have hnml : nm.length = n := by simpa using hr.1
  have hKl := hV.len
  have h4 : Arr (w.alloc (.cells (u8s (List.replicate 32 0)).toArray 31)) w.heap.size 31 (u8s (List.replicate 32 0)) := Arr.newAt rfl rfl
  have G0 : Gr w (w.alloc (.cells (u8s (List.replicate 32 0)).toArray 31)) := Gr.alloc _ _
  have g1 : ¬ (n : Int) < 1 := by omega
  have g2 : ¬ (64 : Int) < (n : Int) := by omega
  obtain ⟨X, hX⟩ : ∃ X, X = v.blind nm := ⟨_, rfl⟩
  have hXl : X.length = 32 := by rw [hX, Vt.blind]; split <;> simp
  have HX := Lib.hid hX
  rw [← hX]
  clear hX
  go_enter Tryd.func12, Tryd.ntmps12
  go_upto_region 1 with fail
  change Code.wp _ _ _ _ (w.alloc (.cells (u8s (List.replicate 32 0)).toArray 31))
  generalize w.alloc (.cells (u8s (List.replicate 32 0)).toArray 31) = w0 at h4 G0 ⊢
  obtain ⟨g4, hg4⟩ : ∃ g, g = w.heap.size := ⟨_, rfl⟩
  rw [← hg4] at h4
  simp only [← hg4]
  have HG4 := Lib.hid hg4
  clear hg4
  have hV0 := hV.gr G0
  have gw0 := gw.gr G0
  have hr0 := G0.rd hr
  have c0 := hV0.cell0
  have c33 : w0.cell? ⟨g, 33, none⟩ = some (.map (some b1)) := hV0.cellN (i := 0) rfl
  cases hi : v.ideal with
  | false =>
    rw [hi] at c0
    have hX : X = blindL v.key nm := by rw [HX.out, Vt.blind, hi]; rfl
    have hnv : v.named nm = v := by simp [Vt.named, hi]
    have HB : Hid (∀ w, Rd w A n (u8s nm) → Glob w → Calls Tryd.prog 21 #[.agg (u8s v.key).toArray, .slice A n c] w fun r w' => r = .returned (.tuple #[.agg (u8s X).toArray, .int .i64 0]) ∧ Below w.heap.size w w') := by
      intro w h1 h2
      rw [hX]
      exact blind_any v.key nm hKl A n c hn1 hn2 hnc w h1 h2
    clear hX HX hi
    go_wp2_with first
      | (refine wpList_load_mid rfl 22 (.tmp 30) rfl g 1 rfl (u8s v.key) _ hV0.range Tryd.underlying22 rfl (infoU8_32 _ hKl) ?_)
    refine (HB.out w0 hr0 gw0).mono ?_
    rintro e w1 ⟨rfl, hB1⟩
    have h41 := h4.gr hB1
    have hG1 : Gr w w1 := Gr.trans G0 hB1
    clear h4 hB1
    go_wp2_with (refine wpList_put h41 rfl 31 (.tmp 4) (.tmp 34) rfl (u8s X) rfl rfl (by simp [hXl]) (infoBl X hXl) (u8s_oneCell _) ?_; intro w4 h44 hB4 _)
    refine bodyPost_ret (results_cell_tmp rfl _ _ g4 _ _ _ _ rfl h44 Tryd.underlying31 rfl (by have := infoBl X hXl; simpa using this)) rfl ?_
    rw [HG4.out] at hB4
    have hGW : Gr w w4 := Below.trans hG1 hB4
    rw [hnv]
    exact ⟨rfl, hV.gr hGW, Tn.of_gr hGW⟩
  | true =>
    rw [hi] at c0
    have hX : X = drawL v.key 0 (v.place nm) 32 := by rw [HX.out, Vt.blind, hi]; rfl
    have HHI := Lib.hid hi
    have hM := hV0.names
    have hkey := keyOf_str (l := nm) (by omega)
    go_upto_region 5 with fail
    by_cases hmem : nm ∈ v.names
    · have hnv : v.named nm = v := by simp [Vt.named, hmem]
      obtain ⟨pl, hpl⟩ : ∃ p, p = v.place nm := ⟨_, rfl⟩
      have hple : pl ≤ 100001 := by rw [hpl, Vt.place]; have := List.idxOf_lt_length_of_mem hmem; omega
      have hhit : (strV nm, Value.int .i64 ((pl : Nat) : Int)) ∈ nameE 0 v.names := by
        have := nameE_mem nm v.names 0 hmem
        rwa [Nat.zero_add, ← Vt.place, ← hpl] at this
      have HXp : Hid (X = drawL v.key 0 pl 32) := by show _ = _; rw [hpl]; exact hX
      clear hX HX hi hpl
      refine wp_region_ssaL (by kernel_rfl) [IsV (.pointer (some ⟨g, 0, none⟩)), IsV (.pointer (some ⟨g, 0, none⟩)), IsV (.pointer (some ⟨g, 33, none⟩)), IsV (.map (some b1)), IsV (.slice A n c), IsV (.string ⟨(nm).toArray⟩), IsV (.tuple #[.int .i64 ((pl : Nat) : Int), .bool true]), IsV (.tuple #[.int .i64 ((pl : Nat) : Int), .bool true]), IsV (.int .i64 ((pl : Nat) : Int)), IsV (.bool true), IsV (.int .i64 ((pl : Nat) : Int)), IsV (.bool true)] (by kernel_rfl) ?_ ?_ ?_
      · intro φ hφ v w1 w2 h hg
        simp only [List.mem_cons, List.not_mem_nil, or_false] at hφ
        rcases hφ with rfl | rfl | rfl | rfl | rfl | rfl | rfl | rfl | rfl | rfl | rfl | rfl
        all_goals first | exact h | exact RdV.gr h hg
      · refine ⟨?_, ?_, ?_, ?_, ?_, ?_, ?_, ?_, ?_, ?_, ?_, ?_, trivial⟩
        · intro a1 w1 hG hF
          exact s_old rfl (wants0 rfl) (.tmp 0) (.inr rfl) (.pointer (some ⟨g, 0, none⟩)) (hF.ol 0 (by kernel_rfl)) rfl
        · intro a1 w1 hG hF
          obtain ⟨_, e37, rfl⟩ := hF.dp 0 37 (by kernel_rfl)
          exact s_is rfl (wants0 rfl) _ rfl (run_nil e37)
        · intro a1 w1 hG hF
          obtain ⟨_, e38, rfl⟩ := hF.dp 1 38 (by kernel_rfl)
          exact s_is rfl (wants0 rfl) _ rfl (run_field (o := 33) (k := 0) Tryd.underlying58 rfl rfl (by kernel_rfl) e38)
        · intro a1 w1 hG hF
          obtain ⟨_, e39, rfl⟩ := hF.dp 2 39 (by kernel_rfl)
          exact s_is rfl (wants0 rfl) _ rfl (run_load1B (.inr (.inl ⟨_, _, Tryd.underlying54⟩)) e39 (Gr.cell ((Gr.drew w0).trans hG) c33))
        · intro a1 w1 hG hF
          exact s_old rfl (wants0 rfl) (.tmp 1) (.inr rfl) (.slice A n c) (hF.ol 1 (by kernel_rfl)) rfl
        · intro a1 w1 hG hF
          obtain ⟨_, e41, rfl⟩ := hF.dp 4 41 (by kernel_rfl)
          exact s_str rfl (wants0 rfl) 27 9 5 (.tmp 41) rfl Tryd.underlying27 Tryd.underlying5 Tryd.underlying9 _ _ _ (nm) e41 (((Gr.drew w0).trans hG).rd hr0) rfl
        · intro a1 w1 hG hF
          obtain ⟨_, e40, rfl⟩ := hF.dp 3 40 (by kernel_rfl)
          obtain ⟨_, e42, rfl⟩ := hF.dp 5 42 (by kernel_rfl)
          exact s_is rfl (wants0 rfl) _ rfl (run_hit (hM.gr ((Gr.drew w0).trans hG)) keyedS Tryd.underlying54 e40 e42 hhit true)
        · intro a1 w1 hG hF
          exact s_same rfl (wants0 rfl) (.tmp 43) (.inr rfl) (hF.dp 6 43 (by kernel_rfl))
        · intro a1 w1 hG hF
          obtain ⟨_, e36, rfl⟩ := hF.dp 7 36 (by kernel_rfl)
          exact s_is rfl (wants0 rfl) _ rfl (by simp only [execOp, e36]; go_simp)
        · intro a1 w1 hG hF
          obtain ⟨_, e36, rfl⟩ := hF.dp 7 36 (by kernel_rfl)
          exact s_is rfl (wants0 rfl) _ rfl (by simp only [execOp, e36]; go_simp)
        · intro a1 w1 hG hF
          exact s_same rfl (wants0 rfl) (.tmp 44) (.inl rfl) (hF.dp 8 44 (by kernel_rfl))
        · intro a1 w1 hG hF
          exact s_same rfl (wants0 rfl) (.tmp 45) (.inl rfl) (hF.dp 9 45 (by kernel_rfl))
      · intro vs w1 hG hf
        have z6 : vs 10 = .int .i64 ((pl : Nat) : Int) := hf.2.2.2.2.2.2.2.2.2.2.1
        have z7 : vs 11 = .bool true := hf.2.2.2.2.2.2.2.2.2.2.2.1
        clear hf
        simp only [putAll, Nat.zero_add, Nat.reduceAdd, z6, z7]
        have G1 := (Gr.drew _).trans hG
        have hG1 := G0.trans G1
        have h41 := h4.gr G1
        have hV1 := hV.gr hG1
        generalize w1 = w2 at hG1 h41 hV1 ⊢
        clear G1 hG h4 hV0 G0 c0 c33 hM hr0 gw0
        go_simp
        go_wp2_with fail
        refine (draw_any hV1.vk 0 pl 32 (by omega) (by omega) (by omega) (by omega)).mono ?_
        rintro e w3 ⟨x, rfl, ho3, hG3⟩
        rw [← HXp.out] at ho3
        obtain ⟨g18, c18, rfl, hc18, _, _, hrg⟩ := own_rangeK ho3 (by omega)
        have ha := fun w => run_arrAt (P := Tryd.prog) Tryd.underlying31 (A := some ⟨g18, 0, none⟩) (c := c18) (Nat.le_refl 32) w
        have h43 := h41.gr hG3
        go_wp2_with first
          | (refine wpList_load_mid rfl 31 (.tmp 64) rfl g18 0 rfl (u8s X) _ hrg Tryd.underlying31 rfl (infoBl X hXl) ?_)
          | (refine wpList_put h43 rfl 31 (.tmp 4) (.tmp 65) rfl (u8s X) rfl rfl (by simp [hXl]) (infoBl X hXl) (u8s_oneCell _) ?_; intro w4 h44 hB4 _)
        refine bodyPost_ret (results_cell_tmp rfl _ _ g4 _ _ _ _ rfl h44 Tryd.underlying31 rfl (by have := infoBl X hXl; simpa using this)) rfl ?_
        rw [HG4.out] at hB4
        have hGW : Gr w w4 := Below.trans (hG1.trans hG3) hB4
        rw [hnv]
        exact ⟨rfl, hV.gr hGW, Tn.of_gr hGW⟩
    · have hnv : v.named nm = { v with names := v.names ++ [nm] } := by simp [Vt.named, hmem, HHI.out]
      have hno := nameE_no v.names 0 hmem
      have hpl : v.place nm = v.names.length + 1 := by rw [Vt.place, List.idxOf_eq_length hmem]
      obtain ⟨pl, hple⟩ : ∃ p, p = v.names.length + 1 := ⟨_, rfl⟩
      have HXp : Hid (X = drawL v.key 0 pl 32) := by show _ = _; rw [hple, ← hpl]; exact hX
      have hz : ∀ w, (zeroValue 3).run Tryd.prog w = .ok (.int .i64 0) w := fun w => by kernel_rfl
      have hplb : pl ≤ 100001 := by omega
      have HPL := Lib.hid hple
      clear hX HX hi hpl hple
      refine wp_region_ssaL (by kernel_rfl) [IsV (.pointer (some ⟨g, 0, none⟩)), IsV (.pointer (some ⟨g, 0, none⟩)), IsV (.pointer (some ⟨g, 33, none⟩)), IsV (.map (some b1)), IsV (.slice A n c), IsV (.string ⟨(nm).toArray⟩), IsV (.tuple #[.int .i64 ((0 : Nat) : Int), .bool false]), IsV (.tuple #[.int .i64 ((0 : Nat) : Int), .bool false]), IsV (.int .i64 ((0 : Nat) : Int)), IsV (.bool false), IsV (.int .i64 ((0 : Nat) : Int)), IsV (.bool false)] (by kernel_rfl) ?_ ?_ ?_
      · intro φ hφ v w1 w2 h hg
        simp only [List.mem_cons, List.not_mem_nil, or_false] at hφ
        rcases hφ with rfl | rfl | rfl | rfl | rfl | rfl | rfl | rfl | rfl | rfl | rfl | rfl
        all_goals first | exact h | exact RdV.gr h hg
      · refine ⟨?_, ?_, ?_, ?_, ?_, ?_, ?_, ?_, ?_, ?_, ?_, ?_, trivial⟩
        · intro a1 w1 hG hF
          exact s_old rfl (wants0 rfl) (.tmp 0) (.inr rfl) (.pointer (some ⟨g, 0, none⟩)) (hF.ol 0 (by kernel_rfl)) rfl
        · intro a1 w1 hG hF
          obtain ⟨_, e37, rfl⟩ := hF.dp 0 37 (by kernel_rfl)
          exact s_is rfl (wants0 rfl) _ rfl (run_nil e37)
        · intro a1 w1 hG hF
          obtain ⟨_, e38, rfl⟩ := hF.dp 1 38 (by kernel_rfl)
          exact s_is rfl (wants0 rfl) _ rfl (run_field (o := 33) (k := 0) Tryd.underlying58 rfl rfl (by kernel_rfl) e38)
        · intro a1 w1 hG hF
          obtain ⟨_, e39, rfl⟩ := hF.dp 2 39 (by kernel_rfl)
          exact s_is rfl (wants0 rfl) _ rfl (run_load1B (.inr (.inl ⟨_, _, Tryd.underlying54⟩)) e39 (Gr.cell ((Gr.drew w0).trans hG) c33))
        · intro a1 w1 hG hF
          exact s_old rfl (wants0 rfl) (.tmp 1) (.inr rfl) (.slice A n c) (hF.ol 1 (by kernel_rfl)) rfl
        · intro a1 w1 hG hF
          obtain ⟨_, e41, rfl⟩ := hF.dp 4 41 (by kernel_rfl)
          exact s_str rfl (wants0 rfl) 27 9 5 (.tmp 41) rfl Tryd.underlying27 Tryd.underlying5 Tryd.underlying9 _ _ _ (nm) e41 (((Gr.drew w0).trans hG).rd hr0) rfl
        · intro a1 w1 hG hF
          obtain ⟨_, e40, rfl⟩ := hF.dp 3 40 (by kernel_rfl)
          obtain ⟨_, e42, rfl⟩ := hF.dp 5 42 (by kernel_rfl)
          exact s_is rfl (wants0 rfl) _ rfl (run_miss (hM.gr ((Gr.drew w0).trans hG)) keyedS Tryd.underlying54 e40 e42 hkey hno (hz _) true)
        · intro a1 w1 hG hF
          exact s_same rfl (wants0 rfl) (.tmp 43) (.inr rfl) (hF.dp 6 43 (by kernel_rfl))
        · intro a1 w1 hG hF
          obtain ⟨_, e36, rfl⟩ := hF.dp 7 36 (by kernel_rfl)
          exact s_is rfl (wants0 rfl) _ rfl (by simp only [execOp, e36]; go_simp)
        · intro a1 w1 hG hF
          obtain ⟨_, e36, rfl⟩ := hF.dp 7 36 (by kernel_rfl)
          exact s_is rfl (wants0 rfl) _ rfl (by simp only [execOp, e36]; go_simp)
        · intro a1 w1 hG hF
          exact s_same rfl (wants0 rfl) (.tmp 44) (.inl rfl) (hF.dp 8 44 (by kernel_rfl))
        · intro a1 w1 hG hF
          exact s_same rfl (wants0 rfl) (.tmp 45) (.inl rfl) (hF.dp 9 45 (by kernel_rfl))
      · intro vs w1 hG hf
        have z6 : vs 10 = .int .i64 ((0 : Nat) : Int) := hf.2.2.2.2.2.2.2.2.2.2.1
        have z7 : vs 11 = .bool false := hf.2.2.2.2.2.2.2.2.2.2.2.1
        clear hf
        simp only [putAll, Nat.zero_add, Nat.reduceAdd, z6, z7]
        have G1 := (Gr.drew _).trans hG
        have hG1 := G0.trans G1
        have h41 := h4.gr G1
        have hV1 := hV.gr hG1
        have hr1 := hG1.rd hr
        generalize w1 = w2 at hG1 h41 hV1 hr1 ⊢
        clear G1 hG h4 hV0 G0 c0 c33 hM hr0 gw0
        have c33 : w2.cell? ⟨g, 33, none⟩ = some (.map (some b1)) := hV1.cellN (i := 0) rfl
        have hM := hV1.names
        have hlen := fun ty => run_len_mapIs (P := Tryd.prog) (ty := ty) hM Tryd.underlying54
        rw [nameE_length] at hlen
        have HW : Hid ((v.names.length : Int) + 1 = (pl : Int)) := by show _ = _; rw [HPL.out]; omega
        go_simp
        go_upto_region 8 with fail
        simp only [HW.out]
        refine wp_region_cut (by kernel_rfl) [IsV (.pointer (some ⟨g, 0, none⟩)), IsV (.pointer (some ⟨g, 0, none⟩)), IsV (.pointer (some ⟨g, 33, none⟩)), IsV (.map (some b1)), IsV (.slice A n c), IsV (.string ⟨(nm).toArray⟩), IsV (.int .i64 ((pl : Nat) : Int))] 7 (by decide) (by kernel_rfl) (by kernel_rfl) (by kernel_rfl) ?_ ?_ ?_
        · intro φ hφ v w1 w2 h hg
          simp only [List.mem_cons, List.not_mem_nil, or_false] at hφ
          rcases hφ with rfl | rfl | rfl | rfl | rfl | rfl | rfl
          all_goals first | exact h | exact RdV.gr h hg
        · refine ⟨?_, ?_, ?_, ?_, ?_, ?_, ?_, trivial⟩
          · intro a1 w1 hG hF
            exact s_old rfl (wants0 rfl) (.tmp 0) (.inr rfl) (.pointer (some ⟨g, 0, none⟩)) (hF.ol 0 (by kernel_rfl)) rfl
          · intro a1 w1 hG hF
            obtain ⟨_, e54, rfl⟩ := hF.dp 0 54 (by kernel_rfl)
            exact s_is rfl (wants0 rfl) _ rfl (run_nil e54)
          · intro a1 w1 hG hF
            obtain ⟨_, e55, rfl⟩ := hF.dp 1 55 (by kernel_rfl)
            exact s_is rfl (wants0 rfl) _ rfl (run_field (o := 33) (k := 0) Tryd.underlying58 rfl rfl (by kernel_rfl) e55)
          · intro a1 w1 hG hF
            obtain ⟨_, e56, rfl⟩ := hF.dp 2 56 (by kernel_rfl)
            exact s_is rfl (wants0 rfl) _ rfl (run_load1B (.inr (.inl ⟨_, _, Tryd.underlying54⟩)) e56 (Gr.cell ((Gr.drew w2).trans hG) c33))
          · intro a1 w1 hG hF
            exact s_old rfl (wants0 rfl) (.tmp 1) (.inr rfl) (.slice A n c) (hF.ol 1 (by kernel_rfl)) rfl
          · intro a1 w1 hG hF
            obtain ⟨_, e58, rfl⟩ := hF.dp 4 58 (by kernel_rfl)
            exact s_str rfl (wants0 rfl) 27 9 5 (.tmp 58) rfl Tryd.underlying27 Tryd.underlying5 Tryd.underlying9 _ _ _ (nm) e58 (((Gr.drew w2).trans hG).rd hr1) rfl
          · intro a1 w1 hG hF
            exact s_old rfl (wants0 rfl) (.tmp 6) (.inr rfl) (.int .i64 ((pl : Nat) : Int)) (hF.ol 6 (by kernel_rfl)) rfl
        · intro vs w1 hG hf
          have z57 : vs 3 = .map (some b1) := hf.2.2.2.1
          have z59 : vs 5 = .string ⟨(nm).toArray⟩ := hf.2.2.2.2.2.1
          have z60 : vs 6 = .int .i64 ((pl : Nat) : Int) := hf.2.2.2.2.2.2.1
          clear hf
          simp only [List.take_succ_cons, List.take_zero, List.drop_succ_cons, List.drop_zero, putAll, Nat.zero_add, Nat.reduceAdd, z57, z59, z60]
          have hM8 := hM.gr ((Gr.drew _).trans hG)
          have hV8 := hV1.gr ((Gr.drew _).trans hG)
          have hG8 := hG1.trans ((Gr.drew _).trans hG)
          have h48 := h41.gr ((Gr.drew _).trans hG)
          refine wpList_add rfl (.tmp 57) (.tmp 59) (.tmp 60) rfl hM8 keyedS Tryd.underlying54 (key := strV nm) (val := .int .i64 (pl : Int)) (by kernel_rfl) (by kernel_rfl) (by kernel_rfl) hkey hno ?_
          intro o' w3 hw hM3
          rw [HPL.out] at hM3
          obtain ⟨es8, ck8, hb8, _⟩ := hM8
          have ho3 : ∀ k, k ≠ b1 → w3.heap[k]? = w1.heap[k]? := fun k hk => by rw [hw]; exact ChangeMaps.heap_setBlock_other hb8 o' hk
          have h03 : Below 0 w1 w3 := by rw [hw]; exact below0_set _ _ _
          have hne4 : g4 ≠ b1 := fun e => by subst e; unfold Arr at h48; rw [hb8] at h48; cases h48
          have h43 : Arr w3 g4 31 (u8s (List.replicate 32 0)) := by unfold Arr; rw [ho3 _ hne4]; exact h48
          have hblk3 : ∀ k, k < w.heap.size → k ≠ b1 → w3.heap[k]? = w.heap[k]? := fun k hk hne => (ho3 k hne).trans (hG8.block k hk)
          have hb03 := (Below.mono hG8 (Nat.zero_le _)).trans h03
          obtain ⟨hV3, _⟩ := hV.nameAdd hb03 hblk3 hM3 hτ
          have hlt1 := hV.names.lt
          have hs3 := h03.size
          have hs8 := hG8.size
          clear hw hV8 h48 hM hlen c33 hV1 h41 hr1 hb8 ho3 h03
          unfold wpList
          go_simp
          go_wp2_with fail
          refine (draw_any hV3.vk 0 pl 32 (by omega) (by omega) (by omega) (by omega)).mono ?_
          rintro e w6 ⟨x, rfl, ho3, hG3⟩
          rw [← HXp.out] at ho3
          obtain ⟨g18, c18, rfl, hc18, _, _, hrg⟩ := own_rangeK ho3 (by omega)
          have ha := fun w => run_arrAt (P := Tryd.prog) Tryd.underlying31 (A := some ⟨g18, 0, none⟩) (c := c18) (Nat.le_refl 32) w
          have h45 := h43.gr hG3
          go_wp2_with first
            | (refine wpList_load_mid rfl 31 (.tmp 64) rfl g18 0 rfl (u8s X) _ hrg Tryd.underlying31 rfl (infoBl X hXl) ?_)
            | (refine wpList_put h45 rfl 31 (.tmp 4) (.tmp 65) rfl (u8s X) rfl rfl (by simp [hXl]) (infoBl X hXl) (u8s_oneCell _) ?_; intro w4 h44 hB4 _)
          refine bodyPost_ret (results_cell_tmp rfl _ _ g4 _ _ _ _ rfl h44 Tryd.underlying31 rfl (by have := infoBl X hXl; simpa using this)) rfl ?_
          rw [HG4.out] at hB4
          have hb34 : Below w.heap.size w3 w4 := Below.trans (hG3.mono (by omega)) hB4
          have hM4 := hM3.same (hb34.block b1 hlt1)
          obtain ⟨hV4, hT4⟩ := hV.nameAdd (hb03.trans (hb34.mono (Nat.zero_le _))) (fun k hk hne => (hb34.block k hk).trans (hblk3 k hk hne)) hM4 hτ
          rw [hnv]
          exact ⟨rfl, hV4, hT4⟩
end Go.Proofs.YtnmhfomnlnlflaaDoor
/- What the vault's sealings need: keys of its maps, rows that stay, the vault behind a sealing. No condition. -/
namespace Go.Proofs.YtnmhfomnlnlflaaDoor
open Go.RowKit
theorem useV_inj {c k c' k' : Nat} (h : useV c k = useV c' k') : c = c' ∧ k = k' := by
  simp only [useV, Value.agg.injEq, Array.mk.injEq, List.cons.injEq, Value.int.injEq, true_and, and_true] at h
  omega
theorem sealV_inj {e c k e' c' k' : Nat} {wi out wi' out' : List UInt8} (h : sealV e c k wi out = sealV e' c' k' wi' out') : e = e' ∧ c = c' ∧ k = k' ∧ wi = wi' ∧ out = out' := by
  simp only [sealV, Value.agg.injEq, Array.mk.injEq, List.cons.injEq, Value.int.injEq, true_and, and_true] at h
  obtain ⟨h1, h2, h3, h4, h5⟩ := h
  exact ⟨by omega, by omega, by omega, strV_inj h4, strV_inj h5⟩
theorem wf_i64 {c : Nat} (hc : c ≤ 4611686018427387904) : (Lit.int .i64 (c : Int)).wf = true := by
  simp [Lit.wf, IntKind.min, IntKind.max, IntKind.signed, IntKind.bits]
  omega
theorem lits_int {c : Nat} (hc : c ≤ 4611686018427387904) (d : Nat) : Tryd.prog.keyLits (d + 1) 3 [.int .i64 (c : Int)] = some [.int .i64 (c : Int)] := by
  unfold Program.keyLits
  rw [Tryd.underlying3]
  simp [wf_i64 hc]
theorem lits_str {l : List UInt8} (hl : l.length ≤ 1000000) (d : Nat) : Tryd.prog.keyLits (d + 1) 9 [strV l] = some [.string l] := by
  have hs : (⟨l.toArray⟩ : ByteArray).size ≤ maxLen := by show l.length ≤ maxLen; unfold maxLen; omega
  unfold strV Program.keyLits
  rw [Tryd.underlying9]
  simp [hs]
theorem lits_use {c k : Nat} (hc : c ≤ 4611686018427387904) (hk : k ≤ 4611686018427387904) (d : Nat) : Tryd.prog.keyLits (d + 2) 64 [.int .i64 (c : Int), .int .i64 (k : Int)] = some [.int .i64 (c : Int), .int .i64 (k : Int)] := by
  have hc2 : Tryd.prog.cellsOf 64 = 2 := by kernel_rfl
  have hci : Tryd.prog.cellsOf 3 = 1 := by kernel_rfl
  unfold Program.keyLits
  rw [Tryd.underlying64]
  simp [hc2, hci, lits_int hc, lits_int hk]
theorem lits_seal {e c k : Nat} {wi out : List UInt8} (he : e ≤ 4611686018427387904) (hc : c ≤ 4611686018427387904) (hk : k ≤ 4611686018427387904) (hw : wi.length ≤ 1000000) (ho : out.length ≤ 1000000) (d : Nat) :
    Tryd.prog.keyLits (d + 3) 67 [.int .i64 (c : Int), .int .i64 (k : Int), .int .i64 (e : Int), strV wi, strV out] = some [.int .i64 (c : Int), .int .i64 (k : Int), .int .i64 (e : Int), .string wi, .string out] := by
  have hc5 : Tryd.prog.cellsOf 67 = 5 := by kernel_rfl
  have hc2 : Tryd.prog.cellsOf 64 = 2 := by kernel_rfl
  have hci : Tryd.prog.cellsOf 3 = 1 := by kernel_rfl
  have hcs : Tryd.prog.cellsOf 9 = 1 := by kernel_rfl
  unfold Program.keyLits
  rw [Tryd.underlying67]
  simp [hc5, hc2, hci, hcs, lits_use hc hk, lits_int he, lits_str hw, lits_str ho]
theorem keyOf_use (c k : Nat) (hc : c ≤ 4611686018427387904) (hk : k ≤ 4611686018427387904) : ∃ l, keyOf Tryd.prog 64 (useV c k) = some l := by
  have hkt : Tryd.prog.keyType 64 = true := by kernel_rfl
  have hc2 : Tryd.prog.cellsOf 64 = 2 := by kernel_rfl
  obtain ⟨D, hD⟩ : ∃ D, Tryd.prog.types.size + 1 = D + 2 := ⟨Tryd.prog.types.size - 1, by have : 1 ≤ Tryd.prog.types.size := of_decide_eq_true (by kernel_rfl); omega⟩
  have hf : (useV c k).formed Tryd.prog 64 = true := by simp [useV, Value.formed, Tryd.underlying64, hc2]
  refine ⟨.string (keyBytes [.int .i64 (c : Int), .int .i64 (k : Int)]), ?_⟩
  unfold keyOf
  rw [Tryd.underlying64]
  simp only [hkt, hf, hD, Bool.and_self, if_true]
  show Option.map _ (Tryd.prog.keyLits (D + 2) 64 [.int .i64 (c : Int), .int .i64 (k : Int)]) = _
  rw [lits_use hc hk]
  rfl
theorem keyOf_seal {e c k : Nat} {wi out : List UInt8} (he : e ≤ 4611686018427387904) (hc : c ≤ 4611686018427387904) (hk : k ≤ 4611686018427387904) (hw : wi.length ≤ 1000000) (ho : out.length ≤ 1000000) : ∃ l, keyOf Tryd.prog 67 (sealV e c k wi out) = some l := by
  have hkt : Tryd.prog.keyType 67 = true := by kernel_rfl
  have hc5 : Tryd.prog.cellsOf 67 = 5 := by kernel_rfl
  obtain ⟨D, hD⟩ : ∃ D, Tryd.prog.types.size + 1 = D + 3 := ⟨Tryd.prog.types.size - 2, by have : 2 ≤ Tryd.prog.types.size := of_decide_eq_true (by kernel_rfl); omega⟩
  have hf : (sealV e c k wi out).formed Tryd.prog 67 = true := by simp [sealV, Value.formed, Tryd.underlying67, hc5]
  refine ⟨.string (keyBytes [.int .i64 (c : Int), .int .i64 (k : Int), .int .i64 (e : Int), .string wi, .string out]), ?_⟩
  unfold keyOf
  rw [Tryd.underlying67]
  simp only [hkt, hf, hD, Bool.and_self, if_true]
  show Option.map _ (Tryd.prog.keyLits (D + 3) 67 [.int .i64 (c : Int), .int .i64 (k : Int), .int .i64 (e : Int), strV wi, strV out]) = _
  rw [lits_seal he hc hk hw ho]
  rfl
theorem own_same {w w' : World} {base : Nat} {e : TypeId} {A : Option Addr} {n c : Nat} {xs : List Value} (h : w.ownsRow base e 1 (.slice A n c) n xs) (hb : ∀ ad, A = some ad → w'.heap[ad.block]? = w.heap[ad.block]?) : w'.ownsRow base e 1 (.slice A n c) n xs := by
  refine ⟨h.1, ?_⟩
  rcases h.2 with h2 | ⟨g, cap, cur, e1, h1, h2, h3⟩
  · exact .inl h2
  · refine .inr ⟨g, cap, cur, e1, h1, ?_, h3⟩
    injection e1 with e1
    rw [hb _ e1]
    exact h2
theorem own_lower {w : World} {base base' : Nat} {e : TypeId} {v : Value} {n : Nat} {xs : List Value} (h : w.ownsRow base e 1 v n xs) (hb : base' ≤ base) : w.ownsRow base' e 1 v n xs := by
  refine ⟨h.1, ?_⟩
  rcases h.2 with h2 | ⟨g, cap, cur, e1, h1, h2⟩
  · exact .inl h2
  · exact .inr ⟨g, cap, cur, e1, Nat.le_trans hb h1, h2⟩
theorem useE_mem {v : Vt} {c k : Nat} (h : v.spent c k) : (useV c k, Value.bool true) ∈ useE v.L := by
  obtain ⟨s, hs, rfl, rfl⟩ := h
  exact List.mem_map.2 ⟨s, hs, rfl⟩
theorem useE_no {v : Vt} {c k : Nat} (h : ¬ v.spent c k) : ∀ p ∈ useE v.L, p.1 ≠ useV c k := by
  intro p hp e
  obtain ⟨s, hs, rfl⟩ := List.mem_map.1 hp
  obtain ⟨h1, h2⟩ := useV_inj e
  exact h ⟨s, hs, h1, h2⟩
section
variable {τ : Nat → Obj → Bool} {B : Nat} {w w' : World}
theorem TabR.mem : ∀ {L : List Sealing} {T : List (Value × Value)}, TabR τ B w L T → ∀ p ∈ T, ∃ s ∈ L, p.1 = sealV s.epoch s.client s.counter s.wi s.out
  | [], [], _, _, hp => by cases hp
  | s :: L, q :: T, ⟨⟨h1, _⟩, h6⟩, p, hp => by
    rcases List.mem_cons.1 hp with rfl | hp
    · exact ⟨s, by simp, h1⟩
    · obtain ⟨x, hx, e⟩ := TabR.mem h6 p hp
      exact ⟨x, by simp [hx], e⟩
  | [], _ :: _, h, _, _ => h.elim
  | _ :: _, [], h, _, _ => h.elim
theorem TabR.hit : ∀ {L : List Sealing} {T : List (Value × Value)}, TabR τ B w L T → ∀ s ∈ L, ∃ A c, (sealV s.epoch s.client s.counter s.wi s.out, Value.slice A s.b.length c) ∈ T ∧ s.b.length ≤ c ∧ (A = none → c = 0) ∧ RdS τ B w A s.b.length (u8s s.b)
  | [], [], _, _, hp => by cases hp
  | s :: L, q :: T, ⟨⟨h1, A, c, h2, h3, h4, h5⟩, h6⟩, p, hp => by
    rcases List.mem_cons.1 hp with rfl | hp
    · refine ⟨A, c, ?_, h3, h4, h5⟩
      rw [← h1, ← h2]
      simp
    · obtain ⟨A, c, hm, h⟩ := TabR.hit h6 p hp
      exact ⟨A, c, by simp [hm], h⟩
  | [], _ :: _, h, _, _ => h.elim
  | _ :: _, [], h, _, _ => h.elim
theorem TabR.append {s : Sealing} {A : Option Addr} {c : Nat} (h3 : s.b.length ≤ c) (h4 : A = none → c = 0) (h5 : RdS τ B w A s.b.length (u8s s.b)) : ∀ {L : List Sealing} {T : List (Value × Value)}, TabR τ B w L T → TabR τ B w (L ++ [s]) (T ++ [(sealV s.epoch s.client s.counter s.wi s.out, .slice A s.b.length c)])
  | [], [], _ => ⟨⟨rfl, A, c, rfl, h3, h4, h5⟩, trivial⟩
  | _ :: _, _ :: _, ⟨h1, h6⟩ => ⟨h1, TabR.append h3 h4 h5 h6⟩
  | [], _ :: _, h => h.elim
  | _ :: _, [], h => h.elim
theorem TabR.no {L : List Sealing} {T : List (Value × Value)} (h : TabR τ B w L T) {e c k : Nat} {wi out : List UInt8} (hn : ∀ s ∈ L, ¬ s.same e c k wi out) : ∀ p ∈ T, p.1 ≠ sealV e c k wi out := by
  intro p hp he
  obtain ⟨s, hs, e1⟩ := h.mem p hp
  rw [e1] at he
  exact hn s hs (sealV_inj he)
/-- A sealing is put down. -/
theorem VIs.putDown {g b1 b2 b3 : Nat} {v : Vt} {e c k : Nat} {wi b : List UInt8} (h : VIs τ B w g b1 b2 b3 v) (h0 : Below 0 w w') (ho : ∀ i, i < w.heap.size → i ≠ b2 → i ≠ b3 → w'.heap[i]? = w.heap[i]?) (hM2 : MapIs Tryd.prog 64 w' b2 (useE v.L ++ [(useV c k, .bool true)]))
    {T T' : List (Value × Value)} (hT : MapIs Tryd.prog 67 w b3 T) (hTR : v.ideal = true → TabR τ B w v.L T) (hM3 : MapIs Tryd.prog 67 w' b3 T')
    (hid : v.ideal = true → ∃ A cc, T' = T ++ [(sealV e c k wi (v.out e c k wi b), .slice A b.length cc)] ∧ b.length ≤ cc ∧ (A = none → cc = 0) ∧ RdS τ B w' A b.length (u8s b)) (hτ : ∀ k o, ownV b1 b2 b3 k o = true → τ k o = true) :
    VIs τ B w' g b1 b2 b3 (v.put e c k wi b) ∧ Tn (ownV b1 b2 b3) B w w' := by
  have h12 := h.lt1
  have h23 := h.lt2
  have hlo := h.lo
  have hTn : Tn (ownV b1 b2 b3) B w w' := by
    obtain ⟨es2, c2, hb2, _⟩ := h.used
    obtain ⟨es2', c2', hb2', _⟩ := hM2
    obtain ⟨es3, c3, hb3, _⟩ := hT
    obtain ⟨es3', c3', hb3', _⟩ := hM3
    refine ⟨h0.os, h0.tape, h0.output, h0.size, fun i hi hf => ho i hi (fun e => ?_) (fun e => ?_), fun i hi => ?_⟩
    · subst e
      rcases hf with hf | hf
      · omega
      · rw [hb2] at hf; simp [Turns, ownV] at hf
    · subst e
      rcases hf with hf | hf
      · omega
      · rw [hb3] at hf; simp [Turns, ownV] at hf
    · by_cases e2 : i = b2
      · subst e2; rw [hb2', hb2]; simp [Turns, ownV]
      · by_cases e3 : i = b3
        · subst e3; rw [hb3', hb3]; simp [Turns, ownV]
        · rw [ho i hi e2 e3]
  refine ⟨⟨h.arr.tn hTn (fun C f => by simp [ownV]), h.len, h.lo, h12, h23, h.names.same (ho _ h.names.lt (by omega) (by omega)), ?_, T', hM3, fun hi => ?_⟩, hTn⟩
  · rw [show useE (v.put e c k wi b).L = useE v.L ++ [(useV c k, .bool true)] by simp [Vt.put, useE]]
    exact hM2
  · have hi : v.ideal = true := hi
    obtain ⟨A, cc, rfl, h3, h4, h5⟩ := hid hi
    exact TabR.append (s := ⟨e, c, k, wi, b, v.out e c k wi b⟩) h3 h4 h5 ((hTR hi).tn (hTn.wide hτ))
end
section
variable {P : Program} {ev : Operand → Value} {d : Option Tmp} {t T : TypeId} {p : String} {af : Array Edge} {gd : Option (Nat × Bool)} {w : World} {x x0 x1 x2 x3 : Operand}
theorem run_loadRow {g off : Nat} {cs : List Value} {dd : TypeDesc} (hT : P.underlying T = some dd) (hd : dd.isRow = true) (hi : (P.info? T).map (·.size) = some cs.length) (h1 : ev x = .pointer (some ⟨g, off, none⟩)) (h : w.rangeAt g off cs) :
    (execOp ev ⟨d, .load T x, t, p, af, gd⟩).run P w = .ok (.value (.agg cs.toArray)) w := by
  have h2 := run_loadAt_mid (P := P) w g off T cs _ h hT hd hi
  simp only [execOp, h1, Sem.run_bind, h2, Result.andThen_ok, Sem.run_pure]
theorem run_buildS {e c k : Nat} {s1 s2 : ByteArray} (h0 : ev x0 = .agg #[.int .i64 (c : Int), .int .i64 (k : Int)]) (h1 : ev x1 = .int .i64 (e : Int)) (h2 : ev x2 = .string s1) (h3 : ev x3 = .string s2) :
    (execOp ev ⟨d, .build 67 #[(0, x0), (1, x1), (2, x2), (3, x3)], t, p, af, gd⟩).run Tryd.prog w = .ok (.value (.agg #[.int .i64 (c : Int), .int .i64 (k : Int), .int .i64 (e : Int), .string s1, .string s2])) w := by
  have h := run_build (P := Tryd.prog) w 67 #[(0, .agg #[.int .i64 (c : Int), .int .i64 (k : Int)]), (1, .int .i64 (e : Int)), (2, .string s1), (3, .string s2)] #[.int .i64 (c : Int), .int .i64 (k : Int), .int .i64 (e : Int), .string s1, .string s2] (by kernel_rfl)
  simp only [execOp, List.map_toArray, List.map_cons, List.map_nil, h0, h1, h2, h3, Sem.run_bind, h, Result.andThen_ok, Sem.run_pure]
theorem run_buildU {c k : Nat} (h0 : ev x0 = .int .i64 (c : Int)) (h1 : ev x1 = .int .i64 (k : Int)) :
    (execOp ev ⟨d, .build 64 #[(0, x0), (1, x1)], t, p, af, gd⟩).run Tryd.prog w = .ok (.value (.agg #[.int .i64 (c : Int), .int .i64 (k : Int)])) w := by
  have h := run_build (P := Tryd.prog) w 64 #[(0, .int .i64 (c : Int)), (1, .int .i64 (k : Int))] #[.int .i64 (c : Int), .int .i64 (k : Int)] (by kernel_rfl)
  simp only [execOp, List.map_toArray, List.map_cons, List.map_nil, h0, h1, Sem.run_bind, h, Result.andThen_ok, Sem.run_pure]
end
/-- All stands but a few blocks. -/
structure Ex (S : List Nat) (w w' : World) : Prop where
  below : Below 0 w w'
  same : ∀ i, i < w.heap.size → i ∉ S → w'.heap[i]? = w.heap[i]?
section
variable {S : List Nat} {w w' w2 : World}
theorem Ex.of_gr (h : Gr w w') : Ex S w w' := ⟨Below.mono h (Nat.zero_le _), fun i hi _ => h.block i hi⟩
theorem Ex.trans (h : Ex S w w') (k : Ex S w' w2) : Ex S w w2 := ⟨h.below.trans k.below, fun i hi hs => (k.same i (Nat.lt_of_lt_of_le hi h.below.size) hs).trans (h.same i hi hs)⟩
theorem Ex.gr (h : Ex S w w') (k : Gr w' w2) : Ex S w w2 := h.trans (Ex.of_gr k)
theorem Ex.set {P : Program} {k : TypeId} {b : Nat} {L : List (Value × Value)} {o : Obj} (h : MapIs P k w b L) (hb : b ∈ S) : Ex S w (ChangeMaps.setBlock w b o) := by
  obtain ⟨es, c, hbk, _⟩ := h
  exact ⟨below0_set _ _ _, fun i _ hs => ChangeMaps.heap_setBlock_other hbk o (fun e => hs (e ▸ hb))⟩
theorem Ex.below_ (h : Ex S w w') {B : Nat} (hB : B ≤ w.heap.size) (k : Below B w' w2) : ∀ i, i < B → i ∉ S → w2.heap[i]? = w.heap[i]? := fun i hi hs => (k.block i hi).trans (h.same i (Nat.lt_of_lt_of_le hi hB) hs)
theorem Arr.ex {g : Nat} {t : TypeId} {cs : List Value} (h : Arr w g t cs) (hE : Ex S w w') (hs : g ∉ S) : Arr w' g t cs := by
  unfold Arr at *
  rw [hE.same g (Arr.lt h) hs]
  exact h
theorem MapIs.ex {P : Program} {k : TypeId} {b : Nat} {L : List (Value × Value)} (h : MapIs P k w b L) (hE : Ex S w w') (hs : b ∉ S) : MapIs P k w' b L := h.same (hE.same b h.lt hs)
theorem Arr.ne_map {P : Program} {k : TypeId} {b g : Nat} {t : TypeId} {cs : List Value} {L : List (Value × Value)} (h : Arr w g t cs) (hm : MapIs P k w b L) : g ≠ b := by
  intro e
  subst e
  obtain ⟨es, c, hb, _⟩ := hm
  unfold Arr at h
  rw [hb] at h
  cases h
theorem own_set {P : Program} {k : TypeId} {b : Nat} {L : List (Value × Value)} {o : Obj} (hm : MapIs P k w b L) {base : Nat} {e : TypeId} {A : Option Addr} {n c : Nat} {xs : List Value} (h : w.ownsRow base e 1 (.slice A n c) n xs) : (ChangeMaps.setBlock w b o).ownsRow base e 1 (.slice A n c) n xs := by
  obtain ⟨es, ck, hb, _⟩ := hm
  refine own_same h fun ad e1 => ChangeMaps.heap_setBlock_other hb o (fun e2 => ?_)
  rcases h.2 with ⟨h2, _⟩ | ⟨g, cap, cur, h2, _, h3, _⟩
  · injection h2 with h2; rw [h2] at e1; cases e1
  · injection h2 with h2
    rw [h2] at e1
    injection e1 with e1
    subst e1
    subst e2
    rw [hb] at h3
    cases h3
theorem va_cell0 {g : Nat} {i : Bool} {K : List UInt8} {x y z : Option Nat} (h : Arr w g 58 (Value.bool i :: (u8s K ++ [Value.map x, Value.map y, Value.map z]))) : w.cell? ⟨g, 0, none⟩ = some (.bool i) := h.cell rfl
theorem va_cellN {g : Nat} {i : Bool} {K : List UInt8} {x y z : Option Nat} (h : Arr w g 58 (Value.bool i :: (u8s K ++ [Value.map x, Value.map y, Value.map z]))) (hK : K.length = 32) {j : Nat} {u : Value} (hx : ([Value.map x, Value.map y, Value.map z] : List Value)[j]? = some u) : w.cell? ⟨g, 33 + j, none⟩ = some u := h.cell (by
  rw [show 33 + j = (32 + j) + 1 by omega, List.getElem?_cons_succ, List.getElem?_append_right (by simp [hK]), u8s_length, hK, show 32 + j - 32 = j by omega]
  exact hx)
end
section
variable {P : Program} {k : TypeId} {b : Nat} {L : List (Value × Value)} {w w' : World}
theorem cell_ex (hM : MapIs P k w b L) (hE : Ex [b] w w') {p : Addr} {v : Value} (h : w.cell? p = some v) : w'.cell? p = some v := by
  have hl := lt_of_cell h
  have hne : p.block ≠ b := by
    intro e
    obtain ⟨es, c, hb, _⟩ := hM
    unfold World.cell? at h
    rw [e, hb] at h
    cases h
  exact (World.cell?_of_block (hE.same _ hl (by simpa using hne))).trans h
theorem Rd.ex {A : Option Addr} {n : Nat} {xs : List Value} (h : Rd w A n xs) (hE : Ex [b] w w') (hM : MapIs P k w b L) : Rd w' A n xs :=
  ⟨h.1, fun i u hu => by
    obtain ⟨ad, e, hc⟩ := h.2 i u hu
    exact ⟨ad, e, cell_ex hM hE hc⟩⟩
theorem Glob.ex (h : Glob w) (hE : Ex [b] w w') (hM : MapIs P k w b L) : Glob w' := ⟨fun j v hj => cell_ex hM hE (h.start j v hj), fun j v hj => cell_ex hM hE (h.keys j v hj)⟩
end
end Go.Proofs.YtnmhfomnlnlflaaDoor
/- The walk of the vault's keys: a sealing's key and nonce. No condition. -/
namespace Go.Proofs.YtnmhfomnlnlflaaDoor
open Go.RowKit
theorem results_cell2_tmp {P : Program} {fn : Func} {p q r : Tmp} {ty ty2 : TypeId} (h : fn.results = #[.cell p ty, .cell q ty2, .tmp r]) (tmps : Array Value) (w : World) (g g2 : Nat) (t t2 : TypeId) (cs cs2 : Array Value) (fr fr2 : Nat × Nat) (d d2 : TypeDesc)
    (hp : tmps.getD p undef = .pointer (some ⟨g, 0, none⟩)) (hg : w.heap[g]? = some (.cells cs t fr))
    (hu : P.underlying ty = some d) (hd : (match d with | .struct _ | .array _ _ => true | _ => false) = true) (hi : (P.info? ty).map (·.size) = some cs.size)
    (hp2 : tmps.getD q undef = .pointer (some ⟨g2, 0, none⟩)) (hg2 : w.heap[g2]? = some (.cells cs2 t2 fr2))
    (hu2 : P.underlying ty2 = some d2) (hd2 : (match d2 with | .struct _ | .array _ _ => true | _ => false) = true) (hi2 : (P.info? ty2).map (·.size) = some cs2.size) {x : Value} (hx : tmps.getD r undef = x) :
    (results fn tmps).run P w = .ok (.tuple #[.agg cs, .agg cs2, x]) w := by
  have hp' : tmps[p]?.getD undef = .pointer (some ⟨g, 0, none⟩) := by simpa using hp
  have hp2' : tmps[q]?.getD undef = .pointer (some ⟨g2, 0, none⟩) := by simpa using hp2
  have hx' : tmps[r]?.getD undef = x := by simpa using hx
  simp [results, h, hp', hp2', hx', asAddr, run_loadVar_row w g t ty cs fr d hg hu hd hi, run_loadVar_row w g2 t2 ty2 cs2 fr2 d2 hg2 hu2 hd2 hi2]
set_option maxRecDepth 100000 in
set_option maxHeartbeats 4000000 in
theorem keys_any {w : World} {g : Nat} {K : List UInt8} (hV : VK w g K) (e c k : Nat) (hR : Right e c k) (gw : Glob w) :
    Calls Tryd.prog 25 #[.pointer (some ⟨g, 0, none⟩), .int .i64 (e : Int), .int .i64 (c : Int), .int .i64 (k : Int)] w fun r w' => r = .returned (.tuple #[.agg (u8s (sealKL K e)).toArray, .agg (u8s (nonceL c k)).toArray, .int .i64 0]) ∧ Gr w w' := by
  obtain ⟨h1, h2, h3, h4, h5, h6⟩ := hR
  have hKl := hV.len
  obtain ⟨X, hX⟩ : ∃ X, X = sealKL K e := ⟨_, rfl⟩
  have hXl : X.length = 32 := by rw [hX]; simp
  obtain ⟨N, hN⟩ : ∃ N, N = nonceL c k := ⟨_, rfl⟩
  have hNl : N.length = 12 := by rw [hN]; simp
  have HS : Hid (∀ w, Glob w → Calls Tryd.prog 36 #[.agg (u8s K).toArray, .int .i64 (e : Int)] w fun r w' => r = .returned (.tuple #[.agg (u8s X).toArray, .int .i64 0]) ∧ Below w.heap.size w w') := by
    intro w gw
    rw [hX]
    exact sealK_any K hKl e (by omega) (by omega) w gw
  have HN : Hid (∀ w, Calls Tryd.prog 35 #[.int .i64 (c : Int), .int .i64 (k : Int)] w fun e w' => e = .returned (.tuple #[.agg (u8s N).toArray, .int .i64 0]) ∧ Below w.heap.size w w') := by
    intro w
    rw [hN]
    exact nonce_any c k (by omega) (by omega) (by omega) (by omega) w
  rw [← hX, ← hN]
  clear hX hN h1 h2 h3 h4 h5 h6
  have a8 : Arr ((w.alloc (.cells (u8s (List.replicate 32 0)).toArray 22)).alloc (.cells (u8s (List.replicate 12 0)).toArray 68)) w.heap.size 22 (u8s (List.replicate 32 0)) := Arr.alloc (Arr.newAt rfl rfl) _
  have a9 : Arr ((w.alloc (.cells (u8s (List.replicate 32 0)).toArray 22)).alloc (.cells (u8s (List.replicate 12 0)).toArray 68)) (w.heap.size + 1) 68 (u8s (List.replicate 12 0)) := Arr.newAt (asz _ _) rfl
  have G0 : Gr w ((w.alloc (.cells (u8s (List.replicate 32 0)).toArray 22)).alloc (.cells (u8s (List.replicate 12 0)).toArray 68)) := (Gr.alloc _ _).trans (Gr.alloc _ _)
  go_enter Tryd.func25, Tryd.ntmps25
  go_upto_region 1 with fail
  change Code.wp _ _ _ _ ((w.alloc (.cells (u8s (List.replicate 32 0)).toArray 22)).alloc (.cells (u8s (List.replicate 12 0)).toArray 68))
  generalize (w.alloc (.cells (u8s (List.replicate 32 0)).toArray 22)).alloc (.cells (u8s (List.replicate 12 0)).toArray 68) = w0 at a8 a9 G0 ⊢
  obtain ⟨g9, hg9⟩ : ∃ g, g = w.heap.size + 1 := ⟨_, rfl⟩
  rw [← hg9] at a9
  simp only [← hg9]
  obtain ⟨g8, hg8⟩ : ∃ g, g = w.heap.size := ⟨_, rfl⟩
  rw [← hg8] at a8
  simp only [← hg8]
  have H89 : Hid (g8 < g9 ∧ g8 = w.heap.size) := ⟨by omega, hg8⟩
  clear hg8 hg9
  have hV0 := hV.gr G0
  have gw0 := gw.gr G0
  go_wp2_with first
    | (refine wpList_load_mid rfl 22 (.tmp 17) rfl g 1 rfl (u8s K) _ hV0.range Tryd.underlying22 rfl (infoU8_32 _ hKl) ?_)
  refine (HS.out w0 gw0).mono ?_
  rintro r w1 ⟨rfl, hB1⟩
  go_wp2_with (refine wpList_new rfl 22 (.tmp 11) (.tmp 21) rfl _ (u8s X) rfl rfl rfl (by simp only [u8s_length, hXl]; rfl) (infoU8_32 X hXl) (u8s_oneCell _) ?_; intro w2 h11 hG2)
  have G2 : Gr w0 w2 := Gr.trans hB1 hG2
  have a82 := a8.gr G2
  have a92 := a9.gr G2
  have hlt8 := a8.lt
  have hlt9 := a9.lt
  have hs1 := hB1.size
  obtain ⟨g11, hg11⟩ : ∃ g, g = w1.heap.size := ⟨_, rfl⟩
  rw [← hg11] at h11
  simp only [← hg11]
  have d118 : g11 ≠ g8 := by omega
  have d119 : g11 ≠ g9 := by omega
  have hge : w1.heap.size ≤ w2.heap.size := hG2.size
  have hG02 := G0.trans G2
  clear hg11 a8 a9 hB1 hG2 G0 gw0
  refine (HN.out w2).mono ?_
  rintro r w3 ⟨rfl, hB3⟩
  have hs3 := hB3.size
  obtain ⟨g13, hg13⟩ : ∃ g, g = w3.heap.size := ⟨_, rfl⟩
  go_upto_region 5 with (refine wpList_new rfl 68 (.tmp 13) (.tmp 32) rfl _ (u8s N) rfl rfl rfl (by simp only [u8s_length, hNl]; rfl) (info12 N hNl) (u8s_oneCell _) ?_; intro w4 h13 hG4)
  rw [← hg13] at h13
  simp only [← hg13]
  have d138 : g13 ≠ g8 := by omega
  have d139 : g13 ≠ g9 := by omega
  have G4 : Gr w2 w4 := Gr.trans hB3 hG4
  have a84 := a82.gr G4
  have a94 := a92.gr G4
  have h114 := h11.gr G4
  have hGW := hG02.trans G4
  clear hg13 G4 hG4 hB3 a82 a92 h11 hG02 hs1 hs3 hge G2
  have d89 : g8 ≠ g9 := by have := H89.out.1; omega
  refine wp_region_cutG (GM g8 [(g9, 68, u8s N), (g8, 22, u8s X)]) (fun _ => GM.refl _) (fun _ _ _ => GM.trans) (by kernel_rfl)
    [IsV (.agg (u8s X).toArray), IsV (.agg (u8s N).toArray), IsV (.int .i64 0), fun _ w => Arr w g8 22 (u8s X), fun _ w => Arr w g9 68 (u8s N)] 5 (by decide) (by kernel_rfl) (by kernel_rfl) (by kernel_rfl) ?_ ?_ ?_
  · intro φ hφ v w1 w2 h hg
    simp only [List.mem_cons, List.not_mem_nil, or_false] at hφ
    rcases hφ with rfl | rfl | rfl | rfl | rfl
    · exact h
    · exact h
    · exact h
    · exact hg.done (g8, 22, u8s X) (by simp) h
    · exact hg.done (g9, 68, u8s N) (by simp) h
  · have hpw : ([(g9, 68, u8s N), (g8, 22, u8s X)] : List (Nat × TypeId × List Value)).Pairwise fun a b => b.1 < a.1 := by
      simp [H89.out.1]
    refine ⟨?_, ?_, ?_, ?_, ?_, trivial⟩
    · intro a1 w1 hG hF
      have e11 : a1.eval (.tmp 11) = .pointer (some ⟨g11, 0, none⟩) := hF.ol 11 (by kernel_rfl)
      exact g_load rfl rfl 22 (.tmp 11) rfl g11 e11 22 (u8s X) _ (hG.other _ _ _ (by simp; omega) h114) Tryd.underlying22 rfl (infoU8_32 X hXl) rfl
    · intro a1 w1 hG hF
      have e13 : a1.eval (.tmp 13) = .pointer (some ⟨g13, 0, none⟩) := hF.ol 13 (by kernel_rfl)
      exact g_load rfl rfl 68 (.tmp 13) rfl g13 e13 68 (u8s N) _ (hG.other _ _ _ (by simp; omega) h13) Tryd.underlying68 rfl (info12 N hNl) rfl
    · intro a1 w1 hG hF
      have e12 : a1.eval (.tmp 12) = .int .i64 0 := hF.ol 12 (by kernel_rfl)
      exact g_val rfl rfl _ rfl (run_move e12)
    · intro a1 w1 hG hF
      have e8 : a1.eval (.tmp 8) = .pointer (some ⟨g8, 0, none⟩) := hF.ol 8 (by kernel_rfl)
      obtain ⟨_, e34, rfl⟩ := hF.dp 0 34 (by kernel_rfl)
      exact g_store rfl rfl 22 (.tmp 8) (.tmp 34) rfl g8 22 (u8s X) e8 e34 (by simp) hpw (Nat.le_refl _) (hG.there (g8, 22, u8s X) (by simp) ⟨_, by simp [hXl], a84⟩) (infoU8_32 X hXl) (u8s_oneCell _) rfl
    · intro a1 w1 hG hF
      have e9 : a1.eval (.tmp 9) = .pointer (some ⟨g9, 0, none⟩) := hF.ol 9 (by kernel_rfl)
      obtain ⟨_, e35, rfl⟩ := hF.dp 1 35 (by kernel_rfl)
      exact g_store rfl rfl 68 (.tmp 9) (.tmp 35) rfl g9 68 (u8s N) e9 e35 (by simp) hpw (Nat.le_of_lt H89.out.1) (hG.there (g9, 68, u8s N) (by simp) ⟨_, by simp [hNl], a94⟩) (info12 N hNl) (u8s_oneCell _) rfl
  · intro vs w5 hG hf
    have z36 : vs 2 = .int .i64 0 := hf.2.2.1
    have hA8 : Arr w5 g8 22 (u8s X) := hf.2.2.2.1
    have hA9 : Arr w5 g9 68 (u8s N) := hf.2.2.2.2.1
    have hb := hG.below
    clear hf
    simp only [List.take_succ_cons, List.take_zero, List.drop_succ_cons, List.drop_zero, putAll, Nat.zero_add, Nat.reduceAdd, z36]
    unfold wpList
    go_simp
    refine .inl ?_
    go_wp2_with fail
    refine bodyPost_ret (results_cell2_tmp rfl _ _ g8 g9 _ _ _ _ _ _ _ _ rfl hA8 Tryd.underlying22 rfl (by have := infoU8_32 X hXl; simpa using this) rfl hA9 Tryd.underlying68 rfl (by have := info12 N hNl; simpa using this) rfl) rfl ?_
    refine ⟨rfl, ?_⟩
    have h1 := Below.trans hGW ((Below.refl _ _).drew.trans (hb.mono (Nat.le_of_eq H89.out.2.symm)))
    exact h1
end Go.Proofs.YtnmhfomnlnlflaaDoor
/- The walks of aead's padded and of its reference's pad. No condition. -/
namespace Go.Proofs.YtnmhfomnlnlflaaDoor
open Go.RowKit
theorem slLen_own {w : World} {b : Nat} {e : TypeId} {size n : Nat} {v : Value} {xs : List Value} (h : w.ownsRow b e size v n xs) : slLen v = n := by
  obtain ⟨A, c, rfl, _⟩ := own_form h
  rfl
theorem tmod16 (m : Nat) : ((m : Nat) : Int).tmod 16 = ((m % 16 : Nat) : Int) := by
  rw [Int.tmod_eq_emod_of_nonneg (by omega)]
  omega
set_option maxRecDepth 100000 in
set_option maxHeartbeats 2000000 in
theorem apad_any (A : Option Addr) (n c : Nat) (b : List UInt8) (hn : n ≤ 1000000) (w : World) (hr : Rd w A n (u8s b)) :
    Calls Tryd.prog 53 #[.slice A n c] w fun e w' => ∃ v, e = .returned v ∧ w'.ownsRow w.heap.size 5 1 v (padA b).length (u8s (padA b)) ∧ Below w.heap.size w w' := by
  obtain ⟨i0, hi0, hz0, hz1, hz2⟩ := info_parts Tryd.info5
  have hbl : b.length = n := by simpa using hr.1
  go_enter Tryd.func53, Tryd.ntmps53
  go_wp2_with (at_builtin; go_must (refine wpList_clip _ rfl (.tmp 4) (.tmp 5) 27 rfl 5 i0 (.int .u8 0) Tryd.underlying27 hi0 hz0 hz1 hz2 rfl w.heap.size rfl rfl A n c b rfl hr (by omega) ?_))
  intro v1 w1 ho1 hB1
  go_simp
  go_wp2_with fail
  go_simp
  go_loopw [3] (fun v wr => ∃ m k : Nat, m = n + k ∧ k < 16 ∧ k ≤ (16 - n % 16) % 16 ∧ wr.ownsRow w.heap.size 5 1 v m (u8s (padN b k)) ∧ Below w.heap.size w wr) (fun v _ => (16 - slLen v % 16) % 16)
  case atStart => exact ⟨n, 0, by omega, by omega, by omega, by simpa [padN] using ho1, hB1⟩
  case round =>
    obtain ⟨m, k, hm, hk, hk2, hown, hB⟩ := hrel
    have hsl := slLen_own hown
    obtain ⟨A1, c1, rfl, hc1, _⟩ := own_form hown
    have hbs := hB.size
    have hmod := tmod16 m
    have HM := Lib.hid hm
    clear hm
    by_cases h0 : m % 16 = 0
    · rw [h0] at hmod
      have he := padN_all (b := b) (k := k) (by rw [hbl, ← HM.out]; exact h0) hk
      have hl := padN_length b k
      rw [hbl, ← HM.out] at hl
      go_wp2_with fail
      go_ret
      exact ⟨_, rfl, by rw [← he, hl]; exact hown, hB⟩
    · obtain ⟨r, hr2⟩ : ∃ r : Nat, m % 16 = r := ⟨_, rfl⟩
      rw [hr2] at hmod
      have hr0 : (r : Int) ≠ 0 := by omega
      have HR2 := Lib.hid hr2
      have HR0 := Lib.hid h0
      clear hr2 h0
      go_wp2_with (at_builtin; go_must (refine wpList_app1 wr rfl (.tmp 11) (.tmp 12) 27 rfl w.heap.size 5 i0 (.int .u8 0) 1 Tryd.underlying27 hi0 hz0 hz1 hz2 rfl (.slice A1 m c1) m _ rfl hown _ (.int .u8 0) rfl rfl rfl (by have := HM.out; omega) (by unfold maxLen; have := HM.out; omega) hbs ?_))
      intro v' w2 hA2
      have ho2 := hA2.own
      have hB2 := hB.trans (hA2.below hown hbs)
      have hl2 := slLen_own ho2
      have h1 := HM.out
      have h2 := HR0.out
      rw [show u8s (padN b k) ++ [Value.int .u8 0] = u8s (padN b (k + 1)) by rw [padN_succ, u8s_append]; rfl] at ho2
      clear hA2 hown hB hmod hr0 HR2 HR0
      go_simp
      go_wp2_with fail
      refine ⟨⟨m + 1, k + 1, by omega, by omega, by omega, ho2, hB2⟩, ?_⟩
      simp only [slLen] at hl2 ⊢
      omega
/-- The reference's noughts up to a multiple of sixteen. -/
theorem rpad_any (b : List UInt8) (hn : b.length ≤ 1000000) (w : World) :
    Calls Tryd.prog 81 #[.string ⟨b.toArray⟩] w fun e w' => e = .returned (.string ⟨(padA b).toArray⟩) ∧ Below w.heap.size w w' := by
  go_enter Tryd.func81, Tryd.ntmps81
  go_wp2_with fail
  go_simp
  go_loopw [0] (fun v wr => ∃ k : Nat, k < 16 ∧ k ≤ (16 - b.length % 16) % 16 ∧ v = .string ⟨(padN b k).toArray⟩ ∧ Below w.heap.size w wr) (fun v _ => (16 - (match v with | .string s => s.size | _ => 0) % 16) % 16)
  case atStart => exact ⟨0, by omega, by omega, by simp [padN], Below.refl _ _⟩
  case round =>
    obtain ⟨k, hk, hk2, rfl, hB⟩ := hrel
    obtain ⟨s, hs⟩ : ∃ s : ByteArray, s = ⟨(padN b k).toArray⟩ := ⟨_, rfl⟩
    have hsz : s.size = b.length + k := by rw [hs, ← padN_length]; rfl
    have hmod := tmod16 s.size
    have hlt : ¬ 9223372036854775807 < s.size + 1 := by omega
    rw [← hs]
    have HS := Lib.hid hs
    have HZ := Lib.hid hsz
    clear hs hsz
    by_cases h0 : s.size % 16 = 0
    · have he := padN_all (b := b) (k := k) (by rw [← HZ.out]; exact h0) hk
      rw [h0] at hmod
      have HE : Hid (s = ⟨(padA b).toArray⟩) := by show _ = _; rw [HS.out, he]
      clear he h0
      go_wp2_with fail
      go_ret
      exact ⟨by rw [HE.out]; rfl, hB⟩
    · obtain ⟨r, hr2⟩ : ∃ r : Nat, s.size % 16 = r := ⟨_, rfl⟩
      rw [hr2] at hmod
      have hr0 : (r : Int) ≠ 0 := by omega
      have HR0 := Lib.hid h0
      clear hr2 h0
      go_wp2_with fail
      have h1 := HZ.out
      have h2 := HR0.out
      refine ⟨⟨k + 1, by omega, by omega, ?_, hB⟩, ?_⟩
      · rw [HS.out, padN_succ, ← str_append]
      · show (16 - (s ++ ⟨#[0]⟩).size % 16) % 16 < (16 - s.size % 16) % 16
        rw [ByteArray.size_append, show (⟨#[0]⟩ : ByteArray).size = 1 from rfl]
        omega
end Go.Proofs.YtnmhfomnlnlflaaDoor
/- Numbers as digits of a byte, the lowest first, in plain Lean. No program, no condition. -/
namespace Go.Proofs.YtnmhfomnlnlflaaDoor
open Go.RowKit
def val256 : List Nat → Nat
  | [] => 0
  | a :: l => a + 256 * val256 l
/-- The k lowest digits of a number. -/
def dig : Nat → Nat → List Nat
  | 0, _ => []
  | k + 1, v => v % 256 :: dig k (v / 256)
@[simp] theorem dig_length (k v : Nat) : (dig k v).length = k := by
  induction k generalizing v with
  | zero => rfl
  | succ k ih => rw [dig, List.length_cons, ih]
theorem dig_snoc (k v : Nat) : dig (k + 1) v = dig k v ++ [v / 256 ^ k % 256] := by
  induction k generalizing v with
  | zero => simp [dig]
  | succ k ih =>
    rw [dig, ih (v / 256), dig, List.cons_append, Nat.div_div_eq_div_mul, Nat.pow_succ, Nat.mul_comm 256]
theorem dig_add (k v c : Nat) : dig k (v + 256 ^ k * c) = dig k v := by
  induction k generalizing v with
  | zero => rfl
  | succ k ih =>
    have e1 : (v + 256 ^ (k + 1) * c) % 256 = v % 256 := by
      rw [Nat.pow_succ, Nat.mul_comm (256 ^ k) 256, Nat.mul_assoc, Nat.add_mul_mod_self_left]
    have e2 : (v + 256 ^ (k + 1) * c) / 256 = v / 256 + 256 ^ k * c := by
      rw [Nat.pow_succ, Nat.mul_comm (256 ^ k) 256, Nat.mul_assoc, Nat.add_mul_div_left _ _ (by omega)]
    rw [dig, dig, e1, e2, ih]
theorem val256_dig (k v : Nat) : val256 (dig k v) = v % 256 ^ k := by
  induction k generalizing v with
  | zero => rw [dig, val256, Nat.pow_zero, Nat.mod_one]
  | succ k ih => rw [dig, val256, ih, Nat.pow_succ, Nat.mul_comm (256 ^ k) 256, Nat.mod_mul]
theorem dig_get (k v i : Nat) (h : i < k) : (dig k v).getD i 0 = v / 256 ^ i % 256 := by
  induction k generalizing v i with
  | zero => omega
  | succ k ih =>
    rw [dig]
    cases i with
    | zero => simp
    | succ i => rw [List.getD_cons_succ, ih _ _ (by omega), Nat.div_div_eq_div_mul, Nat.pow_succ, Nat.mul_comm 256]
theorem dig_val {l : List Nat} (h : ∀ x ∈ l, x < 256) : dig l.length (val256 l) = l := by
  induction l with
  | nil => rfl
  | cons a l ih =>
    have ha := h a (by simp)
    rw [List.length_cons, dig, val256, show (a + 256 * val256 l) % 256 = a by omega, show (a + 256 * val256 l) / 256 = val256 l by omega, ih fun x hx => h x (by simp [hx])]
theorem val256_snoc (l : List Nat) (a : Nat) : val256 (l ++ [a]) = val256 l + 256 ^ l.length * a := by
  induction l with
  | nil => simp [val256]
  | cons b l ih =>
    rw [List.cons_append, val256, ih, val256, List.length_cons, Nat.pow_succ, Nat.mul_add, Nat.mul_comm (256 ^ l.length) 256, Nat.mul_assoc]
    omega
/-- Carried, k digits of it; what is over. -/
def crAt (a : List Nat) : Nat → List Nat × Nat
  | 0 => (a, 0)
  | k + 1 => ((crAt a k).1.set k (((crAt a k).1.getD k 0 + (crAt a k).2) % 256), ((crAt a k).1.getD k 0 + (crAt a k).2) / 256)
@[simp] theorem crAt_length (a : List Nat) (k : Nat) : (crAt a k).1.length = a.length := by
  induction k with
  | zero => rfl
  | succ k ih => rw [crAt, List.length_set, ih]
theorem crAt_is (a : List Nat) (k : Nat) (h : k ≤ a.length) : crAt a k = (dig k (val256 (a.take k)) ++ a.drop k, val256 (a.take k) / 256 ^ k) := by
  induction k with
  | zero => simp [crAt, dig, val256]
  | succ k ih =>
    have hk : k < a.length := by omega
    have hp := Nat.pow_pos (n := k) (show 0 < 256 by omega)
    obtain ⟨x, hx⟩ : ∃ x, a[k]? = some x := ⟨_, List.getElem?_eq_getElem hk⟩
    have hxe : a[k] = x := by simpa [hk] using hx
    have e1 : a.take (k + 1) = a.take k ++ [x] := take_snoc_ a k x hx
    have e2 : val256 (a.take (k + 1)) = val256 (a.take k) + 256 ^ k * x := by rw [e1, val256_snoc, List.length_take, Nat.min_eq_left (by omega)]
    have e3 : a.drop k = x :: a.drop (k + 1) := by rw [List.drop_eq_getElem_cons hk, hxe]
    have e4 : (dig k (val256 (a.take k)) ++ a.drop k).getD k 0 = x := by
      rw [e3, List.getD_eq_getElem?_getD, List.getElem?_append_right (by simp)]
      simp
    rw [crAt, ih (by omega)]
    simp only [e4]
    have e5 : (val256 (a.take k) + 256 ^ k * x) / 256 ^ k = x + val256 (a.take k) / 256 ^ k := by
      rw [Nat.add_mul_div_left _ _ hp, Nat.add_comm]
    rw [e2, e3, List.set_append_right _ _ (by simp), dig_length, Nat.sub_self, List.set_cons_zero, dig_snoc, dig_add, e5, List.append_assoc, List.singleton_append, Nat.pow_succ, ← Nat.div_div_eq_div_mul, e5]
/-- Carried: the digits of the value. -/
theorem crAt_all {a : List Nat} {n : Nat} (h : a.length = n) : (crAt a n).1 = dig n (val256 a) := by
  rw [crAt_is a n (by omega)]
  simp only
  rw [List.take_of_length_le (by omega), List.drop_of_length_le (by omega), List.append_nil]
/-- All digits are small numbers. -/
def Lt40 (l : List Nat) : Prop := ∀ i, l.getD i 0 < 1099511627776
theorem Lt40.set {l : List Nat} (h : Lt40 l) (k : Nat) {v : Nat} (hv : v < 1099511627776) : Lt40 (l.set k v) := by
  intro i
  rw [List.getD_eq_getElem?_getD, List.getElem?_set]
  split
  · split
    · exact hv
    · simp
  · have := h i
    rwa [List.getD_eq_getElem?_getD] at this
theorem crAt_lt {a : List Nat} (h : Lt40 a) (k : Nat) : Lt40 (crAt a k).1 ∧ (crAt a k).2 < 1099511627776 := by
  induction k with
  | zero => exact ⟨h, by show 0 < _; omega⟩
  | succ k ih =>
    have h1 := ih.1 k
    have h2 := ih.2
    refine ⟨ih.1.set k (by omega), ?_⟩
    show ((crAt a k).1.getD k 0 + (crAt a k).2) / 256 < _
    omega
theorem dig_lt (k v : Nat) : Lt40 (dig k v) := by
  intro i
  rcases Nat.lt_or_ge i k with h | h
  · rw [dig_get k v i h]
    have := Nat.mod_lt (v / 256 ^ i) (show 256 > 0 by omega)
    omega
  · rw [List.getD_eq_getElem?_getD, List.getElem?_eq_none (by simp; omega)]
    show 0 < _
    omega
end Go.Proofs.YtnmhfomnlnlflaaDoor
/- The helper tags() is true. No condition. -/
namespace Go.Proofs.YtnmhfomnlnlflaaDoor
open Go.RowKit
theorem rd_marked (w : World) (C : Array Value) (e : TypeId) (fr : Nat × Nat) (n : Nat) (l : List UInt8) (hC : C.toList = u8s l) (hn : l.length = n) : Rd (w.alloc (.cells C e fr)) (some ⟨w.heap.size, 0, none⟩) n (u8s l) := by
  have hs : C.size = n := by rw [← Array.length_toList, hC, u8s_length, hn]
  have hg : (w.alloc (.cells C e fr)).heap[w.heap.size]? = some (.cells C e fr) := by
    show (w.heap.push (.cells C e fr))[w.heap.size]? = _
    simp
  have := Rd.of_row hg 0 n (by omega)
  rwa [hC, List.drop_zero, List.take_of_length_le (by simp [hn])] at this
def keyT : Nat → List UInt8
  | 0 => List.replicate 32 0
  | k + 1 => (keyT k).set (16 + k) (UInt8.ofNat (16 + k))
@[simp] theorem keyT_length (k : Nat) : (keyT k).length = 32 := by
  induction k with
  | zero => rfl
  | succ k ih => rw [keyT, List.length_set, ih]
def abc : List UInt8 := [97, 98, 99]
set_option maxRecDepth 10000 in
theorem tagT_is : tagL (keyT 16) abc = (keyT 16).drop 16 := by decide +kernel
end Go.Proofs.YtnmhfomnlnlflaaDoor
/- The walk of the law PolyNought. No condition. -/
namespace Go.Proofs.YtnmhfomnlnlflaaDoor
open Go.RowKit
theorem leBytes_leNat (l : List UInt8) : leBytes l.length (leNat l) = l := by
  induction l with
  | nil => rfl
  | cons c r ih =>
    have hc := c.toNat_lt
    rw [List.length_cons, leBytes, leNat]
    have e1 : (c.toNat + 256 * leNat r) / 256 = leNat r := by omega
    have e2 : UInt8.ofNat (c.toNat + 256 * leNat r) = c := by
      apply UInt8.toNat_inj.1
      rw [UInt8.toNat_ofNat']
      omega
    rw [e1, e2, ih]
theorem pH_zero (b : List UInt8) (k : Nat) : pH 0 b k = 0 := by
  cases k with
  | zero => rfl
  | succ k => rw [pH, Nat.mul_zero]; rfl
theorem tagL_drop {K b : List UInt8} (hK : K.length = 32) (h : pH (leNat (rL K)) b ((b.length + 15) / 16) = 0) : tagL K b = K.drop 16 := by
  have hl : (K.drop 16).length = 16 := by simp [hK]
  have := leBytes_leNat (K.drop 16)
  rw [hl] at this
  rw [tagL, h, Nat.zero_add, this]
theorem tagL_nil {K : List UInt8} (hK : K.length = 32) : tagL K [] = K.drop 16 := tagL_drop hK rfl
def lowAt (K : List UInt8) : Nat → List UInt8
  | 0 => K
  | k + 1 => (lowAt K k).set k 0
@[simp] theorem lowAt_length (K : List UInt8) (k : Nat) : (lowAt K k).length = K.length := by
  induction k with
  | zero => rfl
  | succ k ih => rw [lowAt, List.length_set, ih]
theorem lowAt_is {K : List UInt8} (k : Nat) (h : k ≤ K.length) : lowAt K k = List.replicate k 0 ++ K.drop k := by
  induction k with
  | zero => rfl
  | succ k ih =>
    rw [lowAt, ih (by omega), List.set_append_right _ _ (by simp), List.length_replicate, Nat.sub_self, List.drop_eq_getElem_cons (by omega), List.set_cons_zero, List.replicate_succ', List.append_assoc]
    rfl
theorem tagL_low {K : List UInt8} (hK : K.length = 32) (b : List UInt8) : tagL (lowAt K 16) b = K.drop 16 := by
  have e := lowAt_is (K := K) 16 (by omega)
  have e1 : (lowAt K 16).drop 16 = K.drop 16 := by rw [e, List.drop_append_of_le_length (by simp), List.drop_of_length_le (by simp), List.nil_append]
  have e2 : (lowAt K 16).take 16 = List.replicate 16 0 := by rw [e, List.take_append_of_le_length (by simp), List.take_of_length_le (by simp)]
  have e3 : leNat (rL (lowAt K 16)) = 0 := by rw [rL, e2]; decide
  rw [tagL_drop (by simp [hK]) (by rw [e3]; exact pH_zero _ _), e1]
end Go.Proofs.YtnmhfomnlnlflaaDoor
/- The walk of the law PolyBlocks. No condition. -/
namespace Go.Proofs.YtnmhfomnlnlflaaDoor
open Go.RowKit
def keyO (e : List UInt8) : List UInt8 := 1 :: List.replicate 15 0 ++ e
theorem tag_one {b e : List UInt8} (hb : b.length = 16) : tagL (keyO e) b = leBytes 16 (leNat b + leNat e) := by
  have e1 : (keyO e).take 16 = 1 :: List.replicate 15 0 := by rw [keyO, List.take_append_of_le_length (by simp), List.take_of_length_le (by simp)]
  have e2 : (keyO e).drop 16 = e := by rw [keyO, List.drop_append_of_le_length (by simp), List.drop_of_length_le (by simp), List.nil_append]
  have e3 : leNat (rL (keyO e)) = 1 := by rw [rL, e1]; decide +kernel
  have e4 : blk b 0 = b := by rw [blk, Nat.mul_zero, List.drop_zero, List.take_of_length_le (by omega)]
  have hlt := leNat_lt b
  rw [hb] at hlt
  have e256 : (256 : Nat) ^ 16 = 340282366920938463463374607431768211456 := by decide +kernel
  rw [e256] at hlt
  have e0 : pH 1 b 0 = 0 := by rw [pH]
  have e5 : pH 1 b 1 = leNat b + 340282366920938463463374607431768211456 := by
    rw [pH, e4, hb, e256, e0, Nat.zero_add, Nat.mul_one]
    exact Nat.mod_eq_of_lt (by show _ < 1361129467683753853853498429727072845819; omega)
  rw [tagL, e3, e2, hb, show (16 + 15) / 16 = 1 from rfl, e5]
  have h1 := leBytes_mod 16 (leNat b + 340282366920938463463374607431768211456 + leNat e) 16 (Nat.le_refl _)
  have h2 := leBytes_mod 16 (leNat b + leNat e) 16 (Nat.le_refl _)
  rw [e256] at h1 h2
  rw [← h1, ← h2, show leNat b + 340282366920938463463374607431768211456 + leNat e = leNat b + leNat e + 340282366920938463463374607431768211456 from Nat.add_right_comm _ _ _, Nat.add_mod_right]
/-- What is over behind r digits. -/
def ovAt (b e : List UInt8) (r : Nat) : Nat := (leNat (b.take r) + leNat (e.take r)) / 256 ^ r
theorem ovAt_le {b e : List UInt8} (r : Nat) (hb : r ≤ b.length) (he : r ≤ e.length) : ovAt b e r ≤ 1 := by
  have h1 := leNat_lt (b.take r)
  have h2 := leNat_lt (e.take r)
  rw [List.length_take, Nat.min_eq_left hb] at h1
  rw [List.length_take, Nat.min_eq_left he] at h2
  have hp := Nat.pow_pos (n := r) (show 0 < 256 by omega)
  have : ovAt b e r < 2 := by rw [ovAt, Nat.div_lt_iff_lt_mul hp]; omega
  omega
theorem ovAt_succ {b e : List UInt8} {r : Nat} {x y : UInt8} (hx : b[r]? = some x) (hy : e[r]? = some y) : ovAt b e (r + 1) = (x.toNat + y.toNat + ovAt b e r) / 256 := by
  have hb : r < b.length := by rcases Nat.lt_or_ge r b.length with h | h; exact h; rw [List.getElem?_eq_none h] at hx; cases hx
  have he : r < e.length := by rcases Nat.lt_or_ge r e.length with h | h; exact h; rw [List.getElem?_eq_none h] at hy; cases hy
  have hp := Nat.pow_pos (n := r) (show 0 < 256 by omega)
  rw [ovAt, take_snoc_ b r x hx, take_snoc_ e r y hy, leNat_snoc, leNat_snoc, List.length_take, List.length_take, Nat.min_eq_left (by omega), Nat.min_eq_left (by omega), Nat.pow_succ, ← Nat.div_div_eq_div_mul]
  congr 1
  rw [show leNat (b.take r) + 256 ^ r * x.toNat + (leNat (e.take r) + 256 ^ r * y.toNat) = leNat (b.take r) + leNat (e.take r) + 256 ^ r * (x.toNat + y.toNat) by rw [Nat.mul_add]; omega, Nat.add_mul_div_left _ _ hp, ovAt]
  omega
theorem leBytes_get (k x i : Nat) (h : i < k) : (leBytes k x)[i]? = some (UInt8.ofNat (x / 256 ^ i)) := by
  induction k generalizing x i with
  | zero => omega
  | succ k ih =>
    rw [leBytes]
    cases i with
    | zero => simp
    | succ i => rw [List.getElem?_cons_succ, ih _ _ (by omega), Nat.div_div_eq_div_mul, Nat.pow_succ, Nat.mul_comm 256]
theorem digit_sum {b e : List UInt8} {r : Nat} {x y : UInt8} (hx : b[r]? = some x) (hy : e[r]? = some y) : (leNat b + leNat e) / 256 ^ r % 256 = (x.toNat + y.toNat + ovAt b e r) % 256 := by
  have hb : r < b.length := by rcases Nat.lt_or_ge r b.length with h | h; exact h; rw [List.getElem?_eq_none h] at hx; cases hx
  have he : r < e.length := by rcases Nat.lt_or_ge r e.length with h | h; exact h; rw [List.getElem?_eq_none h] at hy; cases hy
  have hp := Nat.pow_pos (n := r) (show 0 < 256 by omega)
  have s1 : ∀ (l : List UInt8) (z : UInt8), r < l.length → l[r]? = some z → leNat l = leNat (l.take r) + 256 ^ r * (z.toNat + 256 * leNat (l.drop (r + 1))) := by
    intro l z hl hz
    conv => lhs; rw [← List.take_append_drop r l]
    rw [leNat_append, List.length_take, Nat.min_eq_left (by omega), List.drop_eq_getElem_cons hl, leNat]
    have : l[r] = z := by simpa [hl] using hz
    rw [this]
  rw [s1 b x hb hx, s1 e y he hy, show leNat (b.take r) + 256 ^ r * (x.toNat + 256 * leNat (b.drop (r + 1))) + (leNat (e.take r) + 256 ^ r * (y.toNat + 256 * leNat (e.drop (r + 1)))) = leNat (b.take r) + leNat (e.take r) + 256 ^ r * (x.toNat + y.toNat + 256 * (leNat (b.drop (r + 1)) + leNat (e.drop (r + 1)))) by simp only [Nat.mul_add]; omega,
    Nat.add_mul_div_left _ _ hp, ← ovAt]
  omega
theorem run_conv_u8_i64 {P : Program} {ev : Operand → Value} {d : Option Tmp} {t T S : TypeId} {s : String} {af : Array Edge} {gd : Option (Nat × Bool)} {w : World} {x : Operand} {a : UInt8} (hs : P.underlying S = some (.int .u8)) (hd : P.underlying T = some (.int .i64)) (h1 : ev x = .int .u8 a.toNat) :
    (execOp ev ⟨d, .convert S T x, t, s, af, gd⟩).run P w = .ok (.value (.int .i64 ((a.toNat : Nat) : Int))) w := by
  have h := a.toNat_lt
  simp only [execOp, h1]
  go_simp
  exact IntWalk.i64_in _ (by omega)
theorem run_addI {P : Program} {ev : Operand → Value} {d : Option Tmp} {t T U : TypeId} {s : String} {af : Array Edge} {gd : Option (Nat × Bool)} {w : World} {x y : Operand} {a b : Nat} (h : a + b < 1000000000) (h1 : ev x = .int .i64 a) (h2 : ev y = .int .i64 b) :
    (execOp ev ⟨d, .binOp .add T x y U, t, s, af, gd⟩).run P w = .ok (.value (.int .i64 ((a + b : Nat) : Int))) w := by
  simp only [execOp, h1, h2]
  go_simp
  exact IntWalk.i64_in _ (by omega)
end Go.Proofs.YtnmhfomnlnlflaaDoor
/- The walk of the document's carry. No condition. -/
namespace Go.Proofs.YtnmhfomnlnlflaaDoor
open Go.RowKit
/-- Numbers as they stand in memory. -/
def i64s (l : List Nat) : List Value := l.map fun (c : Nat) => .int .i64 (c : Int)
@[simp] theorem i64s_length (l : List Nat) : (i64s l).length = l.length := by simp [i64s]
theorem i64s_set (l : List Nat) (i x : Nat) : (i64s l).set i (.int .i64 (x : Int)) = i64s (l.set i x) := by simp [i64s, List.map_set]
theorem i64s_oneCell (l : List Nat) : ∀ u ∈ i64s l, u.oneCell' = true := by
  intro u hu
  simp only [i64s, List.mem_map] at hu
  obtain ⟨c, _, rfl⟩ := hu
  rfl
theorem Arr.i64 {w : World} {g : Nat} {t : TypeId} {s : List Nat} (h : Arr w g t (i64s s)) {a : Nat} (ha : a < s.length) : w.cell? ⟨g, a, none⟩ = some (.int .i64 (s.getD a 0 : Nat)) := by
  refine h.cell ?_
  simp [i64s, List.getD_eq_getElem?_getD, ha]
theorem info34 (l : List Nat) (h : l.length = 34) : (Tryd.prog.info? 148).map (·.size) = some (i64s l).length := by simp only [i64s_length, h]; kernel_rfl
set_option maxRecDepth 100000 in
set_option maxHeartbeats 4000000 in
theorem refCarry_any (a : List Nat) (ha : a.length = 34) (hl : Lt40 a) (w : World) :
    Calls Tryd.prog 95 #[.agg (i64s a).toArray] w fun e w' => e = .returned (.agg (i64s (dig 34 (val256 a))).toArray) ∧ Below w.heap.size w w' := by
  go_enter Tryd.func95, Tryd.ntmps95
  go_wp2_with fail
  generalize hW : (w.alloc _).alloc _ = W
  have hA : Arr W w.heap.size 148 (i64s (crAt a 0).1) := by rw [← hW]; exact (Arr.newAt rfl rfl).alloc _
  have hR : Arr W (w.heap.size + 1) 148 (i64s (List.replicate 34 0)) := by rw [← hW]; exact Arr.newAt (asz _ _) (by kernel_rfl)
  have hB : Below w.heap.size w W := by rw [← hW]; exact ((Below.refl _ _).alloc (Nat.le_refl _) _).alloc (by rw [asz]; omega) _
  clear hW
  go_loopw [3, 4] (fun ov i wr => ∃ r : Nat, r ≤ 34 ∧ i = .int .i64 r ∧ ov = .int .i64 ((crAt a r).2 : Nat) ∧ Arr wr w.heap.size 148 (i64s (crAt a r).1) ∧ Arr wr (w.heap.size + 1) 148 (i64s (List.replicate 34 0)) ∧ Below w.heap.size w wr) (fun _ i _ => 34 - (intOf i).toNat)
  case atStart => exact ⟨0, by omega, rfl, rfl, hA, hR, hB⟩
  case round =>
    obtain ⟨r, hr, rfl, rfl, hA, hR, hB⟩ := hrel
    by_cases hlt : r < 34
    · have hlz : (crAt a r).1.length = 34 := by simp [ha]
      obtain ⟨hLz, hqz⟩ := crAt_lt hl r
      obtain ⟨z, hz⟩ : ∃ z, z = (crAt a r).1 := ⟨_, rfl⟩
      obtain ⟨q, hq⟩ : ∃ q, q = (crAt a r).2 := ⟨_, rfl⟩
      obtain ⟨x, hx⟩ : ∃ x, x = z.getD r 0 := ⟨_, rfl⟩
      obtain ⟨n, hn⟩ : ∃ n, n = x + q := ⟨_, rfl⟩
      have HC : Hid (crAt a (r + 1) = (z.set r (n % 256), n / 256)) := by show _ = _; rw [hn, hx, hz, hq]; rfl
      rw [← hz] at hA hlz hLz
      rw [← hq] at hqz ⊢
      have hxl : x < 1099511627776 := by rw [hx]; exact hLz r
      have c1 := hA.i64 (a := r) (by omega)
      rw [← hx] at c1
      have f1 := hA.frozen r
      have e1 : (x : Int) + (q : Int) = (n : Int) := by omega
      have hnl : n < 2199023255552 := by omega
      clear hz hq hx hn
      go_wp2_with fail
      have h1 := hA.set r (.int .i64 ((n % 256 : Nat) : Int))
      rw [i64s_set] at h1
      refine ⟨⟨r + 1, by omega, by go_num, by rw [HC.out]; rfl, by rw [HC.out]; exact h1, hR.other (by simp only []; omega) _, hB.trans (below_setCell (a := ⟨w.heap.size, r, none⟩) (Nat.le_refl w.heap.size))⟩, by simp [intOf]; omega⟩
    · obtain rfl : r = 34 := by omega
      have hE := crAt_all ha
      obtain ⟨z, hz⟩ : ∃ z, z = (crAt a 34).1 := ⟨_, rfl⟩
      have hlz : z.length = 34 := by rw [hz]; simp [ha]
      rw [← hz] at hA hE
      have HE := Lib.hid hE
      clear hz hE
      simp only [show ((34 : Nat) : Int) = 34 from rfl]
      go_wp2_with first
        | (refine wpList_load_mid rfl 148 (.tmp 1) rfl w.heap.size 0 rfl (i64s z) _ hA.range Tryd.underlying148 rfl (info34 _ hlz) ?_)
        | (refine wpList_put hR rfl 148 (.tmp 2) (.tmp 21) rfl (i64s z) rfl rfl (by simp [hlz]) (info34 _ hlz) (i64s_oneCell _) ?_; intro w2 hR2 hB2 hO2)
      refine bodyPost_ret (results_cell_row rfl _ _ (w.heap.size + 1) _ _ _ _ rfl hR2 Tryd.underlying148 rfl (by have := info34 _ hlz; simpa using this)) rfl ?_
      rw [← HE.out]
      exact ⟨rfl, hB.trans (hB2.mono (by omega))⟩
end Go.Proofs.YtnmhfomnlnlflaaDoor
/- The walks of the document's prime and less. No condition. -/
namespace Go.Proofs.YtnmhfomnlnlflaaDoor
open Go.RowKit
def primeAt : Nat → List Nat
  | 0 => List.replicate 34 0
  | k + 1 => (primeAt k).set k 255
@[simp] theorem primeAt_length (k : Nat) : (primeAt k).length = 34 := by
  induction k with
  | zero => rfl
  | succ k ih => rw [primeAt, List.length_set, ih]
theorem prime_is : ((primeAt 16).set 0 251).set 16 3 = dig 34 P130 := by decide +kernel
set_option maxRecDepth 100000 in
set_option maxHeartbeats 4000000 in
theorem prime_any (w : World) : Calls Tryd.prog 103 #[] w fun e w' => e = .returned (.agg (i64s (dig 34 P130)).toArray) ∧ Below w.heap.size w w' := by
  go_enter Tryd.func103, Tryd.ntmps103
  go_wp2_with fail
  generalize hW : (w.alloc _).alloc _ = W
  have hR : Arr W w.heap.size 148 (i64s (List.replicate 34 0)) := by rw [← hW]; exact (Arr.newAt rfl (by kernel_rfl)).alloc _
  have hA : Arr W (w.heap.size + 1) 148 (i64s (primeAt 0)) := by rw [← hW]; exact Arr.newAt (asz _ _) (by kernel_rfl)
  have hB : Below w.heap.size w W := by rw [← hW]; exact ((Below.refl _ _).alloc (Nat.le_refl _) _).alloc (by rw [asz]; omega) _
  clear hW
  go_loopw [2] (fun i wr => ∃ r : Nat, r ≤ 16 ∧ i = .int .i64 r ∧ Arr wr w.heap.size 148 (i64s (List.replicate 34 0)) ∧ Arr wr (w.heap.size + 1) 148 (i64s (primeAt r)) ∧ Below w.heap.size w wr) (fun i _ => 16 - (intOf i).toNat)
  case atStart => exact ⟨0, by omega, rfl, hR, hA, hB⟩
  case round =>
    obtain ⟨r, hr, rfl, hR, hA, hB⟩ := hrel
    by_cases hlt : r < 16
    · have c1 := hA.i64 (a := r) (by simp; omega)
      have f1 := hA.frozen r
      go_wp2_with fail
      have h1 := hA.set r (.int .i64 ((255 : Nat) : Int))
      rw [i64s_set] at h1
      exact ⟨⟨r + 1, by omega, by go_num, hR.other (by simp only []; omega) _, h1, hB.trans (below_setCell (a := ⟨w.heap.size + 1, r, none⟩) (by simp only []; omega))⟩, by simp [intOf]; omega⟩
    · obtain rfl : r = 16 := by omega
      have hlz : (primeAt 16).length = 34 := by simp
      have hE := prime_is
      obtain ⟨z, hz⟩ : ∃ z, z = primeAt 16 := ⟨_, rfl⟩
      rw [← hz] at hA hE hlz
      have HE := Lib.hid hE
      clear hE hz
      have c0 := hA.i64 (a := 0) (by omega)
      have f0 := hA.frozen 0
      have h1 : Arr (wr.setCell ⟨w.heap.size + 1, 0, none⟩ (.int .i64 251)) (w.heap.size + 1) 148 (i64s (z.set 0 251)) := by
        have t := hA.set 0 (.int .i64 ((251 : Nat) : Int))
        rw [i64s_set] at t
        exact t
      have c16 := h1.i64 (a := 16) (by simp [hlz])
      have f16 := h1.frozen 16
      have h2 : Arr ((wr.setCell ⟨w.heap.size + 1, 0, none⟩ (.int .i64 251)).setCell ⟨w.heap.size + 1, 16, none⟩ (.int .i64 3)) (w.heap.size + 1) 148 (i64s ((z.set 0 251).set 16 3)) := by
        have t := h1.set 16 (.int .i64 ((3 : Nat) : Int))
        rw [i64s_set] at t
        exact t
      have hR2 := (hR.other (a := ⟨w.heap.size + 1, 0, none⟩) (by simp only []; omega) (.int .i64 251)).other (a := ⟨w.heap.size + 1, 16, none⟩) (by simp only []; omega) (.int .i64 3)
      have hB2 := hB.trans ((below_setCell (w := wr) (a := ⟨w.heap.size + 1, 0, none⟩) (v := .int .i64 251) (by simp only []; omega)).trans (below_setCell (a := ⟨w.heap.size + 1, 16, none⟩) (v := .int .i64 3) (by simp only []; omega)))
      have hl2 : ((z.set 0 251).set 16 3).length = 34 := by simp [hlz]
      simp only [show ((16 : Nat) : Int) = 16 from rfl]
      go_wp2_with first
        | (refine wpList_load_mid rfl 148 (.tmp 1) rfl (w.heap.size + 1) 0 rfl (i64s ((z.set 0 251).set 16 3)) _ h2.range Tryd.underlying148 rfl (info34 _ hl2) ?_)
        | (refine wpList_put hR2 rfl 148 (.tmp 0) (.tmp 11) rfl (i64s ((z.set 0 251).set 16 3)) rfl rfl (by simp [hlz]) (info34 _ hl2) (i64s_oneCell _) ?_; intro w2 hR3 hB3 hO3)
      refine bodyPost_ret (results_cell_row rfl _ _ w.heap.size _ _ _ _ rfl hR3 Tryd.underlying148 rfl (by have := info34 _ hl2; simpa using this)) rfl ?_
      rw [← HE.out]
      exact ⟨rfl, hB2.trans (hB3.mono (by omega))⟩
theorem val256_lt {l : List Nat} (h : ∀ i, l.getD i 0 < 256) : ∀ k, k ≤ l.length → val256 (l.take k) < 256 ^ k := by
  intro k
  induction k with
  | zero => intro _; simp [val256]
  | succ k ih =>
    intro hk
    obtain ⟨x, hx⟩ : ∃ x, l[k]? = some x := ⟨_, List.getElem?_eq_getElem (by omega)⟩
    have h1 := h k
    rw [List.getD_eq_getElem?_getD, hx] at h1
    simp only [Option.getD_some] at h1
    have h2 := ih (by omega)
    rw [take_snoc_ l k x hx, val256_snoc, List.length_take, Nat.min_eq_left (by omega), Nat.pow_succ]
    have h3 : 256 ^ k * x ≤ 256 ^ k * 255 := Nat.mul_le_mul_left _ (by omega)
    omega
theorem less_step {a b : List Nat} {k : Nat} (ha : k < a.length) (hb : k < b.length) (hda : ∀ i, a.getD i 0 < 256) (hdb : ∀ i, b.getD i 0 < 256) (hne : a.getD k 0 ≠ b.getD k 0) :
    decide (val256 (a.take (k + 1)) < val256 (b.take (k + 1))) = decide (a.getD k 0 < b.getD k 0) := by
  obtain ⟨x, hx⟩ : ∃ x, a[k]? = some x := ⟨_, List.getElem?_eq_getElem ha⟩
  obtain ⟨y, hy⟩ : ∃ x, b[k]? = some x := ⟨_, List.getElem?_eq_getElem hb⟩
  have ex : a.getD k 0 = x := by rw [List.getD_eq_getElem?_getD, hx]; rfl
  have ey : b.getD k 0 = y := by rw [List.getD_eq_getElem?_getD, hy]; rfl
  rw [ex, ey] at hne ⊢
  have h1 := val256_lt hda k (by omega)
  have h2 := val256_lt hdb k (by omega)
  rw [take_snoc_ a k x hx, take_snoc_ b k y hy, val256_snoc, val256_snoc, List.length_take, List.length_take, Nat.min_eq_left (by omega), Nat.min_eq_left (by omega)]
  rcases Nat.lt_or_gt_of_ne hne with h | h
  · have h3 : 256 ^ k * (x + 1) ≤ 256 ^ k * y := Nat.mul_le_mul_left _ h
    rw [Nat.mul_add] at h3
    rw [decide_eq_true h, decide_eq_true (by omega)]
  · have h3 : 256 ^ k * (y + 1) ≤ 256 ^ k * x := Nat.mul_le_mul_left _ h
    rw [Nat.mul_add] at h3
    rw [decide_eq_false (by omega), decide_eq_false (by omega)]
theorem less_same {a b : List Nat} {k : Nat} (ha : k < a.length) (hb : k < b.length) (he : a.getD k 0 = b.getD k 0) :
    decide (val256 (a.take (k + 1)) < val256 (b.take (k + 1))) = decide (val256 (a.take k) < val256 (b.take k)) := by
  obtain ⟨x, hx⟩ : ∃ x, a[k]? = some x := ⟨_, List.getElem?_eq_getElem ha⟩
  obtain ⟨y, hy⟩ : ∃ x, b[k]? = some x := ⟨_, List.getElem?_eq_getElem hb⟩
  have ex : a.getD k 0 = x := by rw [List.getD_eq_getElem?_getD, hx]; rfl
  have ey : b.getD k 0 = y := by rw [List.getD_eq_getElem?_getD, hy]; rfl
  rw [ex, ey] at he
  subst he
  rw [take_snoc_ a k x hx, take_snoc_ b k x hy, val256_snoc, val256_snoc, List.length_take, List.length_take, Nat.min_eq_left (by omega), Nat.min_eq_left (by omega)]
  congr 1
  rw [eq_iff_iff]
  omega
end Go.Proofs.YtnmhfomnlnlflaaDoor
/- The walk of the document's less. No condition. -/
namespace Go.Proofs.YtnmhfomnlnlflaaDoor
open Go.RowKit
theorem run_neI {P : Program} {ev : Operand → Value} {d : Option Tmp} {t T U : TypeId} {s : String} {af : Array Edge} {gd : Option (Nat × Bool)} {w : World} {x y : Operand} {a b : Nat} {c : Bool} (hc : c = !decide (a = b)) (h1 : ev x = .int .i64 a) (h2 : ev y = .int .i64 b) :
    (execOp ev ⟨d, .binOp .neq T x y U, t, s, af, gd⟩).run P w = .ok (.value (.bool c)) w := by
  subst hc
  simp only [execOp, h1, h2]
  go_simp
  by_cases h : a = b
  · simp [h]
  · simp [h]; omega
theorem run_ltI {P : Program} {ev : Operand → Value} {d : Option Tmp} {t T U : TypeId} {s : String} {af : Array Edge} {gd : Option (Nat × Bool)} {w : World} {x y : Operand} {a b : Nat} (h1 : ev x = .int .i64 a) (h2 : ev y = .int .i64 b) :
    (execOp ev ⟨d, .binOp .lss T x y U, t, s, af, gd⟩).run P w = .ok (.value (.bool (decide (a < b)))) w := by
  simp only [execOp, h1, h2]
  go_simp
set_option maxRecDepth 100000 in
set_option maxHeartbeats 4000000 in
theorem less_any (a b : List Nat) (ha : a.length = 34) (hb : b.length = 34) (hda : ∀ i, a.getD i 0 < 256) (hdb : ∀ i, b.getD i 0 < 256) (w : World) :
    Calls Tryd.prog 104 #[.agg (i64s a).toArray, .agg (i64s b).toArray] w fun e w' => e = .returned (.bool (decide (val256 a < val256 b))) ∧ Below w.heap.size w w' := by
  go_enter Tryd.func104, Tryd.ntmps104
  go_wp2_with fail
  generalize hW : (w.alloc _).alloc _ = W
  have h2 : Arr W w.heap.size 148 (i64s a) := by rw [← hW]; exact (Arr.newAt rfl rfl).alloc _
  have h3 : Arr W (w.heap.size + 1) 148 (i64s b) := by rw [← hW]; exact Arr.newAt (asz _ _) rfl
  have hB : Below w.heap.size w W := by rw [← hW]; exact ((Below.refl _ _).alloc (Nat.le_refl _) _).alloc (by rw [asz]; omega) _
  clear hW
  go_loopw [5] (fun i wr => ∃ r : Nat, r ≤ 34 ∧ i = .int .i64 ((r : Int) - 1) ∧ Hid (decide (val256 a < val256 b) = decide (val256 (a.take r) < val256 (b.take r))) ∧ Arr wr w.heap.size 148 (i64s a) ∧ Arr wr (w.heap.size + 1) 148 (i64s b) ∧ Below w.heap.size w wr) (fun i _ => (intOf i + 1).toNat)
  case atStart =>
    refine ⟨34, by omega, rfl, ?_, h2, h3, hB⟩
    show _ = _
    rw [List.take_of_length_le (by omega), List.take_of_length_le (by omega)]
  case round =>
    obtain ⟨r, hr, rfl, HD, h2, h3, hB⟩ := hrel
    rcases Nat.eq_zero_or_pos r with h0 | h0
    · subst h0
      have hf : decide (val256 a < val256 b) = false := by rw [HD.out]; rfl
      simp only [show ((0 : Nat) : Int) - 1 = -1 from rfl]
      have HF := Lib.hid hf
      clear hf
      go_wp2_with fail
      go_ret
      rw [HF.out]
      exact ⟨rfl, hB⟩
    · obtain ⟨k, rfl⟩ : ∃ k, r = k + 1 := ⟨r - 1, by omega⟩
      have hk : k < 34 := by omega
      rw [show ((k + 1 : Nat) : Int) - 1 = (k : Int) by omega]
      obtain ⟨x, hx⟩ : ∃ x, x = a.getD k 0 := ⟨_, rfl⟩
      obtain ⟨y, hy⟩ : ∃ y, y = b.getD k 0 := ⟨_, rfl⟩
      have c2 := fun (W : World) (h : Arr W w.heap.size 148 (i64s a)) => h.i64 (a := k) (by omega)
      have c3 := fun (W : World) (h : Arr W (w.heap.size + 1) 148 (i64s b)) => h.i64 (a := k) (by omega)
      rw [← hx] at c2
      rw [← hy] at c3
      by_cases hxy : x = y
      · have hs := less_same (a := a) (b := b) (k := k) (by omega) (by omega) (by rw [← hx, ← hy]; exact hxy)
        have HN : Hid (decide (val256 a < val256 b) = decide (val256 (a.take k) < val256 (b.take k))) := by show _ = _; rw [HD.out, hs]
        clear HD hs hx hy
        go_wp2_with fail
        refine wp_region_ssaL (by kernel_rfl) [IsV (.int .i64 (k : Nat)), IsV (.pointer (some ⟨w.heap.size, k, none⟩)), IsV (.int .i64 (x : Nat)), IsV (.int .i64 (k : Nat)), IsV (.pointer (some ⟨w.heap.size + 1, k, none⟩)), IsV (.int .i64 (y : Nat)), IsV (.bool false)] (by kernel_rfl) ?_ ?_ ?_
        · intro φ hφ v w1 w2 h hg
          simp only [List.mem_cons, List.not_mem_nil, or_false] at hφ
          rcases hφ with rfl | rfl | rfl | rfl | rfl | rfl | rfl
          all_goals first | exact h | exact RdV.gr h hg
        · refine ⟨?_, ?_, ?_, ?_, ?_, ?_, ?_, trivial⟩
          · intro a1 w1 hG hF
            exact s_old rfl (wants0 rfl) (.tmp 5) (.inr rfl) (.int .i64 (k : Nat)) (hF.ol 5 (by kernel_rfl)) rfl
          · intro a1 w1 hG hF
            have e2 : a1.eval (.tmp 2) = .pointer (some ⟨w.heap.size, 0, none⟩) := hF.ol 2 (by kernel_rfl)
            obtain ⟨_, e10, rfl⟩ := hF.dp 0 10 (by kernel_rfl)
            exact s_is rfl (wants0 rfl) _ rfl (run_idx Tryd.underlying148 (by kernel_rfl) e2 e10 (by omega))
          · intro a1 w1 hG hF
            obtain ⟨_, e11, rfl⟩ := hF.dp 1 11 (by kernel_rfl)
            exact s_is rfl (wants0 rfl) _ rfl (run_load1 Tryd.underlying3 e11 (c2 _ (h2.gr ((Gr.drew wr).trans hG))))
          · intro a1 w1 hG hF
            exact s_old rfl (wants0 rfl) (.tmp 5) (.inr rfl) (.int .i64 (k : Nat)) (hF.ol 5 (by kernel_rfl)) rfl
          · intro a1 w1 hG hF
            have e3 : a1.eval (.tmp 3) = .pointer (some ⟨w.heap.size + 1, 0, none⟩) := hF.ol 3 (by kernel_rfl)
            obtain ⟨_, e13, rfl⟩ := hF.dp 3 13 (by kernel_rfl)
            exact s_is rfl (wants0 rfl) _ rfl (run_idx Tryd.underlying148 (by kernel_rfl) e3 e13 (by omega))
          · intro a1 w1 hG hF
            obtain ⟨_, e14, rfl⟩ := hF.dp 4 14 (by kernel_rfl)
            exact s_is rfl (wants0 rfl) _ rfl (run_load1 Tryd.underlying3 e14 (c3 _ (h3.gr ((Gr.drew wr).trans hG))))
          · intro a1 w1 hG hF
            obtain ⟨_, e12, rfl⟩ := hF.dp 2 12 (by kernel_rfl)
            obtain ⟨_, e15, rfl⟩ := hF.dp 5 15 (by kernel_rfl)
            exact s_is rfl (wants0 rfl) _ rfl (run_neI (by simp [hxy]) e12 e15)
        · intro vs w1 hG hf
          have z16 : vs 6 = .bool false := hf.2.2.2.2.2.2.1
          clear hf
          simp only [putAll, Nat.zero_add, Nat.reduceAdd, z16]
          replace h2 := h2.gr ((Gr.drew wr).trans hG)
          replace h3 := h3.gr ((Gr.drew wr).trans hG)
          replace hB := hB.trans (((Gr.drew wr).trans hG).mono hB.size)
          clear hG z16 c2 c3 hxy
          go_simp
          go_wp2_with fail
          go_roundw
          case rel => exact ⟨k, by omega, rfl, HN, h2, h3, hB⟩
          case measure => simp [intOf]
      · have hs := less_step (a := a) (b := b) (k := k) (by omega) (by omega) hda hdb (by rw [← hx, ← hy]; exact hxy)
        rw [← hx, ← hy] at hs
        have HN : Hid (decide (val256 a < val256 b) = decide (x < y)) := by show _ = _; rw [HD.out, hs]
        clear HD hs hx hy
        go_wp2_with fail
        refine wp_region_ssaL (by kernel_rfl) [IsV (.int .i64 (k : Nat)), IsV (.pointer (some ⟨w.heap.size, k, none⟩)), IsV (.int .i64 (x : Nat)), IsV (.int .i64 (k : Nat)), IsV (.pointer (some ⟨w.heap.size + 1, k, none⟩)), IsV (.int .i64 (y : Nat)), IsV (.bool true)] (by kernel_rfl) ?_ ?_ ?_
        · intro φ hφ v w1 w2 h hg
          simp only [List.mem_cons, List.not_mem_nil, or_false] at hφ
          rcases hφ with rfl | rfl | rfl | rfl | rfl | rfl | rfl
          all_goals first | exact h | exact RdV.gr h hg
        · refine ⟨?_, ?_, ?_, ?_, ?_, ?_, ?_, trivial⟩
          · intro a1 w1 hG hF
            exact s_old rfl (wants0 rfl) (.tmp 5) (.inr rfl) (.int .i64 (k : Nat)) (hF.ol 5 (by kernel_rfl)) rfl
          · intro a1 w1 hG hF
            have e2 : a1.eval (.tmp 2) = .pointer (some ⟨w.heap.size, 0, none⟩) := hF.ol 2 (by kernel_rfl)
            obtain ⟨_, e10, rfl⟩ := hF.dp 0 10 (by kernel_rfl)
            exact s_is rfl (wants0 rfl) _ rfl (run_idx Tryd.underlying148 (by kernel_rfl) e2 e10 (by omega))
          · intro a1 w1 hG hF
            obtain ⟨_, e11, rfl⟩ := hF.dp 1 11 (by kernel_rfl)
            exact s_is rfl (wants0 rfl) _ rfl (run_load1 Tryd.underlying3 e11 (c2 _ (h2.gr ((Gr.drew wr).trans hG))))
          · intro a1 w1 hG hF
            exact s_old rfl (wants0 rfl) (.tmp 5) (.inr rfl) (.int .i64 (k : Nat)) (hF.ol 5 (by kernel_rfl)) rfl
          · intro a1 w1 hG hF
            have e3 : a1.eval (.tmp 3) = .pointer (some ⟨w.heap.size + 1, 0, none⟩) := hF.ol 3 (by kernel_rfl)
            obtain ⟨_, e13, rfl⟩ := hF.dp 3 13 (by kernel_rfl)
            exact s_is rfl (wants0 rfl) _ rfl (run_idx Tryd.underlying148 (by kernel_rfl) e3 e13 (by omega))
          · intro a1 w1 hG hF
            obtain ⟨_, e14, rfl⟩ := hF.dp 4 14 (by kernel_rfl)
            exact s_is rfl (wants0 rfl) _ rfl (run_load1 Tryd.underlying3 e14 (c3 _ (h3.gr ((Gr.drew wr).trans hG))))
          · intro a1 w1 hG hF
            obtain ⟨_, e12, rfl⟩ := hF.dp 2 12 (by kernel_rfl)
            obtain ⟨_, e15, rfl⟩ := hF.dp 5 15 (by kernel_rfl)
            exact s_is rfl (wants0 rfl) _ rfl (run_neI (by simp [hxy]) e12 e15)
        · intro vs w1 hG hf
          have z16 : vs 6 = .bool true := hf.2.2.2.2.2.2.1
          clear hf
          simp only [putAll, Nat.zero_add, Nat.reduceAdd, z16]
          replace h2 := h2.gr ((Gr.drew wr).trans hG)
          replace h3 := h3.gr ((Gr.drew wr).trans hG)
          replace hB := hB.trans (((Gr.drew wr).trans hG).mono hB.size)
          clear hG z16 hxy
          generalize w1 = W1 at h2 h3 hB ⊢
          go_simp
          go_wp2_with fail
          refine wp_region_ssaL (by kernel_rfl) [IsV (.int .i64 (k : Nat)), IsV (.pointer (some ⟨w.heap.size, k, none⟩)), IsV (.int .i64 (x : Nat)), IsV (.int .i64 (k : Nat)), IsV (.pointer (some ⟨w.heap.size + 1, k, none⟩)), IsV (.int .i64 (y : Nat)), IsV (.bool (decide (x < y))), IsV (.bool (decide (x < y)))] (by kernel_rfl) ?_ ?_ ?_
          · intro φ hφ v w1 w2 h hg
            simp only [List.mem_cons, List.not_mem_nil, or_false] at hφ
            rcases hφ with rfl | rfl | rfl | rfl | rfl | rfl | rfl | rfl
            all_goals first | exact h | exact RdV.gr h hg
          · refine ⟨?_, ?_, ?_, ?_, ?_, ?_, ?_, ?_, trivial⟩
            · intro a1 w1 hG hF
              exact s_old rfl (wants0 rfl) (.tmp 5) (.inr rfl) (.int .i64 (k : Nat)) (hF.ol 5 (by kernel_rfl)) rfl
            · intro a1 w1 hG hF
              have e2 : a1.eval (.tmp 2) = .pointer (some ⟨w.heap.size, 0, none⟩) := hF.ol 2 (by kernel_rfl)
              obtain ⟨_, e17, rfl⟩ := hF.dp 0 17 (by kernel_rfl)
              exact s_is rfl (wants0 rfl) _ rfl (run_idx Tryd.underlying148 (by kernel_rfl) e2 e17 (by omega))
            · intro a1 w1 hG hF
              obtain ⟨_, e18, rfl⟩ := hF.dp 1 18 (by kernel_rfl)
              exact s_is rfl (wants0 rfl) _ rfl (run_load1 Tryd.underlying3 e18 (c2 _ (h2.gr ((Gr.drew W1).trans hG))))
            · intro a1 w1 hG hF
              exact s_old rfl (wants0 rfl) (.tmp 5) (.inr rfl) (.int .i64 (k : Nat)) (hF.ol 5 (by kernel_rfl)) rfl
            · intro a1 w1 hG hF
              have e3 : a1.eval (.tmp 3) = .pointer (some ⟨w.heap.size + 1, 0, none⟩) := hF.ol 3 (by kernel_rfl)
              obtain ⟨_, e20, rfl⟩ := hF.dp 3 20 (by kernel_rfl)
              exact s_is rfl (wants0 rfl) _ rfl (run_idx Tryd.underlying148 (by kernel_rfl) e3 e20 (by omega))
            · intro a1 w1 hG hF
              obtain ⟨_, e21, rfl⟩ := hF.dp 4 21 (by kernel_rfl)
              exact s_is rfl (wants0 rfl) _ rfl (run_load1 Tryd.underlying3 e21 (c3 _ (h3.gr ((Gr.drew W1).trans hG))))
            · intro a1 w1 hG hF
              obtain ⟨_, e19, rfl⟩ := hF.dp 2 19 (by kernel_rfl)
              obtain ⟨_, e22, rfl⟩ := hF.dp 5 22 (by kernel_rfl)
              exact s_is rfl (wants0 rfl) _ rfl (run_ltI e19 e22)
            · intro a1 w1 hG hF
              exact s_same rfl (wants0 rfl) (.tmp 23) (.inl rfl) (hF.dp 6 23 (by kernel_rfl))
          · intro vs w1 hG hf
            have z4 : vs 7 = .bool (decide (x < y)) := hf.2.2.2.2.2.2.2.1
            clear hf
            simp only [putAll, Nat.zero_add, Nat.reduceAdd, z4]
            clear z4
            go_simp
            go_wp2_with fail
            go_ret
            rw [HN.out]
            exact ⟨rfl, hB.trans (((Gr.drew W1).trans hG).mono hB.size)⟩
end Go.Proofs.YtnmhfomnlnlflaaDoor
/- Digits that are put one by one, sums and products of digits, the document's fold: plain Lean. No program, no condition. -/
namespace Go.Proofs.YtnmhfomnlnlflaaDoor
open Go.RowKit
abbrev Q130 : Nat := 1361129467683753853853498429727072845824
theorem set_dig (r n v x : Nat) (hx : x = v / 256 ^ r % 256) : (dig r v ++ List.replicate (n + 1) 0).set r x = dig (r + 1) v ++ List.replicate n 0 := by
  subst hx
  rw [List.set_append_right _ _ (by simp), dig_length, Nat.sub_self, List.replicate_succ, List.set_cons_zero, dig_snoc, List.append_assoc]
  rfl
theorem dig_pad (k j v : Nat) (h : v < 256 ^ k) : dig (k + j) v = dig k v ++ List.replicate j 0 := by
  induction j with
  | zero => simp
  | succ j ih =>
    have h1 : v / 256 ^ (k + j) = 0 := by
      refine Nat.div_eq_of_lt (Nat.lt_of_lt_of_le h (Nat.pow_le_pow_right (by omega) (by omega)))
    rw [← Nat.add_assoc, dig_snoc, ih, h1, List.append_assoc, List.replicate_succ']
theorem dig_mod (k v : Nat) : dig k (v % 256 ^ k) = dig k v := by
  have := dig_add k (v % 256 ^ k) (v / 256 ^ k)
  rw [Nat.mod_add_div] at this
  exact this.symm
theorem val256_set {l : List Nat} {i : Nat} (x : Nat) (h : i < l.length) : val256 (l.set i x) + 256 ^ i * l.getD i 0 = val256 l + 256 ^ i * x := by
  induction l generalizing i with
  | nil => simp at h
  | cons a l ih =>
    cases i with
    | zero => simp [val256]; omega
    | succ i =>
      have h1 := ih (i := i) (by simpa using h)
      rw [List.set_cons_succ, val256, val256, List.getD_cons_succ, Nat.pow_succ, Nat.mul_comm (256 ^ i) 256, Nat.mul_assoc, Nat.mul_assoc]
      omega
theorem val256_take (l : List Nat) (k : Nat) : val256 (l.take (k + 1)) = val256 (l.take k) + 256 ^ k * l.getD k 0 := by
  rcases Nat.lt_or_ge k l.length with h | h
  · obtain ⟨x, hx⟩ : ∃ x, l[k]? = some x := ⟨_, List.getElem?_eq_getElem h⟩
    rw [take_snoc_ l k x hx, val256_snoc, List.length_take, Nat.min_eq_left (by omega), List.getD_eq_getElem?_getD, hx]
    rfl
  · rw [List.take_of_length_le (by omega), List.take_of_length_le (by omega), List.getD_eq_getElem?_getD, List.getElem?_eq_none h]
    simp
/-- c times the k first digits of h, added from place i on. -/
def adAt (l h : List Nat) (c i : Nat) : Nat → List Nat
  | 0 => l
  | k + 1 => (adAt l h c i k).set (i + k) ((adAt l h c i k).getD (i + k) 0 + c * h.getD k 0)
@[simp] theorem adAt_length (l h : List Nat) (c i k : Nat) : (adAt l h c i k).length = l.length := by
  induction k with
  | zero => rfl
  | succ k ih => rw [adAt, List.length_set, ih]
theorem adAt_after (l h : List Nat) (c i k j : Nat) (hj : i + k ≤ j) : (adAt l h c i k).getD j 0 = l.getD j 0 := by
  induction k with
  | zero => rfl
  | succ k ih =>
    rw [adAt, List.getD_eq_getElem?_getD, List.getElem?_set_ne (by omega), ← List.getD_eq_getElem?_getD, ih (by omega)]
theorem adAt_le (l h : List Nat) (c i B : Nat) (hB : ∀ k, c * h.getD k 0 ≤ B) (k j : Nat) : (adAt l h c i k).getD j 0 ≤ l.getD j 0 + B := by
  induction k with
  | zero => exact Nat.le_add_right _ _
  | succ k ih =>
    rw [adAt, List.getD_eq_getElem?_getD, List.getElem?_set]
    by_cases h1 : i + k = j
    · rw [if_pos h1]
      split
      · rw [adAt_after _ _ _ _ _ _ (Nat.le_refl _), Option.getD_some, h1]
        have := hB k
        omega
      · simp
    · rw [if_neg h1, ← List.getD_eq_getElem?_getD]; exact ih
theorem adAt_val (l h : List Nat) (c i k : Nat) (hl : i + k ≤ l.length) : val256 (adAt l h c i k) = val256 l + 256 ^ i * (c * val256 (h.take k)) := by
  induction k with
  | zero => simp [adAt, val256]
  | succ k ih =>
    have h1 := val256_set (l := adAt l h c i k) (i := i + k) ((adAt l h c i k).getD (i + k) 0 + c * h.getD k 0) (by simp; omega)
    rw [Nat.mul_add, ih (by omega)] at h1
    rw [adAt, val256_take, Nat.mul_add, Nat.mul_add]
    have h2 : 256 ^ (i + k) * (c * h.getD k 0) = 256 ^ i * (c * (256 ^ k * h.getD k 0)) := by
      rw [Nat.pow_add, Nat.mul_assoc, Nat.mul_left_comm c]
    omega
/-- The product, i rows of it. -/
def prAt (x h r : List Nat) : Nat → List Nat
  | 0 => x
  | i + 1 => adAt (prAt x h r i) r (h.getD i 0) i 17
@[simp] theorem prAt_length (x h r : List Nat) (i : Nat) : (prAt x h r i).length = x.length := by
  induction i with
  | zero => rfl
  | succ i ih => rw [prAt, adAt_length, ih]
theorem prAt_le (x h r : List Nat) (B : Nat) (hB : ∀ i k, h.getD i 0 * r.getD k 0 ≤ B) (i j : Nat) : (prAt x h r i).getD j 0 ≤ x.getD j 0 + i * B := by
  induction i with
  | zero => show x.getD j 0 ≤ _; omega
  | succ i ih =>
    have := adAt_le (prAt x h r i) r (h.getD i 0) i B (hB i) 17 j
    rw [prAt, Nat.succ_mul]
    omega
theorem prAt_val (x h r : List Nat) (i : Nat) (hl : i + 16 ≤ x.length) : val256 (prAt x h r i) = val256 x + val256 (h.take i) * val256 (r.take 17) := by
  induction i with
  | zero => simp [prAt, val256]
  | succ i ih =>
    rw [prAt, adAt_val _ _ _ _ _ (by simp; omega), ih (by omega), val256_take h, Nat.add_mul, Nat.mul_assoc (256 ^ i), Nat.add_assoc]
/-- One round of the fold. -/
def fo (v : Nat) : Nat := v % Q130 + 5 * (v / Q130)
def foN (v : Nat) : Nat → Nat
  | 0 => v
  | k + 1 => fo (foN v k)
theorem fo_mod (v : Nat) : fo v % P130 = v % P130 := by
  have h1 : v = fo v + P130 * (v / Q130) := by
    have := Nat.mod_add_div v Q130
    unfold fo
    have e : Q130 * (v / Q130) = 5 * (v / Q130) + P130 * (v / Q130) := by rw [← Nat.add_mul, show 5 + P130 = Q130 from rfl]
    omega
  conv => rhs; rw [h1, Nat.add_mul_mod_self_left]
theorem foN_mod (v k : Nat) : foN v k % P130 = v % P130 := by
  induction k with
  | zero => rfl
  | succ k ih => rw [foN, fo_mod, ih]
theorem pow17 : (256 : Nat) ^ 17 = 87112285931760246646623899502532662132736 := by decide +kernel
theorem pow16 : (256 : Nat) ^ 16 = 340282366920938463463374607431768211456 := by decide +kernel
theorem pow34 : (256 : Nat) ^ 34 = 7588550360256754183279148073529370729071901715047420004889892225542594864082845696 := by decide +kernel
theorem foN_lt (v : Nat) (hv : v < 256 ^ 34) : foN v 4 < 2 * P130 := by
  have h1 : foN v 1 < 27876000000000000000000000000000000000000000 * 10 := by
    show v % 1361129467683753853853498429727072845824 + 5 * (v / 1361129467683753853853498429727072845824) < _
    rw [pow34] at hv
    omega
  have h2 : foN v 2 < 1361129467683753853853498429727072845824 + 1100000 := by
    show fo (foN v 1) < _
    generalize foN v 1 = a at h1
    show a % 1361129467683753853853498429727072845824 + 5 * (a / 1361129467683753853853498429727072845824) < _
    omega
  have h3 : foN v 3 < 1361129467683753853853498429727072845824 := by
    show fo (foN v 2) < _
    generalize foN v 2 = a at h2
    show a % 1361129467683753853853498429727072845824 + 5 * (a / 1361129467683753853853498429727072845824) < _
    omega
  show fo (foN v 3) < _
  generalize foN v 3 = a at h3
  show a % 1361129467683753853853498429727072845824 + 5 * (a / 1361129467683753853853498429727072845824) < 2 * 1361129467683753853853498429727072845819
  omega
theorem low16 (v : Nat) : dig 16 v = dig 16 (v % Q130) := by
  have e : v = v % Q130 + 256 ^ 16 * (4 * (v / Q130)) := by
    have := Nat.mod_add_div v Q130
    rw [← Nat.mul_assoc, pow16]
    exact this.symm
  conv => lhs; rw [e, dig_add]
theorem low17 (v : Nat) : v / 256 ^ 16 % 256 % 4 = v % Q130 / 256 ^ 16 % 256 := by
  rw [show Q130 = 256 ^ 16 * 4 by decide +kernel, Nat.mod_mul_right_div_self]
  omega
theorem low34 (v : Nat) : dig 34 (v % Q130) = dig 17 (v % Q130) ++ List.replicate 17 0 := by
  refine dig_pad 17 17 _ ?_
  rw [pow17]
  have := Nat.mod_lt v (show Q130 > 0 by decide)
  have : Q130 = 1361129467683753853853498429727072845824 := rfl
  omega
theorem high_div (v i : Nat) : v / Q130 / 256 ^ i = v / 256 ^ (16 + i) / 4 := by
  rw [show Q130 = 256 ^ 16 * 4 by decide +kernel, ← Nat.div_div_eq_div_mul, Nat.div_div_eq_div_mul _ 4, Nat.mul_comm 4, ← Nat.div_div_eq_div_mul, Nat.div_div_eq_div_mul v, ← Nat.pow_add]
theorem high_dig (v i : Nat) : v / Q130 / 256 ^ i % 256 = v / 256 ^ (16 + i) % 256 / 4 + v / 256 ^ (17 + i) % 256 % 4 * 64 := by
  rw [high_div, show 17 + i = 16 + i + 1 by omega, Nat.pow_succ 256 (16 + i), ← Nat.div_div_eq_div_mul]
  omega
theorem high_last (v : Nat) (h : v < 256 ^ 34) : v / Q130 / 256 ^ 17 % 256 = v / 256 ^ 33 % 256 / 4 := by
  rw [high_div]
  have : v / 256 ^ 33 < 256 := by
    rw [Nat.div_lt_iff_lt_mul (Nat.pow_pos (by omega))]
    rw [show 256 * 256 ^ 33 = 256 ^ 34 by decide +kernel]; exact h
  omega
theorem high34 (v : Nat) (h : v < 256 ^ 34) : dig 34 (v / Q130) = dig 18 (v / Q130) ++ List.replicate 16 0 := by
  refine dig_pad 18 16 _ ?_
  rw [pow34] at h
  have : (256 : Nat) ^ 18 = 22300745198530623141535718272648361505980416 := by decide +kernel
  rw [this]
  show v / 1361129467683753853853498429727072845824 < _
  omega
/-- One round of the document's fold, as digits. -/
theorem fold_val (v : Nat) (h : v < 256 ^ 34) : val256 (adAt (dig 34 (v % Q130)) (dig 34 (v / Q130)) 5 0 34) = fo v := by
  rw [adAt_val _ _ _ _ _ (by simp), List.take_of_length_le (by simp), val256_dig, val256_dig, Nat.pow_zero, Nat.one_mul]
  rw [pow34] at h ⊢
  unfold fo
  rw [Nat.mod_eq_of_lt (show v % Q130 < _ by show v % 1361129467683753853853498429727072845824 < _; omega), Nat.mod_eq_of_lt (show v / Q130 < _ by show v / 1361129467683753853853498429727072845824 < _; omega)]
end Go.Proofs.YtnmhfomnlnlflaaDoor
/- The walk of the document's fold. No condition. -/
namespace Go.Proofs.YtnmhfomnlnlflaaDoor
open Go.RowKit
theorem run_addZ {P : Program} {ev : Operand → Value} {d : Option Tmp} {t T U : TypeId} {s : String} {af : Array Edge} {gd : Option (Nat × Bool)} {w : World} {x y : Operand} {a b c : Int} (h1 : ev x = .int .i64 a) (h2 : ev y = .int .i64 b) (hc : a + b = c) (l1 : -9223372036854775808 ≤ c) (l2 : c ≤ 9223372036854775807) :
    (execOp ev ⟨d, .binOp .add T x y U, t, s, af, gd⟩).run P w = .ok (.value (.int .i64 c)) w := by
  subst hc
  simp only [execOp, h1, h2]
  go_simp
  exact IntWalk.i64_in _ (by omega)
theorem run_subI {P : Program} {ev : Operand → Value} {d : Option Tmp} {t T U : TypeId} {s : String} {af : Array Edge} {gd : Option (Nat × Bool)} {w : World} {x y : Operand} {a b c : Int} (h1 : ev x = .int .i64 a) (h2 : ev y = .int .i64 b) (hc : a - b = c) (l1 : -9223372036854775808 ≤ c) (l2 : c ≤ 9223372036854775807) :
    (execOp ev ⟨d, .binOp .sub T x y U, t, s, af, gd⟩).run P w = .ok (.value (.int .i64 c)) w := by
  subst hc
  simp only [execOp, h1, h2]
  go_simp
  exact IntWalk.i64_in _ (by omega)
theorem run_mulI {P : Program} {ev : Operand → Value} {d : Option Tmp} {t T U : TypeId} {s : String} {af : Array Edge} {gd : Option (Nat × Bool)} {w : World} {x y : Operand} {a b c : Int} (h1 : ev x = .int .i64 a) (h2 : ev y = .int .i64 b) (hc : a * b = c) (l1 : -9223372036854775808 ≤ c) (l2 : c ≤ 9223372036854775807) :
    (execOp ev ⟨d, .binOp .mul T x y U, t, s, af, gd⟩).run P w = .ok (.value (.int .i64 c)) w := by
  subst hc
  simp only [execOp, h1, h2]
  go_simp
  exact IntWalk.i64_in _ (by omega)
theorem run_remI {P : Program} {ev : Operand → Value} {d : Option Tmp} {t T U : TypeId} {s : String} {af : Array Edge} {gd : Option (Nat × Bool)} {w : World} {x : Operand} {a : Nat} {y : Operand} (h1 : ev x = .int .i64 a) (h2 : ev y = .int .i64 4) :
    (execOp ev ⟨d, .binOp .rem T x y U, t, s, af, gd⟩).run P w = .ok (.value (.int .i64 ((a % 4 : Nat) : Int))) w := by
  simp only [execOp, h1, h2]
  go_simp
  exact Int.tmod_eq_emod_of_nonneg (by omega)
/-- Numbers, some below nought, as they stand in memory. -/
def i64z (l : List Int) : List Value := l.map fun (c : Int) => .int .i64 c
theorem i64z_set (l : List Int) (i : Nat) (x : Int) : (i64z l).set i (.int .i64 x) = i64z (l.set i x) := by simp [i64z, List.map_set]
theorem Arr.i64z {w : World} {g : Nat} {t : TypeId} {n : Nat} {f : Nat → Int} (h : Arr w g t (i64z ((List.range n).map f))) {a : Nat} (ha : a < n) : w.cell? ⟨g, a, none⟩ = some (.int .i64 (f a)) := by
  refine h.cell ?_
  simp [Go.Proofs.YtnmhfomnlnlflaaDoor.i64z, ha]
theorem range_set (n : Nat) (f : Nat → Int) (k : Nat) (x : Int) : ((List.range n).map f).set k x = (List.range n).map fun i => if i = k then x else f i := by
  apply List.ext_getElem
  · simp
  · intro i h1 h2
    simp only [List.getElem_set, List.getElem_map, List.getElem_range]
    by_cases h : k = i
    · simp [h]
    · simp [h]; intro h3; exact absurd h3.symm h
theorem dig_range (k v : Nat) : dig k v = (List.range k).map fun i => v / 256 ^ i % 256 := by
  induction k with
  | zero => rfl
  | succ k ih => rw [dig_snoc, ih, List.range_succ, List.map_append]; rfl
theorem i64s_range (n : Nat) (f : Nat → Nat) : i64s ((List.range n).map f) = i64z ((List.range n).map fun i => ((f i : Nat) : Int)) := by
  simp [i64s, i64z]
/-- What is borrowed from place k. -/
def boAt (A p k : Nat) : Nat := if A % 256 ^ k < p % 256 ^ k then 1 else 0
theorem bo_dig (M A p : Nat) (hM : 0 < M) (h : p ≤ A) :
    (A - p) / M % 256 + (if A % M < p % M then 1 else 0) + p / M % 256 = A / M % 256 + 256 * (if A % (M * 256) < p % (M * 256) then 1 else 0) := by
  have a1 : A % (M * 256) = A % M + M * (A / M % 256) := Nat.mod_mul
  have p1 : p % (M * 256) = p % M + M * (p / M % 256) := Nat.mod_mul
  have aq := Nat.mod_add_div A M
  have pq := Nat.mod_add_div p M
  have ar := Nat.mod_lt A hM
  have pr := Nat.mod_lt p hM
  rw [a1, p1]
  generalize A % M = r at *
  generalize p % M = s at *
  generalize A / M = x at *
  generalize p / M = y at *
  have hxy : y ≤ x := by
    rcases Nat.lt_or_ge x y with h1 | h1
    · have := Nat.mul_le_mul_left M (show x + 1 ≤ y by omega)
      rw [Nat.mul_succ] at this
      omega
    · exact h1
  have hlt : (r + M * (x % 256) < s + M * (y % 256)) ↔ (x % 256 < y % 256 ∨ (x % 256 = y % 256 ∧ r < s)) := by
    rcases Nat.lt_trichotomy (x % 256) (y % 256) with h1 | h1 | h1
    · have := Nat.mul_le_mul_left M (show x % 256 + 1 ≤ y % 256 by omega)
      rw [Nat.mul_succ] at this
      constructor
      · intro _; exact .inl h1
      · intro _; omega
    · rw [h1]; omega
    · have := Nat.mul_le_mul_left M (show y % 256 + 1 ≤ x % 256 by omega)
      rw [Nat.mul_succ] at this
      constructor
      · intro _; omega
      · intro _; omega
  have hd : (A - p) / M = if r < s then x - y - 1 else x - y := by
    obtain ⟨z, rfl⟩ : ∃ z, x = y + z := ⟨x - y, by omega⟩
    rw [Nat.mul_add] at aq
    split
    · rename_i h1
      have hz : 1 ≤ z := by
        rcases Nat.eq_zero_or_pos z with h2 | h2
        · subst h2; omega
        · exact h2
      obtain ⟨k, rfl⟩ : ∃ k, z = k + 1 := ⟨z - 1, by omega⟩
      rw [Nat.mul_succ] at aq
      have e : A - p = (M + r - s) + M * k := by omega
      rw [e, Nat.add_mul_div_left _ _ hM, Nat.div_eq_of_lt (by omega)]
      omega
    · have e : A - p = (r - s) + M * z := by omega
      rw [e, Nat.add_mul_div_left _ _ hM, Nat.div_eq_of_lt (by omega)]
      omega
  rw [hd]
  simp only [hlt]
  by_cases h1 : r < s
  · rw [if_pos h1, if_pos h1]
    have hne : x ≠ y := by intro h2; subst h2; omega
    split <;> omega
  · rw [if_neg h1, if_neg h1]
    split <;> omega
theorem bo_step {A p D : Nat} (k : Nat) (h : A = p + D) : D / 256 ^ k % 256 + boAt A p k + p / 256 ^ k % 256 = A / 256 ^ k % 256 + 256 * boAt A p (k + 1) := by
  have := bo_dig (256 ^ k) A p (Nat.pow_pos (by omega)) (by omega)
  rw [← Nat.pow_succ, show A - p = D by omega] at this
  exact this
theorem bo_end {A p D : Nat} (h : A = p + D) (hA : A < 256 ^ 34) : boAt A p 34 = 0 := by
  rw [boAt, Nat.mod_eq_of_lt hA, Nat.mod_eq_of_lt (by omega), if_neg (by omega)]
theorem bo_le (A p k : Nat) : boAt A p k ≤ 1 := by unfold boAt; split <;> omega
/-- The digits while the prime is taken away. -/
def brF (A D b k i : Nat) : Int := if i < k then ((D / 256 ^ i % 256 : Nat) : Int) else if i = k then ((A / 256 ^ i % 256 : Nat) : Int) - (b : Int) else ((A / 256 ^ i % 256 : Nat) : Int)
theorem br_start (A D : Nat) : i64s (dig 34 A) = i64z ((List.range 34).map (brF A D 0 0)) := by
  rw [dig_range, i64s_range]
  congr 2
  funext i
  unfold brF
  rw [if_neg (by omega)]
  split <;> simp
theorem br_end (A D b : Nat) : i64z ((List.range 34).map (brF A D b 34)) = i64s (dig 34 D) := by
  rw [dig_range, i64s_range]
  congr 1
theorem br_low (A D b k x : Nat) (hx : x = D / 256 ^ k % 256) : (fun i => if i = k then (x : Int) else brF A D b k i) = brF A D 0 (k + 1) := by
  subst hx
  funext i
  unfold brF
  by_cases h1 : i = k
  · subst h1; simp
  · rw [if_neg h1]
    by_cases h2 : i < k
    · rw [if_pos h2, if_pos (by omega)]
    · rw [if_neg h2, if_neg h1, if_neg (by omega)]
      split <;> simp
theorem br_borrow (A D b k x : Nat) (hx : x = D / 256 ^ k % 256) (y : Int) (hy : y = ((A / 256 ^ (k + 1) % 256 : Nat) : Int) - 1) (z : Int) :
    (fun i => if i = k + 1 then y else if i = k then (x : Int) else if i = k then z else brF A D b k i) = brF A D 1 (k + 1) := by
  subst hx hy
  funext i
  unfold brF
  by_cases h1 : i = k
  · subst h1; simp
  · by_cases h3 : i = k + 1
    · subst h3; simp
    · rw [if_neg h3, if_neg h1, if_neg h1]
      by_cases h2 : i < k
      · rw [if_pos h2, if_pos (by omega)]
      · rw [if_neg h2, if_neg h1, if_neg (by omega), if_neg h3]
theorem foN_le (v k : Nat) : foN v k ≤ v := by
  induction k with
  | zero => exact Nat.le_refl _
  | succ k ih =>
    refine Nat.le_trans ?_ ih
    rw [foN]
    generalize foN v k = u
    show u % 1361129467683753853853498429727072845824 + 5 * (u / 1361129467683753853853498429727072845824) ≤ u
    omega
theorem dig_get256 (k v i : Nat) : (dig k v).getD i 0 < 256 := by
  rcases Nat.lt_or_ge i k with h | h
  · rw [dig_get k v i h]
    exact Nat.mod_lt _ (by omega)
  · rw [List.getD_eq_getElem?_getD, List.getElem?_eq_none (by simp; omega)]
    show 0 < _
    omega
theorem ad_lt40 (u : Nat) (r : Nat) : Lt40 (adAt (dig 34 (u % Q130)) (dig 34 (u / Q130)) 5 0 r) := by
  intro j
  have h1 := adAt_le (dig 34 (u % Q130)) (dig 34 (u / Q130)) 5 0 1275 (fun k => by have := dig_get256 34 (u / Q130) k; omega) r j
  have h2 := dig_get256 34 (u % Q130) j
  omega
/-- The three loops of one round. -/
theorem set_dig' (r n m v x : Nat) (hm : m = n + 1) (hx : x = v / 256 ^ r % 256) : (dig r v ++ List.replicate m 0).set r x = dig (r + 1) v ++ List.replicate n 0 := by
  subst hm
  exact set_dig r n v x hx
set_option maxRecDepth 20000 in
set_option maxHeartbeats 8000000 in
theorem fold_any (v : Nat) (hv : v < 256 ^ 34) (w : World) :
    Calls Tryd.prog 96 #[.agg (i64s (dig 34 v)).toArray] w fun e w' => e = .returned (.agg (i64s (dig 34 (v % P130))).toArray) ∧ Below w.heap.size w w' := by
  go_enter Tryd.func96, Tryd.ntmps96
  go_wp2_with fail
  generalize hW : (w.alloc _).alloc _ = W
  have hA : Arr W w.heap.size 148 (i64s (dig 34 (foN v 0))) := by rw [← hW]; exact (Arr.newAt rfl rfl).alloc _
  have hR : Arr W (w.heap.size + 1) 148 (i64s (List.replicate 34 0)) := by rw [← hW]; exact Arr.newAt (asz _ _) (by kernel_rfl)
  have hB : Below w.heap.size w W := by rw [← hW]; exact ((Below.refl _ _).alloc (Nat.le_refl _) _).alloc (by rw [asz]; omega) _
  have hSz : W.heap.size = w.heap.size + 2 := by rw [← hW]; simp only [asz]
  clear hW
  obtain ⟨g1, hg1⟩ : ∃ g, g = w.heap.size := ⟨_, rfl⟩
  obtain ⟨g2, hg2⟩ : ∃ g, g = g1 + 1 := ⟨_, rfl⟩
  rw [← hg1] at hA hB hR ⊢
  rw [← hg2] at hR ⊢
  have hlt12 : g1 < g2 := by omega
  have hsz : g2 < W.heap.size := by omega
  have HG1 := Lib.hid hg1
  clear hSz hg1 hg2
  obtain ⟨F, hF⟩ : ∃ F : Nat → List Nat, F = fun r => dig 34 (foN v r) := ⟨_, rfl⟩
  have HF : Hid (∀ r, F r = dig 34 (foN v r)) := by intro r; rw [hF]
  replace hA : Arr W g1 148 (i64s (F 0)) := by rw [HF.out 0]; exact hA
  clear hF
  go_loopw [3] (fun i wr => ∃ r : Nat, r ≤ 4 ∧ i = .int .i64 r ∧ Arr wr g1 148 (i64s (F r)) ∧ Arr wr g2 148 (i64s (List.replicate 34 0)) ∧ g2 < wr.heap.size ∧ Below g1 w wr) (fun i _ => 4 - (intOf i).toNat)
  case atStart => exact ⟨0, by omega, rfl, hA, hR, hsz, hB⟩
  case round =>
    obtain ⟨r, hr, rfl, hA, hR, hsz, hB⟩ := hrel
    by_cases hlt : r < 4
    · obtain ⟨u, hu⟩ : ∃ u, u = foN v r := ⟨_, rfl⟩
      have hul : u < 256 ^ 34 := by rw [hu]; exact Nat.lt_of_le_of_lt (foN_le v r) hv
      have HN : Hid (F (r + 1) = dig 34 (fo u)) := by show _ = _; rw [HF.out, hu]; rfl
      rw [HF.out r, ← hu] at hA
      have HUL := Lib.hid hul
      clear hu hul
      go_wp2_with fail
      generalize hW2 : (wr.alloc _).alloc _ = W2
      obtain ⟨g4, hg4⟩ : ∃ g, g = wr.heap.size := ⟨_, rfl⟩
      obtain ⟨g5, hg5⟩ : ∃ g, g = g4 + 1 := ⟨_, rfl⟩
      simp only [← hg4]
      simp only [← hg5]
      replace hA : Arr W2 g1 148 (i64s (dig 34 u)) := by rw [← hW2]; exact (hA.alloc _).alloc _
      replace hR : Arr W2 g2 148 (i64s (List.replicate 34 0)) := by rw [← hW2]; exact (hR.alloc _).alloc _
      have h4 : Arr W2 g4 148 (i64s (dig 0 u ++ List.replicate 34 0)) := by rw [← hW2, hg4]; exact (Arr.newAt rfl (by kernel_rfl)).alloc _
      have h5 : Arr W2 g5 148 (i64s (List.replicate 34 0)) := by rw [← hW2, hg5, hg4]; exact Arr.newAt (asz _ _) (by kernel_rfl)
      replace hB : Below g1 w W2 := by rw [← hW2]; exact (hB.alloc (by omega) _).alloc (by rw [asz]; omega) _
      have hlt24 : g2 < g4 := by omega
      have hlt45 : g4 < g5 := by omega
      have hsz2 : g5 < W2.heap.size := by rw [← hW2]; simp only [asz]; omega
      clear hW2 hg4 hg5 hsz
      go_simp
      go_loopw [6] (fun i wr => ∃ j : Nat, j ≤ 16 ∧ i = .int .i64 j ∧ Arr wr g1 148 (i64s (dig 34 u)) ∧ Arr wr g2 148 (i64s (List.replicate 34 0)) ∧ Arr wr g4 148 (i64s (dig j u ++ List.replicate (34 - j) 0)) ∧ Arr wr g5 148 (i64s (List.replicate 34 0)) ∧ g5 < wr.heap.size ∧ Below g1 w wr) (fun i _ => 16 - (intOf i).toNat)
      case atStart => exact ⟨0, by omega, rfl, hA, hR, h4, h5, hsz2, hB⟩
      case round =>
        obtain ⟨j, hj, rfl, hA, hR, h4, h5, hsz2, hB⟩ := hrel
        by_cases hlj : j < 16
        · obtain ⟨x, hx⟩ : ∃ x, x = u / 256 ^ j % 256 := ⟨_, rfl⟩
          have c1 := hA.i64 (a := j) (by simp; omega)
          rw [dig_get 34 u j (by omega), ← hx] at c1
          have c4 := h4.i64 (a := j) (by simp; omega)
          have f4 := h4.frozen j
          have h4' := h4.set j (.int .i64 (x : Int))
          rw [i64s_set, set_dig' j (33 - j) (34 - j) u x (by omega) hx] at h4'
          have HX := Lib.hid hx
          clear hx
          go_wp2_with fail
          exact ⟨⟨j + 1, by omega, by go_num, hA.other (by simp only []; omega) _, hR.other (by simp only []; omega) _, by rw [show 34 - (j + 1) = 33 - j by omega]; exact h4', h5.other (by simp only []; omega) _, Nat.lt_of_lt_of_le hsz2 (below_setCell (B := 0) (Nat.zero_le _)).size, hB.trans (below_setCell (a := ⟨g4, j, none⟩) (by simp only []; omega))⟩, by simp [intOf]; omega⟩
        · obtain rfl : j = 16 := by omega
          obtain ⟨x, hx⟩ : ∃ x, x = u / 256 ^ 16 % 256 := ⟨_, rfl⟩
          have c1 := hA.i64 (a := 16) (by simp)
          rw [dig_get 34 u 16 (by omega), ← hx] at c1
          have c4 := h4.i64 (a := 16) (by simp)
          have f4 := h4.frozen 16
          have hx4 : x % 4 = u % Q130 / 256 ^ 16 % 256 := by rw [hx]; exact low17 u
          have h4' := h4.set 16 (.int .i64 ((x % 4 : Nat) : Int))
          rw [i64s_set, low16, set_dig' 16 17 (34 - 16) (u % Q130) (x % 4) (by omega) hx4] at h4'
          have HX := Lib.hid hx
          have HX4 := Lib.hid hx4
          clear hx hx4
          simp only [show ((16 : Nat) : Int) = 16 from rfl]
          go_wp2_with fail
          rw [show ((x % 4 : Nat) : Int) = (x : Int) % 4 by omega] at h4'
          have hsz3 := Nat.lt_of_lt_of_le hsz2 (below_setCell (w := wr) (a := ⟨g4, 16, none⟩) (v := .int .i64 ((x : Int) % 4)) (B := 0) (Nat.zero_le _)).size
          replace hA := hA.other (a := ⟨g4, 16, none⟩) (by simp only []; omega) (.int .i64 ((x : Int) % 4))
          replace hR := hR.other (a := ⟨g4, 16, none⟩) (by simp only []; omega) (.int .i64 ((x : Int) % 4))
          replace h5 : Arr _ g5 148 (i64s (dig 0 (u / Q130) ++ List.replicate (34 - 0) 0)) := h5.other (a := ⟨g4, 16, none⟩) (by simp only []; omega) (.int .i64 ((x : Int) % 4))
          replace hB := hB.trans (below_setCell (w := wr) (a := ⟨g4, 16, none⟩) (v := .int .i64 ((x : Int) % 4)) (by simp only []; omega))
          generalize wr.setCell _ _ = W3 at h4' hsz3 hA hR h5 hB ⊢
          clear hsz2 h4 c1 c4 f4 HX HX4 hj hlj
          rw [show dig (16 + 1) (u % Q130) ++ List.replicate 17 0 = dig 34 (u % Q130) from (low34 u).symm] at h4'
          go_simp
          go_loopw [7] (fun i wr => ∃ j : Nat, j ≤ 18 ∧ i = .int .i64 j ∧ Arr wr g1 148 (i64s (dig 34 u)) ∧ Arr wr g2 148 (i64s (List.replicate 34 0)) ∧ Arr wr g4 148 (i64s (dig 34 (u % Q130))) ∧ Arr wr g5 148 (i64s (dig j (u / Q130) ++ List.replicate (34 - j) 0)) ∧ g5 < wr.heap.size ∧ Below g1 w wr) (fun i _ => 18 - (intOf i).toNat)
          case atStart => exact ⟨0, by omega, rfl, hA, hR, h4', h5, hsz3, hB⟩
          case round =>
            clear hA hR h4' h5 hsz3 hB
            obtain ⟨j, hj, rfl, hA, hR, h4, h5, hsz2, hB⟩ := hrel
            by_cases hlj : j < 18
            · obtain ⟨k, hk⟩ : ∃ k, k = 16 + j := ⟨_, rfl⟩
              obtain ⟨x, hx⟩ : ∃ x, x = u / 256 ^ k % 256 := ⟨_, rfl⟩
              have hkl : k < 34 := by omega
              have e16 : (16 : Int) + (j : Int) = (k : Int) := by omega
              have c1 := hA.i64 (a := k) (by simp; omega)
              rw [dig_get 34 u k hkl, ← hx] at c1
              have c5 := h5.i64 (a := j) (by simp; omega)
              have f5 := h5.frozen j
              have h5' := h5.set j (.int .i64 ((x / 4 : Nat) : Int))
              rw [i64s_set, show ((x / 4 : Nat) : Int) = (x : Int) / 4 by omega] at h5'
              have HX := Lib.hid hx
              have HK := Lib.hid hk
              have hxl : x < 256 := by rw [hx]; exact Nat.mod_lt _ (by omega)
              clear hx hk
              go_wp2_with fail
              · have hsz3 := Nat.lt_of_lt_of_le hsz2 (below_setCell (w := wr) (a := ⟨g5, j, none⟩) (v := .int .i64 ((x : Int) / 4)) (B := 0) (Nat.zero_le _)).size
                replace hA := hA.other (a := ⟨g5, j, none⟩) (by simp only []; omega) (.int .i64 ((x : Int) / 4))
                replace hR := hR.other (a := ⟨g5, j, none⟩) (by simp only []; omega) (.int .i64 ((x : Int) / 4))
                replace h4 := h4.other (a := ⟨g5, j, none⟩) (by simp only []; omega) (.int .i64 ((x : Int) / 4))
                replace hB := hB.trans (below_setCell (w := wr) (a := ⟨g5, j, none⟩) (v := .int .i64 ((x : Int) / 4)) (by simp only []; omega))
                generalize wr.setCell _ _ = W4 at h5' hsz3 hA hR h4 hB ⊢
                clear c1 c5 f5 h5
                obtain ⟨m, hm⟩ : ∃ m, m = 17 + j := ⟨_, rfl⟩
                obtain ⟨y, hy⟩ : ∃ x, x = u / 256 ^ m % 256 := ⟨_, rfl⟩
                have hml : m < 34 := by omega
                have hyl : y < 256 := by rw [hy]; exact Nat.mod_lt _ (by omega)
                have c1 := hA.i64 (a := m) (by simp; omega)
                rw [dig_get 34 u m hml, ← hy] at c1
                have c5 := h5'.i64 (a := j) (by simp; omega)
                have e5 : ((dig j (u / Q130) ++ List.replicate (34 - j) 0).set j (x / 4)).getD j 0 = x / 4 := by
                  rw [List.getD_eq_getElem?_getD, List.getElem?_set_self (by simp; omega)]; rfl
                rw [e5] at c5
                have e17 : (17 : Int) + (j : Int) = ((m : Nat) : Int) := by omega
                refine wp_region_st (by kernel_rfl) [IsV (.int .i64 (j : Nat)), IsV (.int .i64 (j : Nat)), IsV (.pointer (some ⟨g5, j, none⟩)), IsV (.int .i64 ((x / 4) : Nat)), IsV (.int .i64 (j : Nat)), IsV (.int .i64 (m : Nat)), IsV (.pointer (some ⟨g1, m, none⟩)), IsV (.int .i64 (y : Nat)), IsV (.int .i64 ((y % 4) : Nat)), IsV (.int .i64 ((y % 4 * 64) : Nat)), IsV (.int .i64 ((x / 4 + y % 4 * 64) : Nat)), IsV (.pointer (some ⟨g5, j, none⟩))] 12 _ rfl rfl rfl (by kernel_rfl) (by kernel_rfl) ?_ (⟨g5, j, none⟩ : Addr) (.int .i64 ((x / 4 + y % 4 * 64) : Nat)) ?_ ?_ ?_
                · intro φ hφ
                  simp only [List.mem_cons, List.not_mem_nil, or_false] at hφ
                  rcases hφ with rfl | rfl | rfl | rfl | rfl | rfl | rfl | rfl | rfl | rfl | rfl | rfl <;> exact ⟨_, rfl⟩
                · refine ⟨?_, ?_, ?_, ?_, ?_, ?_, ?_, ?_, ?_, ?_, ?_, ?_, trivial⟩
                  · intro a1 w1 hG hF
                    exact d_old rfl (wants0 rfl) (.tmp 7) (.inr rfl) (.int .i64 (j : Nat)) (hF.ol 7 (by kernel_rfl)) rfl
                  · intro a1 w1 hG hF
                    exact d_old rfl (wants0 rfl) (.tmp 7) (.inr rfl) (.int .i64 (j : Nat)) (hF.ol 7 (by kernel_rfl)) rfl
                  · intro a1 w1 hG hF
                    have e5 : a1.eval (.tmp 5) = .pointer (some ⟨g5, 0, none⟩) := hF.ol 5 (by kernel_rfl)
                    obtain ⟨_, e43, rfl⟩ := hF.dp 1 43 (by kernel_rfl)
                    exact d_is rfl (wants0 rfl) _ rfl (run_idx Tryd.underlying148 (by kernel_rfl) e5 e43 (by omega))
                  · intro a1 w1 hG hF
                    obtain ⟨_, e44, rfl⟩ := hF.dp 2 44 (by kernel_rfl)
                    exact d_is rfl (wants0 rfl) _ rfl (run_load1 Tryd.underlying3 e44 ((hG.cell _).trans c5))
                  · intro a1 w1 hG hF
                    exact d_old rfl (wants0 rfl) (.tmp 7) (.inr rfl) (.int .i64 (j : Nat)) (hF.ol 7 (by kernel_rfl)) rfl
                  · intro a1 w1 hG hF
                    obtain ⟨_, e46, rfl⟩ := hF.dp 4 46 (by kernel_rfl)
                    exact d_is rfl (wants0 rfl) _ rfl (run_addZ (a := 17) rfl e46 e17 (by omega) (by omega))
                  · intro a1 w1 hG hF
                    have e1 : a1.eval (.tmp 1) = .pointer (some ⟨g1, 0, none⟩) := hF.ol 1 (by kernel_rfl)
                    obtain ⟨_, e47, rfl⟩ := hF.dp 5 47 (by kernel_rfl)
                    exact d_is rfl (wants0 rfl) _ rfl (run_idx Tryd.underlying148 (by kernel_rfl) e1 e47 (by omega))
                  · intro a1 w1 hG hF
                    obtain ⟨_, e48, rfl⟩ := hF.dp 6 48 (by kernel_rfl)
                    exact d_is rfl (wants0 rfl) _ rfl (run_load1 Tryd.underlying3 e48 ((hG.cell _).trans c1))
                  · intro a1 w1 hG hF
                    obtain ⟨_, e49, rfl⟩ := hF.dp 7 49 (by kernel_rfl)
                    exact d_is rfl (wants0 rfl) _ rfl (run_remI e49 rfl)
                  · intro a1 w1 hG hF
                    obtain ⟨_, e50, rfl⟩ := hF.dp 8 50 (by kernel_rfl)
                    exact d_is rfl (wants0 rfl) _ rfl (run_mulI (b := 64) e50 rfl (by omega) (by omega) (by omega))
                  · intro a1 w1 hG hF
                    obtain ⟨_, e45, rfl⟩ := hF.dp 3 45 (by kernel_rfl)
                    obtain ⟨_, e51, rfl⟩ := hF.dp 9 51 (by kernel_rfl)
                    exact d_is rfl (wants0 rfl) _ rfl (run_addZ e45 e51 (by omega) (by omega) (by omega))
                  · intro a1 w1 hG hF
                    have e5 : a1.eval (.tmp 5) = .pointer (some ⟨g5, 0, none⟩) := hF.ol 5 (by kernel_rfl)
                    obtain ⟨_, e42, rfl⟩ := hF.dp 0 42 (by kernel_rfl)
                    exact d_is rfl (wants0 rfl) _ rfl (run_idx Tryd.underlying148 (by kernel_rfl) e5 e42 (by omega))
                · intro a1 w1 hG hF
                  obtain ⟨_, e53, rfl⟩ := hF.dp 11 53 (by kernel_rfl)
                  obtain ⟨_, e52, rfl⟩ := hF.dp 10 52 (by kernel_rfl)
                  exact ⟨wants0 rfl, run_store1 (by kernel_rfl) e53 e52 (by rw [hG.cell]; exact (Option.isSome_iff_exists.2 ⟨_, c5⟩)) (by rw [hG.frozen]; exact h5'.frozen _)⟩
                intro vs k0 hf
                clear hf
                simp only [putAll, Nat.zero_add, Nat.reduceAdd]
                have hq : x / 4 + y % 4 * 64 = u / Q130 / 256 ^ j % 256 := by rw [hy, HX.out, hm, HK.out, high_dig]
                have h5n := (h5'.dr ⟨k0, rfl⟩).set j (.int .i64 ((x / 4 + y % 4 * 64 : Nat) : Int))
                rw [i64s_set, List.set_set, set_dig' j (33 - j) (34 - j) (u / Q130) _ (by omega) hq] at h5n
                have hAn := (hA.dr ⟨k0, rfl⟩).other (a := ⟨g5, j, none⟩) (by simp only []; omega) (.int .i64 ((x / 4 + y % 4 * 64 : Nat) : Int))
                have hRn := (hR.dr ⟨k0, rfl⟩).other (a := ⟨g5, j, none⟩) (by simp only []; omega) (.int .i64 ((x / 4 + y % 4 * 64 : Nat) : Int))
                have h4n := (h4.dr ⟨k0, rfl⟩).other (a := ⟨g5, j, none⟩) (by simp only []; omega) (.int .i64 ((x / 4 + y % 4 * 64 : Nat) : Int))
                have hBn := (below_dr (B := 0) (w := W4) ⟨k0, rfl⟩).trans (below_setCell (a := ⟨g5, j, none⟩) (v := .int .i64 ((x / 4 + y % 4 * 64 : Nat) : Int)) (Nat.zero_le _))
                have hszn := Nat.lt_of_lt_of_le hsz3 hBn.size
                have hBm := hB.trans ((below_dr ⟨k0, rfl⟩).trans (below_setCell (a := ⟨g5, j, none⟩) (v := .int .i64 ((x / 4 + y % 4 * 64 : Nat) : Int)) (by simp only []; omega)))
                generalize ((W4.drewN k0).setCell _ _) = W5 at h5n hAn hRn h4n hszn hBm ⊢
                clear hBn hA hR h4 h5' hB c1 c5 e5 e17 hq hy hm HX HK e16
                go_simp
                go_wp2_with fail
                go_roundw
                case rel => exact ⟨j + 1, by omega, by go_num, hAn, hRn, h4n, by rw [show 34 - (j + 1) = 33 - j by omega]; exact h5n, hszn, hBm⟩
                case measure => simp [intOf]; omega
              · have hj17 : j = 17 := by omega
                have hq : x / 4 = u / Q130 / 256 ^ j % 256 := by
                  rw [HX.out, HK.out, hj17, high_last u HUL.out]
                rw [set_dig' j (33 - j) (34 - j) (u / Q130) _ (by omega) hq] at h5'
                exact ⟨⟨j + 1, by omega, by go_num, hA.other (by simp only []; omega) _, hR.other (by simp only []; omega) _, h4.other (by simp only []; omega) _, by rw [show 34 - (j + 1) = 33 - j by omega]; exact h5', Nat.lt_of_lt_of_le hsz2 (below_setCell (B := 0) (Nat.zero_le _)).size, hB.trans (below_setCell (by simp only []; omega))⟩, by simp [intOf]; omega⟩
            · obtain rfl : j = 18 := by omega
              rw [show dig 18 (u / Q130) ++ List.replicate (34 - 18) 0 = dig 34 (u / Q130) from (high34 u HUL.out).symm] at h5
              go_wp2_with fail
              go_simp
              go_loopw [8] (fun i wr => ∃ j : Nat, j ≤ 34 ∧ i = .int .i64 j ∧ Arr wr g1 148 (i64s (dig 34 u)) ∧ Arr wr g2 148 (i64s (List.replicate 34 0)) ∧ Arr wr g4 148 (i64s (adAt (dig 34 (u % Q130)) (dig 34 (u / Q130)) 5 0 j)) ∧ Arr wr g5 148 (i64s (dig 34 (u / Q130))) ∧ g5 < wr.heap.size ∧ Below g1 w wr) (fun i _ => 34 - (intOf i).toNat)
              case atStart => exact ⟨0, by omega, rfl, hA, hR, h4, h5, hsz2, hB⟩
              case round =>
                clear hA hR h4 h5 hsz2 hB
                obtain ⟨j, hj, rfl, hA, hR, h4, h5, hsz2, hB⟩ := hrel
                by_cases hlj : j < 34
                · obtain ⟨z, hz⟩ : ∃ z, z = adAt (dig 34 (u % Q130)) (dig 34 (u / Q130)) 5 0 j := ⟨_, rfl⟩
                  obtain ⟨h, hh⟩ : ∃ h, h = dig 34 (u / Q130) := ⟨_, rfl⟩
                  have hzl : z.length = 34 := by rw [hz]; simp
                  have hhl : h.length = 34 := by rw [hh]; simp
                  obtain ⟨x, hx⟩ : ∃ x, x = z.getD j 0 := ⟨_, rfl⟩
                  obtain ⟨y, hy⟩ : ∃ x, x = h.getD j 0 := ⟨_, rfl⟩
                  have hxl : x < 1099511627776 := by rw [hx, hz]; exact ad_lt40 u j j
                  have hyl : y < 256 := by rw [hy, hh]; exact dig_get256 _ _ _
                  have HC : Hid (adAt (dig 34 (u % Q130)) (dig 34 (u / Q130)) 5 0 (j + 1) = z.set j (x + 5 * y)) := by
                    show _ = _
                    rw [adAt, ← hz, ← hh, Nat.zero_add, ← hx, ← hy]
                  have HH := Lib.hid hh
                  rw [← hz] at h4
                  rw [← hh] at h5
                  clear hz hh
                  have c4 := h4.i64 (a := j) (by omega)
                  have c5 := h5.i64 (a := j) (by omega)
                  rw [← hx] at c4
                  rw [← hy] at c5
                  clear hx hy
                  go_wp2_with fail
                  refine wp_region_st (by kernel_rfl) [IsV (.int .i64 (j : Nat)), IsV (.int .i64 (j : Nat)), IsV (.pointer (some ⟨g4, j, none⟩)), IsV (.int .i64 (x : Nat)), IsV (.int .i64 (j : Nat)), IsV (.pointer (some ⟨g5, j, none⟩)), IsV (.int .i64 (y : Nat)), IsV (.int .i64 ((5 * y) : Nat)), IsV (.int .i64 ((x + 5 * y) : Nat)), IsV (.pointer (some ⟨g4, j, none⟩))] 10 _ rfl rfl rfl (by kernel_rfl) (by kernel_rfl) ?_ (⟨g4, j, none⟩ : Addr) (.int .i64 ((x + 5 * y) : Nat)) ?_ ?_ ?_
                  · intro φ hφ
                    simp only [List.mem_cons, List.not_mem_nil, or_false] at hφ
                    rcases hφ with rfl | rfl | rfl | rfl | rfl | rfl | rfl | rfl | rfl | rfl <;> exact ⟨_, rfl⟩
                  · refine ⟨?_, ?_, ?_, ?_, ?_, ?_, ?_, ?_, ?_, ?_, trivial⟩
                    · intro a1 w1 hG hF
                      exact d_old rfl (wants0 rfl) (.tmp 8) (.inr rfl) (.int .i64 (j : Nat)) (hF.ol 8 (by kernel_rfl)) rfl
                    · intro a1 w1 hG hF
                      exact d_old rfl (wants0 rfl) (.tmp 8) (.inr rfl) (.int .i64 (j : Nat)) (hF.ol 8 (by kernel_rfl)) rfl
                    · intro a1 w1 hG hF
                      have e4 : a1.eval (.tmp 4) = .pointer (some ⟨g4, 0, none⟩) := hF.ol 4 (by kernel_rfl)
                      obtain ⟨_, e59, rfl⟩ := hF.dp 1 59 (by kernel_rfl)
                      exact d_is rfl (wants0 rfl) _ rfl (run_idx Tryd.underlying148 (by kernel_rfl) e4 e59 (by omega))
                    · intro a1 w1 hG hF
                      obtain ⟨_, e60, rfl⟩ := hF.dp 2 60 (by kernel_rfl)
                      exact d_is rfl (wants0 rfl) _ rfl (run_load1 Tryd.underlying3 e60 ((hG.cell _).trans c4))
                    · intro a1 w1 hG hF
                      exact d_old rfl (wants0 rfl) (.tmp 8) (.inr rfl) (.int .i64 (j : Nat)) (hF.ol 8 (by kernel_rfl)) rfl
                    · intro a1 w1 hG hF
                      have e5 : a1.eval (.tmp 5) = .pointer (some ⟨g5, 0, none⟩) := hF.ol 5 (by kernel_rfl)
                      obtain ⟨_, e62, rfl⟩ := hF.dp 4 62 (by kernel_rfl)
                      exact d_is rfl (wants0 rfl) _ rfl (run_idx Tryd.underlying148 (by kernel_rfl) e5 e62 (by omega))
                    · intro a1 w1 hG hF
                      obtain ⟨_, e63, rfl⟩ := hF.dp 5 63 (by kernel_rfl)
                      exact d_is rfl (wants0 rfl) _ rfl (run_load1 Tryd.underlying3 e63 ((hG.cell _).trans c5))
                    · intro a1 w1 hG hF
                      obtain ⟨_, e64, rfl⟩ := hF.dp 6 64 (by kernel_rfl)
                      exact d_is rfl (wants0 rfl) _ rfl (run_mulI (a := 5) rfl e64 (by omega) (by omega) (by omega))
                    · intro a1 w1 hG hF
                      obtain ⟨_, e61, rfl⟩ := hF.dp 3 61 (by kernel_rfl)
                      obtain ⟨_, e65, rfl⟩ := hF.dp 7 65 (by kernel_rfl)
                      exact d_is rfl (wants0 rfl) _ rfl (run_addZ e61 e65 (by omega) (by omega) (by omega))
                    · intro a1 w1 hG hF
                      have e4 : a1.eval (.tmp 4) = .pointer (some ⟨g4, 0, none⟩) := hF.ol 4 (by kernel_rfl)
                      obtain ⟨_, e58, rfl⟩ := hF.dp 0 58 (by kernel_rfl)
                      exact d_is rfl (wants0 rfl) _ rfl (run_idx Tryd.underlying148 (by kernel_rfl) e4 e58 (by omega))
                  · intro a1 w1 hG hF
                    obtain ⟨_, e67, rfl⟩ := hF.dp 9 67 (by kernel_rfl)
                    obtain ⟨_, e66, rfl⟩ := hF.dp 8 66 (by kernel_rfl)
                    exact ⟨wants0 rfl, run_store1 (by kernel_rfl) e67 e66 (by rw [hG.cell]; exact (Option.isSome_iff_exists.2 ⟨_, c4⟩)) (by rw [hG.frozen]; exact h4.frozen _)⟩
                  intro vs k0 hf
                  clear hf
                  simp only [putAll, Nat.zero_add, Nat.reduceAdd]
                  have h4n := (h4.dr ⟨k0, rfl⟩).set j (.int .i64 ((x + 5 * y : Nat) : Int))
                  rw [i64s_set, ← HC.out] at h4n
                  have hAn := (hA.dr ⟨k0, rfl⟩).other (a := ⟨g4, j, none⟩) (by simp only []; omega) (.int .i64 ((x + 5 * y : Nat) : Int))
                  have hRn := (hR.dr ⟨k0, rfl⟩).other (a := ⟨g4, j, none⟩) (by simp only []; omega) (.int .i64 ((x + 5 * y : Nat) : Int))
                  have h5n := (h5.dr ⟨k0, rfl⟩).other (a := ⟨g4, j, none⟩) (by simp only []; omega) (.int .i64 ((x + 5 * y : Nat) : Int))
                  rw [HH.out] at h5n
                  have hBn := (below_dr (B := 0) (w := wr) ⟨k0, rfl⟩).trans (below_setCell (a := ⟨g4, j, none⟩) (v := .int .i64 ((x + 5 * y : Nat) : Int)) (Nat.zero_le _))
                  have hszn := Nat.lt_of_lt_of_le hsz2 hBn.size
                  have hBm := hB.trans ((below_dr ⟨k0, rfl⟩).trans (below_setCell (a := ⟨g4, j, none⟩) (v := .int .i64 ((x + 5 * y : Nat) : Int)) (by simp only []; omega)))
                  generalize ((wr.drewN k0).setCell _ _) = W5 at h5n hAn hRn h4n hszn hBm ⊢
                  clear hBn hA hR h4 h5 hB c4 c5 HC HH
                  go_simp
                  go_wp2_with fail
                  go_roundw
                  case rel => exact ⟨j + 1, by omega, by go_num, hAn, hRn, h4n, h5n, hszn, hBm⟩
                  case measure => simp [intOf]; omega
                · obtain rfl : j = 34 := by omega
                  have hc := fun w => refCarry_any (adAt (dig 34 (u % Q130)) (dig 34 (u / Q130)) 5 0 34) (by simp) (ad_lt40 u 34) w
                  rw [fold_val u HUL.out] at hc
                  obtain ⟨z, hz⟩ : ∃ z, z = adAt (dig 34 (u % Q130)) (dig 34 (u / Q130)) 5 0 34 := ⟨_, rfl⟩
                  have hzl : z.length = 34 := by rw [hz]; simp
                  rw [← hz] at hc h4
                  obtain ⟨q, hq⟩ : ∃ q, q = dig 34 (fo u) := ⟨_, rfl⟩
                  have hql : q.length = 34 := by rw [hq]; simp
                  rw [← hq] at hc
                  have HQ := Lib.hid hq
                  obtain ⟨a0, ha0⟩ : ∃ a0, a0 = dig 34 u := ⟨_, rfl⟩
                  have hal : a0.length = 34 := by rw [ha0]; simp
                  rw [← ha0] at hA
                  clear hz hq h5 ha0
                  simp only [show ((34 : Nat) : Int) = 34 from rfl]
                  go_wp2_with first
                    | (refine wpList_load_mid rfl 148 (.tmp 4) rfl g4 0 rfl (i64s z) _ h4.range Tryd.underlying148 rfl (info34 _ hzl) ?_)
                    | (go_at_call 95; refine (hc _).mono ?_; rintro e w6 ⟨rfl, hB6⟩; replace hA := hA.below hB6 hA.lt; replace hR := hR.below hB6 hR.lt; replace hB := hB.trans (hB6.mono (by omega)); replace hsz2 := Nat.lt_of_lt_of_le hsz2 hB6.size; clear hB6)
                    | (refine wpList_put hA rfl 148 (.tmp 1) (.tmp 69) rfl (i64s q) rfl rfl (by rw [i64s_length, i64s_length, hql, hal]) (info34 _ hql) (i64s_oneCell _) ?_; intro w7 hA7 hB7 hO7)
                  refine ⟨⟨r + 1, by omega, by go_num, by rw [HN.out, ← HQ.out]; exact hA7, hO7 _ _ _ (by omega) hR, ?_, hB.trans hB7⟩, by simp [intOf]; omega⟩
                  have := hB7.size
                  omega
    · obtain rfl : r = 4 := by omega
      have hA4 := foN_lt v hv
      have hmod := foN_mod v 4
      obtain ⟨a, ha⟩ : ∃ a, a = foN v 4 := ⟨_, rfl⟩
      rw [HF.out 4, ← ha] at hA
      rw [← ha] at hA4 hmod
      have hal : a < 256 ^ 34 := by rw [ha]; exact Nat.lt_of_le_of_lt (foN_le v 4) hv
      have hPl : P130 < 256 ^ 34 := by decide +kernel
      have hless := fun w => less_any (dig 34 a) (dig 34 P130) (by simp) (by simp) (dig_get256 34 a) (dig_get256 34 P130) w
      rw [val256_dig, val256_dig, Nat.mod_eq_of_lt hal, Nat.mod_eq_of_lt hPl] at hless
      have hprime := fun w => prime_any w
      obtain ⟨p, hp⟩ : ∃ p, p = dig 34 P130 := ⟨_, rfl⟩
      have hpl : p.length = 34 := by rw [hp]; simp
      rw [← hp] at hless hprime
      have HP := Lib.hid hp
      clear hp ha
      by_cases hge : a < P130
      · have hva : a = v % P130 := by rw [← hmod, Nat.mod_eq_of_lt hge]
        simp only [decide_eq_true hge] at hless
        obtain ⟨q, hq⟩ : ∃ q, q = dig 34 a := ⟨_, rfl⟩
        have hql : q.length = 34 := by rw [hq]; simp
        have HQ : Hid (dig 34 (v % P130) = q) := by show _ = _; rw [← hva, hq]
        rw [← hq] at hA hless
        clear hq hva hmod hA4 hal hPl hge
        simp only [show ((4 : Nat) : Int) = 4 from rfl]
        have mk : True := trivial
        go_wp2_with first
          | (go_at_call 103; refine (hprime _).mono ?_; rintro e w6 ⟨rfl, hB6⟩; replace hA := hA.below hB6 hA.lt; replace hR := hR.below hB6 hR.lt; replace hB := hB.trans (hB6.mono (by omega)); replace hsz := Nat.lt_of_lt_of_le hsz hB6.size; clear hB6)
          | (clear mk; refine wpList_new rfl 148 (.tmp 9) (.tmp 70) rfl _ (i64s p) rfl rfl rfl (by simp only [i64s_length, hpl]; rfl) (info34 _ hpl) (i64s_oneCell p) ?_; intro w7 h9 hG7; replace hA := hA.gr hG7; replace hR := hR.gr hG7; replace hB := hB.trans (hG7.mono (by omega)); replace hsz := Nat.lt_of_lt_of_le hsz hG7.size; clear hG7)
          | (refine wpList_load_mid rfl 148 (.tmp 1) rfl g1 0 rfl (i64s q) _ hA.range Tryd.underlying148 rfl (info34 _ hql) ?_)
          | (refine wpList_load_mid rfl 148 (.tmp 9) rfl _ 0 rfl (i64s p) _ h9.range Tryd.underlying148 rfl (info34 _ hpl) ?_)
          | (go_at_call 104; refine (hless _).mono ?_; rintro e w8 ⟨rfl, hB6⟩; replace hA := hA.below hB6 hA.lt; replace hR := hR.below hB6 hR.lt; replace hB := hB.trans (hB6.mono (by omega)); replace hsz := Nat.lt_of_lt_of_le hsz hB6.size; clear hB6)
          | (refine wpList_put hR rfl 148 (.tmp 2) (.tmp 106) rfl (i64s q) rfl rfl (by simp [hql]) (info34 _ hql) (i64s_oneCell _) ?_; intro w2 hR2 hB2 hO2)
        refine bodyPost_ret (results_cell_row rfl _ _ g2 _ _ _ _ rfl hR2 Tryd.underlying148 rfl (by have := info34 _ hql; simpa using this)) rfl ?_
        rw [HQ.out, ← HG1.out]
        exact ⟨rfl, hB.trans (hB2.mono (by omega))⟩
      · have hD : a - P130 = v % P130 := by
          have h1 : P130 ≤ a := by omega
          rw [← hmod]
          have h2 : a % P130 = (a - P130) % P130 := Nat.mod_eq_sub_mod h1
          rw [h2, Nat.mod_eq_of_lt (by omega)]
        obtain ⟨D, hDe⟩ : ∃ D, D = v % P130 := ⟨_, rfl⟩
        have HDe := Lib.hid hDe
        have HD : Hid (a = P130 + D) := by
          show _ = _
          have h1 : P130 ≤ a := by omega
          omega
        simp only [decide_eq_false hge] at hless
        obtain ⟨q, hq⟩ : ∃ q, q = dig 34 a := ⟨_, rfl⟩
        have hql : q.length = 34 := by rw [hq]; simp
        rw [← hq] at hA hless
        have HQ := Lib.hid hq
        have HM := Lib.hid hmod
        have HAL := Lib.hid hal
        clear hq hmod hA4 hge hD hal hPl hDe
        simp only [show ((4 : Nat) : Int) = 4 from rfl]
        have mk : True := trivial
        go_wp2_with first
          | (go_at_call 103; refine (hprime _).mono ?_; rintro e w6 ⟨rfl, hB6⟩; replace hA := hA.below hB6 hA.lt; replace hR := hR.below hB6 hR.lt; replace hB := hB.trans (hB6.mono (by omega)); replace hsz := Nat.lt_of_lt_of_le hsz hB6.size; clear hB6)
          | (clear mk; refine wpList_new rfl 148 (.tmp 9) (.tmp 70) rfl _ (i64s p) rfl rfl rfl (by simp only [i64s_length, hpl]; rfl) (info34 _ hpl) (i64s_oneCell p) ?_; intro w7 h9 hG7; replace hA := hA.gr hG7; replace hR := hR.gr hG7; replace hB := hB.trans (hG7.mono (by omega)); have hsz9 := h9.lt; have hg9 : g2 < w6.heap.size := hsz; clear hG7 hsz)
          | (refine wpList_load_mid rfl 148 (.tmp 1) rfl g1 0 rfl (i64s q) _ hA.range Tryd.underlying148 rfl (info34 _ hql) ?_)
          | (refine wpList_load_mid rfl 148 (.tmp 9) rfl _ 0 rfl (i64s p) _ h9.range Tryd.underlying148 rfl (info34 _ hpl) ?_)
          | (go_at_call 104; refine (hless _).mono ?_; rintro e w8 ⟨rfl, hB6⟩; replace hA := hA.below hB6 hA.lt; replace hR := hR.below hB6 hR.lt; replace h9 := h9.below hB6 h9.lt; replace hB := hB.trans (hB6.mono (by omega)); clear hB6)
        generalize w6.heap.size = g9 at h9 hg9 ⊢
        rw [HQ.out, br_start a D] at hA
        clear hprime hless hql
        go_simp
        go_loopw [10] (fun i wr => ∃ r b : Nat, r ≤ 34 ∧ i = .int .i64 r ∧ Hid (b = boAt a P130 r) ∧ Arr wr g1 148 (i64z ((List.range 34).map (brF a D b r))) ∧ Arr wr g2 148 (i64s (List.replicate 34 0)) ∧ Arr wr g9 148 (i64s p) ∧ Below g1 w wr) (fun i _ => 34 - (intOf i).toNat)
        case atStart => exact ⟨0, 0, by omega, rfl, (by show _ = _; simp [boAt, Nat.mod_one]), hA, hR, h9, hB⟩
        case round =>
          clear hA hR h9 hB
          obtain ⟨r, b, hr, rfl, HB, hA, hR, h9, hB⟩ := hrel
          by_cases hlt : r < 34
          · have hst := bo_step r HD.out
            have hbe := bo_end HD.out HAL.out
            have hb1 := bo_le a P130 (r + 1)
            rw [← HB.out] at hst
            obtain ⟨x, hx⟩ : ∃ x, x = a / 256 ^ r % 256 := ⟨_, rfl⟩
            obtain ⟨y, hy⟩ : ∃ y, y = P130 / 256 ^ r % 256 := ⟨_, rfl⟩
            obtain ⟨d, hd⟩ : ∃ d, d = D / 256 ^ r % 256 := ⟨_, rfl⟩
            obtain ⟨c, hc⟩ : ∃ c, c = boAt a P130 (r + 1) := ⟨_, rfl⟩
            have hbl : b ≤ 1 := by rw [HB.out]; exact bo_le _ _ _
            have hxl : x < 256 := by rw [hx]; exact Nat.mod_lt _ (by omega)
            have hyl : y < 256 := by rw [hy]; exact Nat.mod_lt _ (by omega)
            have hdl : d < 256 := by rw [hd]; exact Nat.mod_lt _ (by omega)
            have hc34 : r = 33 → c = 0 := by intro h; rw [hc, h]; exact hbe
            rw [← hx, ← hy, ← hd, ← hc] at hst
            rw [← hc] at hb1
            have c1 := hA.i64z (a := r) hlt
            rw [show brF a D b r r = (x : Int) - (b : Int) by unfold brF; rw [if_neg (by omega), if_pos rfl, hx]] at c1
            have c9 := h9.i64 (a := r) (by omega)
            have e9 : p.getD r 0 = y := by rw [HP.out, hy]; exact dig_get 34 _ r hlt
            rw [e9] at c9
            clear e9
            obtain ⟨z, hz⟩ : ∃ z : Int, z = (x : Int) - (b : Int) := ⟨_, rfl⟩
            rw [← hz] at c1
            obtain ⟨e, he⟩ : ∃ e : Int, e = z - (y : Int) := ⟨_, rfl⟩
            have heq : e = (d : Int) - 256 * (c : Int) := by omega
            have hzl : -1 ≤ z ∧ z < 256 := by omega
            have HC := Lib.hid hc
            have HX := Lib.hid hd
            have HE := Lib.hid heq
            have H34 := Lib.hid hc34
            obtain ⟨hz1, hz2⟩ := hzl
            have HE2 := Lib.hid he
            have HZ := Lib.hid (And.intro hz1 hz2)
            clear hx hy hd hc hz hst hbe heq hc34 he hz1 hz2
            go_wp2_with fail
            refine wp_region_st (by kernel_rfl) [IsV (.int .i64 (r : Nat)), IsV (.int .i64 (r : Nat)), IsV (.pointer (some ⟨g1, r, none⟩)), IsV (.int .i64 z), IsV (.int .i64 (r : Nat)), IsV (.pointer (some ⟨g9, r, none⟩)), IsV (.int .i64 (y : Nat)), IsV (.int .i64 e), IsV (.pointer (some ⟨g1, r, none⟩))] 9 _ rfl rfl rfl (by kernel_rfl) (by kernel_rfl) ?_ (⟨g1, r, none⟩ : Addr) (.int .i64 e) ?_ ?_ ?_
            · intro φ hφ
              simp only [List.mem_cons, List.not_mem_nil, or_false] at hφ
              rcases hφ with rfl | rfl | rfl | rfl | rfl | rfl | rfl | rfl | rfl <;> exact ⟨_, rfl⟩
            · refine ⟨?_, ?_, ?_, ?_, ?_, ?_, ?_, ?_, ?_, trivial⟩
              · intro a1 w1 hG hF
                exact d_old rfl (wants0 rfl) (.tmp 10) (.inr rfl) (.int .i64 (r : Nat)) (hF.ol 10 (by kernel_rfl)) rfl
              · intro a1 w1 hG hF
                exact d_old rfl (wants0 rfl) (.tmp 10) (.inr rfl) (.int .i64 (r : Nat)) (hF.ol 10 (by kernel_rfl)) rfl
              · intro a1 w1 hG hF
                have e1 : a1.eval (.tmp 1) = .pointer (some ⟨g1, 0, none⟩) := hF.ol 1 (by kernel_rfl)
                obtain ⟨_, e80, rfl⟩ := hF.dp 1 80 (by kernel_rfl)
                exact d_is rfl (wants0 rfl) _ rfl (run_idx Tryd.underlying148 (by kernel_rfl) e1 e80 (by omega))
              · intro a1 w1 hG hF
                obtain ⟨_, e81, rfl⟩ := hF.dp 2 81 (by kernel_rfl)
                exact d_is rfl (wants0 rfl) _ rfl (run_load1 Tryd.underlying3 e81 ((hG.cell _).trans c1))
              · intro a1 w1 hG hF
                exact d_old rfl (wants0 rfl) (.tmp 10) (.inr rfl) (.int .i64 (r : Nat)) (hF.ol 10 (by kernel_rfl)) rfl
              · intro a1 w1 hG hF
                have e9 : a1.eval (.tmp 9) = .pointer (some ⟨g9, 0, none⟩) := hF.ol 9 (by kernel_rfl)
                obtain ⟨_, e83, rfl⟩ := hF.dp 4 83 (by kernel_rfl)
                exact d_is rfl (wants0 rfl) _ rfl (run_idx Tryd.underlying148 (by kernel_rfl) e9 e83 (by omega))
              · intro a1 w1 hG hF
                obtain ⟨_, e84, rfl⟩ := hF.dp 5 84 (by kernel_rfl)
                exact d_is rfl (wants0 rfl) _ rfl (run_load1 Tryd.underlying3 e84 ((hG.cell _).trans c9))
              · intro a1 w1 hG hF
                obtain ⟨_, e82, rfl⟩ := hF.dp 3 82 (by kernel_rfl)
                obtain ⟨_, e85, rfl⟩ := hF.dp 6 85 (by kernel_rfl)
                have hz1 := HZ.out
                have he := HE2.out
                exact d_is rfl (wants0 rfl) _ rfl (run_subI e82 e85 he.symm (by omega) (by omega))
              · intro a1 w1 hG hF
                have e1 : a1.eval (.tmp 1) = .pointer (some ⟨g1, 0, none⟩) := hF.ol 1 (by kernel_rfl)
                obtain ⟨_, e79, rfl⟩ := hF.dp 0 79 (by kernel_rfl)
                exact d_is rfl (wants0 rfl) _ rfl (run_idx Tryd.underlying148 (by kernel_rfl) e1 e79 (by omega))
            · intro a1 w1 hG hF
              obtain ⟨_, e87, rfl⟩ := hF.dp 8 87 (by kernel_rfl)
              obtain ⟨_, e86, rfl⟩ := hF.dp 7 86 (by kernel_rfl)
              exact ⟨wants0 rfl, run_store1 (by kernel_rfl) e87 e86 (by rw [hG.cell]; exact (Option.isSome_iff_exists.2 ⟨_, c1⟩)) (by rw [hG.frozen]; exact hA.frozen _)⟩
            intro vs k0 hf
            clear hf
            simp only [putAll, Nat.zero_add, Nat.reduceAdd]
            have hA' := (hA.dr ⟨k0, rfl⟩).set r (.int .i64 e)
            rw [i64z_set, range_set] at hA'
            have hRn := (hR.dr ⟨k0, rfl⟩).other (a := ⟨g1, r, none⟩) (by simp only []; omega) (.int .i64 e)
            have h9n := (h9.dr ⟨k0, rfl⟩).other (a := ⟨g1, r, none⟩) (by simp only []; omega) (.int .i64 e)
            have hBm := hB.trans ((below_dr ⟨k0, rfl⟩).trans (below_setCell (a := ⟨g1, r, none⟩) (v := .int .i64 e) (Nat.le_refl _)))
            generalize ((wr.drewN k0).setCell _ _) = W1 at hA' hRn h9n hBm ⊢
            clear hA hR h9 hB c1 c9
            have c1 := hA'.i64z (a := r) hlt
            rw [if_pos rfl] at c1
            rcases Nat.lt_or_ge c 1 with h0 | h0
            · have h0 : c = 0 := by omega
              have hed : e = (d : Int) := by rw [HE.out, h0]; simp
              rw [hed, br_low a D b r d HX.out] at hA'
              rw [hed] at c1
              clear hed
              go_simp
              go_wp2_with fail
              go_roundw
              case rel => exact ⟨r + 1, 0, by omega, by go_num, (by show _ = _; rw [← HC.out, h0]), hA', hRn, h9n, hBm⟩
              case measure => simp [intOf]; omega
            · have h1 : c = 1 := by omega
              have hrk : r + 1 < 34 := by
                rcases Nat.lt_or_ge (r + 1) 34 with h2 | h2
                · exact h2
                · have := H34.out (by omega); omega
              obtain ⟨k, hk⟩ : ∃ k, k = r + 1 := ⟨_, rfl⟩
              have ek : (r : Int) + 1 = (k : Int) := by omega
              have hkr : r ≠ k := by omega
              have hkl : k < 34 := by omega
              have hed : e + 256 = (d : Int) := by rw [HE.out, h1]; omega
              have hen : e < 0 := by rw [HE.out, h1]; omega
              have hen2 : -300 ≤ e := by rw [HE.out, h1]; omega
              obtain ⟨y2, hy2⟩ : ∃ y2, y2 = a / 256 ^ k % 256 := ⟨_, rfl⟩
              have hy2l : y2 < 256 := by rw [hy2]; exact Nat.mod_lt _ (by omega)
              have hA2 := hA'.set r (.int .i64 (d : Int))
              rw [i64z_set, range_set] at hA2
              have c2 := hA2.i64z (a := k) hkl
              rw [if_neg (by omega), if_neg (by omega), show brF a D b r k = (y2 : Int) by unfold brF; rw [if_neg (by omega), if_neg (by omega), hy2]] at c2
              have f1 := hA'.frozen r
              have f2 := hA2.frozen k
              have hA3 := hA2.set k (.int .i64 ((y2 : Int) - 1))
              have hbb := br_borrow a D b r d HX.out ((y2 : Int) - 1) (by rw [hy2, hk]) e
              rw [← hk] at hbb
              rw [i64z_set, range_set, hbb] at hA3
              have hcb : c = boAt a P130 k := by rw [HC.out, hk]
              have HCC := Lib.hid hcb
              have H1 := Lib.hid h1
              have HKK := Lib.hid hk
              clear hbb hy2 hk hcb h1 hlt
              go_wp2_with fail
              refine ⟨⟨k, 1, by omega, rfl, (by show _ = _; rw [← HCC.out, H1.out]), by rw [HKK.out] at hA3 ⊢; exact hA3, (hRn.other (by simp only []; omega) _).other (by simp only []; omega) _, (h9n.other (by simp only []; omega) _).other (by simp only []; omega) _, hBm.trans ((below_setCell (a := ⟨g1, r, none⟩) (Nat.le_refl g1)).trans (below_setCell (a := ⟨g1, k, none⟩) (Nat.le_refl g1)))⟩, by simp [intOf]; omega⟩
          · obtain rfl : r = 34 := by omega
            rw [br_end] at hA
            obtain ⟨q, hq⟩ : ∃ q, q = dig 34 D := ⟨_, rfl⟩
            have hql : q.length = 34 := by rw [hq]; simp
            rw [← hq] at hA
            have HQ := Lib.hid hq
            clear hq
            simp only [show ((34 : Nat) : Int) = 34 from rfl]
            go_wp2_with first
              | (refine wpList_load_mid rfl 148 (.tmp 1) rfl g1 0 rfl (i64s q) _ hA.range Tryd.underlying148 rfl (info34 _ hql) ?_)
              | (refine wpList_put hR rfl 148 (.tmp 2) (.tmp 106) rfl (i64s q) rfl rfl (by simp [hql]) (info34 _ hql) (i64s_oneCell _) ?_; intro w2 hR2 hB2 hO2)
            refine bodyPost_ret (results_cell_row rfl _ _ g2 _ _ _ _ rfl hR2 Tryd.underlying148 rfl (by have := info34 _ hql; simpa using this)) rfl ?_
            rw [← HDe.out, ← HQ.out, ← HG1.out]
            exact ⟨rfl, hB.trans (hB2.mono (by omega))⟩
end Go.Proofs.YtnmhfomnlnlflaaDoor
