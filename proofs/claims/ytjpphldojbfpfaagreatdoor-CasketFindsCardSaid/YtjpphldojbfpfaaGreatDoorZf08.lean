/- Texts of one proof, laid as one: part 8. No condition. -/
import Derived.RangeFuncNested
import Derived.RangeFuncBound
import Derived.RangeFuncCalls
import Derived.RangeFuncLeaves
import Derived.Shelf.Abstract
import Derived.Shelf.RegionOpen
import Derived.WalkKit
import Derived.OwnWalkIn
import Derived.TacticsInMore
import Derived.LoopNIn
import Derived.LoopIn
import Derived.RangeFuncStops
import Derived.RangeFuncMany
import Derived.Sort.MapsRangeIn
import Derived.Maps.AppendAt
import Derived.Great.BuildSlice
import Derived.Test.YtjpphldojbfpfaaGreatDoorZf01
import Derived.Test.YtjpphldojbfpfaaGreatDoorZf02
import Derived.Test.YtjpphldojbfpfaaGreatDoorZf07
namespace Go.Proofs.YtjpphldojbfpfaaGreatDoor
open Go.RowKit
theorem wpList_loadT {P : Program} {ops : Array Oper} {Q : Exit → Act → World → Prop} {rest : List Oper} {o : Oper} {a : Act} {w : World} (hw : Region.wanted o (yielded ops a.tmps) = true) (ty : TypeId) (x : Operand) (ho : o.op = .load ty x) (b off : Nat) (hx : a.eval x = .pointer (some ⟨b, off, none⟩)) (cs : List Value) (hc : w.rangeAt b off cs)
    {d : TypeDesc} (hu : P.underlying ty = some d) (hd : d.isRow = true) (hi : (P.info? ty).map (·.size) = some cs.length) (h : wpList P ops Q rest (a.put o.dst (.agg cs.toArray)) w) : wpList P ops Q (o :: rest) a w := by
  refine wpList_valW hw _ w ?_ h; simp only [execOp, ho, hx, Sem.run_bind, run_loadAt_mid w b off ty cs d hc hu hd hi, Result.andThen_ok, Sem.run_pure]
set_option maxRecDepth 100000 in
set_option maxHeartbeats 4000000 in
theorem hasP_any {c : CtxM} {d : DotM} {M : Option Addr} {m cM : Nat} {w : World} (hc : OkC c) (hd : rightD d) (hM : DotsR w M m c.more) :
    Calls Tryz.prog 114 #[.agg (ctxC c M m cM).toArray, .agg (encD d).toArray] w fun e w' => e = .returned (.bool (decide (hasC c d))) ∧ Gr w w' := by
  obtain ⟨r, hr⟩ : ∃ r, r = decide (hasC c d) := ⟨_, rfl⟩; have HI := Lib.hid (infoCtx hc.len M m cM); have H1 : Hid (∀ w1, Gr w w1 → Calls Tryz.prog 121 #[.agg (ctxC c M m cM).toArray] w1 fun e w' => e = .returned (.int .i64 0) ∧ Gr w1 w') := Lib.hid (fun w1 h => check_any hc (hM.gr h)); have H2 := Lib.hid (right_any d hd); have H3 : Hid (∀ w1, Gr w w1 → Calls Tryz.prog 144 #[.agg (ctxC c M m cM).toArray, .agg (encD d).toArray] w1 fun e w' => e = .returned (.bool r) ∧ Gr w1 w') := Lib.hid (fun w1 h => by rw [hr]; exact has_any hc hd (hM.gr h)); rw [← hr]; obtain ⟨C, hC⟩ : ∃ C, C = ctxC c M m cM := ⟨_, rfl⟩; rw [← hC] at HI H1 H3 ⊢; clear hC hr hc hM hd; have hA0 : Arr (w.alloc (.cells C.toArray 42)) w.heap.size 42 C := Arr.newAt rfl rfl; have hsz : (w.alloc (.cells C.toArray 42)).heap.size = w.heap.size + 1 := Array.size_push _; have hA3 : Arr ((w.alloc (.cells C.toArray 42)).alloc (.cells (encD d).toArray 38)) (w.heap.size + 1) 38 (encD d) := by rw [← hsz]; exact Arr.newAt rfl rfl
  have hA2 := hA0.gr (Gr.alloc (w.alloc (.cells C.toArray 42)) (.cells (encD d).toArray 38)); have hG : Gr w ((w.alloc (.cells C.toArray 42)).alloc (.cells (encD d).toArray 38)) := (Gr.alloc _ _).trans (Gr.alloc _ _); clear hA0 hsz
  go_enter Tryz.func114, Tryz.ntmps114
  go_upto_region 1 with fail
  change Code.wp _ _ _ _ ((w.alloc (.cells C.toArray 42)).alloc (.cells (encD d).toArray 38)); generalize (w.alloc (.cells C.toArray 42)).alloc (.cells (encD d).toArray 38) = w5 at hA2 hA3 hG ⊢; generalize w.heap.size + 1 = g3 at hA3 ⊢; generalize w.heap.size = g2 at hA2 ⊢
  go_wp2_with first
    | (refine wpList_loadT rfl 42 (.tmp 2) rfl g2 0 rfl C (Arr.range hA2) Tryz.underlying42 rfl HI.out ?_)
    | (refine wpList_loadT rfl 38 (.tmp 3) rfl g3 0 rfl (encD d) (Arr.range hA3) Tryz.underlying38 rfl (infoDot d) ?_)
    | (go_at_call 121; refine (H1.out w5 hG).mono ?_; rintro e w6 ⟨rfl, hG6⟩; replace hA2 := hA2.gr hG6; replace hA3 := hA3.gr hG6)
    | (go_at_call 143; refine (H2.out w6).mono ?_; rintro e w7 ⟨rfl, hG7⟩; replace hA2 := hA2.gr hG7; replace hA3 := hA3.gr hG7)
    | (go_at_call 144; refine (H3.out w7 (hG.trans (hG6.trans hG7))).mono ?_; rintro e w8 ⟨rfl, hG8⟩)
  go_ret
  exact ⟨rfl, hG.trans (hG6.trans (hG7.trans hG8))⟩
theorem dots_cells {w : World} {A : Option Addr} {n : Nat} {L : List DotM} (h : DotsR w A n L) : ∀ j u, (L.flatMap encD)[j]? = some u → ∃ ad, A = some ad ∧ w.cell? (ad.add j) = some u := by
  intro j u hu; have e0 : j = j / 2 * 2 + j % 2 := by omega
  have hj : j % 2 < 2 := Nat.mod_lt _ (by omega); rw [e0, flat_get encD_length L (j / 2) (j % 2) hj] at hu; cases hx : L[j / 2]? with
  | none => rw [hx] at hu; cases hu
  | some d =>
    rw [hx] at hu; obtain ⟨b, o, rfl, hr⟩ := h.2 _ d hx; refine ⟨_, rfl, ?_⟩; have := hr (j % 2) u hu; rw [add_row]; rw [show o + j = o + j / 2 * 2 + j % 2 by omega]; exact this
end Go.Proofs.YtjpphldojbfpfaaGreatDoor
namespace Go.Proofs.YtjpphldojbfpfaaGreatDoor
open Go.RowKit
theorem infoDt : (Tryz.prog.info? 38).map (fun i => (i.size, i.bytes, i.zero.map (·.cells.size))) = some (2, 16, some 2) := by kernel_rfl
theorem infoDt_parts : ∃ i z, Tryz.prog.info? 38 = some i ∧ i.zero = some z ∧ i.size = 2 ∧ i.bytes = 16 ∧ z.cells.size = 2 := by
  cases hie : Tryz.prog.info? 38 with
  | none => have := infoDt; rw [hie] at this; cases this
  | some ie =>
    have hq := infoDt; rw [hie] at hq; simp only [Option.map_some, Option.some.injEq, Prod.mk.injEq] at hq; obtain ⟨q1, q2, q3⟩ := hq; cases hz : ie.zero with
    | none => rw [hz] at q3; cases q3
    | some z =>
      rw [hz] at q3; exact ⟨ie, z, rfl, hz, q1, q2, by simpa using q3⟩
theorem dots_len (L : List DotM) : (L.flatMap encD).length = L.length * 2 := by
  induction L with
  | nil => rfl
  | cons d L ih => rw [List.flatMap_cons, List.length_append, ih, List.length_cons, encD_length]; omega
theorem dots_one (L : List DotM) : ∀ u ∈ L.flatMap encD, u.oneCell' = true := by
  intro u hu; obtain ⟨d, _, hx⟩ := List.mem_flatMap.1 hu; exact encD_one d u hx
def OwnD (w : World) (B : Nat) (A : Option Addr) (n c : Nat) (L : List DotM) : Prop := w.ownsRow B 38 2 (.slice A n c) n (L.flatMap encD)
theorem OwnD.len {w : World} {B : Nat} {A : Option Addr} {n c : Nat} {L : List DotM} (h : OwnD w B A n c L) : L.length = n := by
  have := h.1; rw [dots_len] at this; omega
theorem OwnD.dots {w : World} {B : Nat} {A : Option Addr} {n c : Nat} {L : List DotM} (h : OwnD w B A n c L) : DotsR w A n L := dots_own h h.len
theorem OwnD.nil (w : World) (B : Nat) : OwnD w B none 0 0 [] := ⟨rfl, .inl ⟨rfl, rfl⟩⟩
theorem OwnD.nil0 {w : World} {B : Nat} {A : Option Addr} {n c : Nat} {L : List DotM} (h : OwnD w B A n c L) : A = none → c = 0 := by
  intro e; rcases h.2 with ⟨e1, _⟩ | ⟨g, cap, cur, e1, _⟩
  · injection e1
  · injection e1 with e1
    rw [e] at e1; cases e1
theorem OwnD.gr {w w' : World} {B : Nat} {A : Option Addr} {n c : Nat} {L : List DotM} (h : OwnD w B A n c L) (hG : Gr w w') : OwnD w' B A n c L := Gr.own hG h
set_option maxHeartbeats 2000000 in
set_option maxRecDepth 100000 in
theorem cloneD_any {A : Option Addr} {n c : Nat} {L : List DotM} {w : World} (hL : DotsR w A n L) (hn : n ≤ 100000) (hA0 : A = none → c = 0) :
    Calls Tryz.prog 115 #[.slice A n c] w fun e w' => ∃ A' c', e = .returned (.slice A' n c') ∧ OwnD w' w.heap.size A' n c' L ∧ (n = 0 → c' = 0) ∧ Gr w w' := by
  obtain ⟨iD, zD, hiD, hz0, hz1, hz2, hz3⟩ := infoDt_parts; cases A with
  | none =>
    have hL0 : L = [] := by
      cases L with
      | nil => rfl
      | cons d L =>
        obtain ⟨b, o, e, _⟩ := hL.2 0 d rfl; cases e
    have hn0 : n = 0 := by rw [← hL.1, hL0]; rfl
    have hc0 := hA0 rfl; subst hn0 hL0 hc0; clear hL hA0; have he : ∀ w : World, (binOp .eql 40 (.slice none 0 0) (.slice none 0 0)).run Tryz.prog w = .ok (.bool true) w := fun _ => rfl
    go_enter Tryz.func115, Tryz.ntmps115
    go_wp2_with fail
    go_ret
    exact ⟨none, 0, rfl, OwnD.nil _ _, fun _ => rfl, Gr.refl _⟩
  | some ad =>
    have hc := dots_cells (hL.gr (Gr.alloc w (.cells #[] 38))); have hlen : (L.flatMap encD).length = n * 2 := by rw [dots_len, hL.1]
    have hoe := own_emptyE (w := w) 38 2 (Nat.le_refl _); clear hL hA0; have he : ∀ w : World, (binOp .eql 40 (.slice (some ad) n c) (.slice none 0 0)).run Tryz.prog w = .ok (.bool false) w := fun _ => rfl
    by_cases hn0 : n = 0
    · subst hn0; have hnil : L.flatMap encD = [] := List.length_eq_zero_iff.1 (by rw [hlen]); have hrun : ∀ w1 : World, (Builtin.append_ #[40, 40] 40 #[.slice (some ⟨w.heap.size, 0, none⟩) 0 0, .slice (some ad) 0 c]).run Tryz.prog w1 = .ok (.slice (some ⟨w.heap.size, 0, none⟩) 0 0) w1 := fun w1 => run_append_nothing w1 40 40 40 38 iD Tryz.underlying40 hiD _ 0 0 (Nat.le_refl _) _ (Src.ofSlice w1 Tryz.underlying40 ad 0 c [] (by simp) (fun j u h => by simp at h) (fun u h => by cases h)); have HO : Hid (OwnD (w.alloc (.cells #[] 38)) w.heap.size (some ⟨w.heap.size, 0, none⟩) 0 0 L) := Lib.hid (by unfold OwnD; rw [hnil]; exact hoe); have HG := Lib.hid (Gr.alloc w (.cells #[] 38)); clear hoe hc hlen hnil
      go_enter Tryz.func115, Tryz.ntmps115
      go_wp2_with (at_builtin; go_must (refine wpList_valW rfl (.slice (some ⟨w.heap.size, 0, none⟩) 0 0) _ (by simp only [execOp, resolve, invoke, builtin, List.map_toArray, List.map_cons, List.map_nil, Sem.run_bind, Sem.run_pure, Result.andThen_ok]; exact congrArg (fun r => r.andThen fun a w' => Result.ok (Next.value a) w') (hrun _)) ?_))
      go_ret
      exact ⟨_, 0, rfl, HO.out, fun _ => rfl, HG.out⟩
    · go_enter Tryz.func115, Tryz.ntmps115
      go_wp2_with (at_builtin; go_must (refine wpList_clone rfl (.tmp 5) (.tmp 6) 40 rfl w.heap.size 38 iD zD 2 16 Tryz.underlying40 hiD hz0 hz1 hz2 hz3 (by omega) rfl hoe (some ad) n c _ rfl hlen hc (dots_one L) (by unfold maxLen; omega) (by omega) (Gr.alloc w _).size ?_; intro A3 c3 w3 ho3 hG3))
      go_ret
      exact ⟨A3, c3, rfl, ho3, fun h => absurd h hn0, (Gr.alloc w _).trans hG3⟩
end Go.Proofs.YtjpphldojbfpfaaGreatDoor
namespace Go.Proofs.YtjpphldojbfpfaaGreatDoor
open Go.RowKit
attribute [local go_sem] Oper.semAt_some
section
variable {F : Fence} {n : Nat} {P : Program} {ops : Array Oper} {Q : Exit → Act → World → Prop} {a : Act} {w : World} {rest : List Oper} {op : Oper}
theorem wpListIn_store_mid (hgd : op.guard = none) (ty : TypeId) (x y : Operand) (ho : op.op = .store ty x y) (b o : Nat) (cells : Array Value) (hx : a.eval x = .pointer (some ⟨b, o, none⟩)) (hy : a.eval y = .agg cells)
    (ht : w.there b o cells.size) (hi : (P.info? ty).map (·.size) = some cells.size) (h1 : cells.all (·.oneCell') = true)
    (h : wpListIn F n P ops Q rest (a.put op.dst undef) (w.setCells b o cells.toList)) : wpListIn F n P ops Q (op :: rest) a w := by
  refine wpListIn_plain hgd fun K hK => ?_; unfold Oper.wpIn; refine ⟨by simp [Oper.about, ho], ?_⟩; rw [Oper.semAt_plain F _ _ (by rw [ho]; intro c hc; cases hc)]; simp only [execOp, ho, hx, hy, Sem.run_bind, run_storeAt_mid w b o ty cells ht hi h1, Result.andThen_ok, Sem.run_pure]; exact hK _ _ h
theorem wpListIn_new {C : Array Value} {t : TypeId} (hgd : op.guard = none) (ty : TypeId) (x y : Operand) (ho : op.op = .store ty x y)
    (b : Nat) (vs : List Value) (hx : a.eval x = .pointer (some ⟨b, 0, none⟩)) (hy : a.eval y = .agg vs.toArray) (hb : b = w.heap.size) (hn : C.size = vs.length)
    (hi : (P.info? ty).map (·.size) = some vs.length) (h1 : ∀ v ∈ vs, v.oneCell' = true)
    (h : ∀ w2, Arr w2 b t vs → Gr w w2 → w.grownBy w2 none → wpListIn F n P ops Q rest (a.put op.dst undef) w2) : wpListIn F n P ops Q (op :: rest) a (w.alloc (.cells C t)) := by
  subst hb; refine wpListIn_store_mid hgd ty x y ho w.heap.size 0 vs.toArray hx hy (there_new _ _ _ _ (by simpa using hn) _ rfl) (by simpa using hi) (all_oneCell_toArray h1) ?_; have hG : Gr w ((w.alloc (.cells C t)).setCells w.heap.size 0 vs) := ((Below.refl _ _).alloc (Nat.le_refl _) _).trans (below_setCells (Nat.le_refl _) _ _ _); exact h _ (Arr.newSet rfl (by simpa using hn.symm)) hG ⟨hG.os, hG.tape, hG.output, hG.size, fun k hk _ => hG.block k hk⟩
end
theorem arr_own {β : Type} (B : Nat) (t : TypeId) (f : β → List Value) : Own (fun s W => Arr W B t (f s)) := fun s X Y row hs hg hrow => by
  have hb : X.heap[B]? = some (.cells (f s).toArray t (0, 0)) := hs; exact (hg.block B (Array.getElem?_eq_some_iff.1 hb).1 (fun e => by obtain ⟨o, ho, hc⟩ := hrow B e.symm; rw [hb] at ho; cases ho; cases hc)).trans hb
theorem newCells (W : World) (t : TypeId) (cs : List Value) : ∀ j u, cs[j]? = some u → (W.alloc (.cells cs.toArray t)).cell? ((⟨W.heap.size, 0, none⟩ : Addr).add j) = some u := fun j u h => by
  rw [show (⟨W.heap.size, 0, none⟩ : Addr).add j = ⟨W.heap.size, j, none⟩ by simp [Addr.add]; exact fun h => h.symm]; rw [cell_of_row (W.alloc (.cells cs.toArray t)) W.heap.size j cs.toArray t (0, 0) (World.alloc_heap_new W _)]; simpa using h
end Go.Proofs.YtjpphldojbfpfaaGreatDoor
namespace Go.Proofs.YtjpphldojbfpfaaGreatDoor
open Go.RowKit
attribute [local go_sem] Oper.semAt_some
section
variable {F : Fence} {n : Nat} {P : Program} {ops : Array Oper} {Q : Exit → Act → World → Prop} {a : Act} {w : World} {rest : List Oper} {op : Oper}
theorem wpListIn_loadT (hgd : op.guard = none) (ty : TypeId) (x : Operand) (ho : op.op = .load ty x) (b off : Nat) (hx : a.eval x = .pointer (some ⟨b, off, none⟩)) (cs : List Value) (hc : w.rangeAt b off cs)
    {d : TypeDesc} (hu : P.underlying ty = some d) (hd : d.isRow = true) (hi : (P.info? ty).map (·.size) = some cs.length) (h : wpListIn F n P ops Q rest (a.put op.dst (.agg cs.toArray)) w) : wpListIn F n P ops Q (op :: rest) a w := by
  refine wpListIn_plain hgd fun K hK => ?_; unfold Oper.wpIn; refine ⟨by simp [Oper.about, ho], ?_⟩; rw [Oper.semAt_plain F _ _ (by rw [ho]; intro c hc; cases hc)]; simp only [execOp, ho, hx, Sem.run_bind, run_loadAt_mid w b off ty cs d hc hu hd hi, Result.andThen_ok, Sem.run_pure]; exact hK _ _ h
end
def KeepB (B : Nat) (W W' : World) : Prop := (∀ k, k < B → W'.heap[k]? = W.heap[k]?) ∧ W.heap.size ≤ W'.heap.size
theorem KeepB.trans {B : Nat} {U V W : World} (h : KeepB B U V) (k : KeepB B V W) : KeepB B U W := ⟨fun i hi => (k.1 i hi).trans (h.1 i hi), Nat.le_trans h.2 k.2⟩
theorem KeepB.of_gr {B : Nat} {W W' : World} (hB : B ≤ W.heap.size) (h : Gr W W') : KeepB B W W' := ⟨fun k hk => h.block k (Nat.lt_of_lt_of_le hk hB), h.size⟩
theorem KeepB.dots {W W' : World} {A : Option Addr} {n : Nat} {L : List DotM} (hK : KeepB W.heap.size W W') (h : DotsR W A n L) : DotsR W' A n L :=
  ⟨h.1, fun i x hx => by
    obtain ⟨b, o, e, hr⟩ := h.2 i x hx; exact ⟨b, o, e, fun j u hu => (World.cell?_of_block (hK.1 _ (lt_of_cell (hr j u hu)))).trans (hr j u hu)⟩⟩
def aggD (d : DotM) : Value := .agg (encD d).toArray
set_option maxRecDepth 100000 in
set_option maxHeartbeats 4000000 in
theorem values_in (F : Fence) (n : Nat) (hf : F.fn 189) (hro : F.round = none) (hn : 1 ≤ n) (l Bm k c : Nat) (A : Option Addr) (L : List DotM) (hk : k ≤ 100000) (J Jx : List DotM → World → Prop) (w0 : World)
    (hY : ∀ pre x W, J pre W → pre.length < k → YieldAt F (n - 1) Tryz.prog l #[aggD x] W fun e W' =>
      (e = .returned (.bool true) ∧ J (pre ++ [x]) W' ∧ KeepB w0.heap.size W W') ∨ (e = .returned (.bool false) ∧ Jx (pre ++ [x]) W'))
    (W : World) (hJ : AbidesFrom W.heap.size J) (hW : KeepB w0.heap.size w0 W) (hm : w0.cell? ⟨Bm, 0, none⟩ = some (.slice A k c)) (hL : DotsR w0 A k L) (h0 : J [] W) :
    CallsIn F n Tryz.prog 189 #[.func (.yield l) #[] #[], .pointer (some ⟨Bm, 0, none⟩)] W fun e W' => (∃ v, e = .returned v) ∧
      ((∃ ss : List DotM, ss = L ∧ J ss W') ∨ (∃ pre : List DotM, True ∧ Jx pre W')) := by
  have HL := Lib.hid hL; have HLen := Lib.hid hL.1; have HW := Lib.hid hW; have HC : Hid (∀ W1, KeepB w0.heap.size w0 W1 → W1.cell? ⟨Bm, 0, none⟩ = some (.slice A k c)) := Lib.hid (fun W1 h => (World.cell?_of_block (h.1 _ (lt_of_cell hm))).trans hm); have hcW := HC.out W hW; clear hL hW hm; refine callsIn_of_wp Tryz.func189 rfl hf ?_ hro; try simp only [Tryz.ntmps189, List.size_toArray, List.length_cons, List.length_nil, Nat.reduceAdd, Nat.reduceSub, Array.replicate_succ, Array.replicate_zero, List.push_toArray, List.append_toArray, List.nil_append, List.cons_append]
  gi_wp2
  try go_frame
  gi_loopw [7] (fun v wr => ∃ i : Nat, i ≤ k ∧ v = .int .i64 (i : Int) ∧ J (L.take i) wr ∧ KeepB w0.heap.size w0 wr) (fun v _ => k - (intOf v).toNat)
  case atStart => exact ⟨0, Nat.zero_le _, rfl, by rw [List.take_zero]; exact h0, HW.out⟩
  case round =>
    obtain ⟨i, hi, rfl, hJi, hK⟩ := hrel
    by_cases hlt : i < k
    · have c1 : (i : Int) < (k : Int) := by omega
      obtain ⟨x, hx⟩ : ∃ x, L[i]? = some x := ⟨_, List.getElem?_eq_getElem (by rw [HLen.out]; exact hlt)⟩; obtain ⟨bA, oA, rfl, hr⟩ := (KeepB.dots hK HL.out).2 i x hx; have htk : L.take i ++ [x] = L.take (i + 1) := by rw [List.take_add_one, hx]; rfl
      have hll : (L.take i).length < k := by rw [List.length_take]; omega
      have HT := Lib.hid htk; clear hx htk
      gi_wp2_with (first
        | (refine wpListIn_loadT rfl _ _ rfl bA (oA + i * 2) rfl (encD x) hr Tryz.underlying38 rfl (infoDot x) ?_)
        | (refine wpListIn_new (w := wr) (t := 38) rfl _ _ _ rfl wr.heap.size (encD x) rfl rfl rfl (by kernel_rfl) (infoDot x) (encD_one x) ?_
           intro w3 hA3 hG3 hg3; have hJ3 : J (L.take i) w3 := hJ (L.take i) wr w3 none hJi hg3 (fun r e => by cases e); have hY3 : YieldAt F (n - 1) Tryz.prog l #[.agg (encD x).toArray] w3 _ := hY (L.take i) x w3 hJ3 hll; have hK3 : KeepB w0.heap.size w0 w3 := hK.trans (KeepB.of_gr hK.2 hG3); obtain ⟨fn, tmps, assign, body, hy, hR⟩ := hY3)
        | (refine wpListIn_loadT rfl _ _ rfl wr.heap.size 0 rfl (encD x) (Arr.range hA3) Tryz.underlying38 rfl (infoDot x) ?_)
        | gi_in)
      refine hR.mono ?_; rintro e W3 (⟨rfl, hJ4, hk3⟩ | ⟨rfl, hJx3⟩)
      · rw [HT.out] at hJ4; have hK4 := hK3.trans hk3
        gi_wp2
        exact ⟨⟨i + 1, by omega, by simp, hJ4, hK4⟩, by simp only [intOf]; omega⟩
      · gi_wp2
        refine bodyPost_ret (results_none rfl _ _ _) rfl ?_; exact ⟨⟨_, rfl⟩, .inr ⟨_, trivial, hJx3⟩⟩
    · have c1 : ¬ (i : Int) < (k : Int) := by omega
      rw [List.take_of_length_le (by have := HLen.out; omega)] at hJi
      gi_wp2
      go_end0
      exact ⟨⟨_, rfl⟩, .inl hJi⟩
theorem values_stops (F : Fence) (n : Nat) (hf : F.fn 189) (hro : F.round = none) (hn : 1 ≤ n) (Bm k c : Nat) (A : Option Addr) (L : List DotM) (hk : k ≤ 100000) (w : World) (hm : w.cell? ⟨Bm, 0, none⟩ = some (.slice A k c)) (hL : DotsR w A k L) :
    SeqStopsK F n Tryz.prog 189 #[.pointer (some ⟨Bm, 0, none⟩)] (fun d : DotM => #[aggD d]) (KeepB w.heap.size) (fun ss => ss = L) (fun _ => True) k w := fun l J Jx W hW hJ _ hY h0 =>
  values_in F n hf hro hn l Bm k c A L hk J Jx w hY W hJ (KeepB.of_gr (Nat.le_refl _) hW) hm hL h0
set_option maxRecDepth 100000 in
theorem values_new (F : Fence) (n : Nat) (hf : F.fn 176) (hro : F.round = none) (A : Option Addr) (k c : Nat) (w : World) :
    CallsIn F n Tryz.prog 176 #[.slice A k c] w fun e w' => e = .returned (.func (.func 189) #[] #[.pointer (some ⟨w.heap.size, 0, none⟩)]) ∧ w' = w.alloc (.cells #[.slice A k c] 40) := by
  refine callsIn_of_wp Tryz.func176 rfl hf ?_ hro; try simp only [Tryz.ntmps176, List.size_toArray, List.length_cons, List.length_nil, Nat.reduceAdd, Nat.reduceSub, Array.replicate_succ, Array.replicate_zero, List.push_toArray, List.append_toArray, List.nil_append, List.cons_append]
  gi_wp2
  go_ret
  exact ⟨rfl, rfl⟩
end Go.Proofs.YtjpphldojbfpfaaGreatDoor
namespace Go.Proofs.YtjpphldojbfpfaaGreatDoor
open Go.RowKit
attribute [local go_sem] Oper.semAt_some
section
variable {ev : Operand → Value} {d : Option Tmp} {t : TypeId} {p : String} {af : Array Edge} {gd : Option (Nat × Bool)} {w : World} {x : Operand}
set_option maxRecDepth 100000 in
theorem run_buildD {X : DotM} (h1 : ev x = .agg (encD X).toArray) :
    (execOp ev ⟨d, .buildSlice 40 1 #[(0, x)], t, p, af, gd⟩).run Tryz.prog w = .ok (.value (.slice (some ⟨w.heap.size, 0, none⟩) 1 1)) (w.alloc (.cells (encD X).toArray 38)) := by
  obtain ⟨ie, z, hie, hz, q1, _, q3⟩ := infoDt_parts
  have hf : ∀ C : Array Value, C.size = 2 → Instr.fill (fun i => some (i * ie.size, ie.size)) C [(0, .agg (encD X).toArray)] = some (encD X).toArray := by
    intro C hC; rw [fill_step (fun i => some (i * ie.size, ie.size)) C 0 (.agg (encD X).toArray) (encD X) 0 (by simp [q1, encD_length]) rfl [] (by simp [encD_length, hC])]; simp only [Instr.fill]; rw [List.drop_of_length_le (by simp [encD_length, hC])]; simp
  have h := run_buildSlice (P := Tryz.prog) w 40 38 1 #[(0, .agg (encD X).toArray)] (encD X).toArray ie z Tryz.underlying40 hie hz (by rw [q1]; omega) (by rw [q1]; omega) (hf _ (by simp [q1])); simp only [execOp, List.map_toArray, List.map_cons, List.map_nil, h1, Sem.run_bind, h, Result.andThen_ok, Sem.run_pure]
end
section
variable {F : Fence} {n : Nat} {ops : Array Oper} {Q : Exit → Act → World → Prop} {a : Act} {w : World} {rest : List Oper} {op : Oper}
theorem wpListIn_buildD {X : DotM} (hgd : op.guard = none) (x : Operand) (ho : op.op = .buildSlice 40 1 #[(0, x)]) (h1 : a.eval x = .agg (encD X).toArray)
    (h : wpListIn F n Tryz.prog ops Q rest (a.put op.dst (.slice (some ⟨w.heap.size, 0, none⟩) 1 1)) (w.alloc (.cells (encD X).toArray 38))) : wpListIn F n Tryz.prog ops Q (op :: rest) a w := by
  refine wpListIn_plain hgd fun K hK => ?_; obtain ⟨d, o, t, p, af, gd⟩ := op; simp only at ho; subst ho; unfold Oper.wpIn; refine ⟨by simp [Oper.about], ?_⟩; rw [Oper.semAt_plain F _ _ (by intro c hc; cases hc), run_buildD h1]; exact hK _ _ h
end
theorem flatD_snoc (L : List DotM) (x : DotM) : (L ++ [x]).flatMap encD = L.flatMap encD ++ encD x := by rw [List.flatMap_append, List.flatMap_singleton]
theorem infoDz : (Tryz.prog.info? 38).map (fun i => (i.zero, i.size, i.bytes)) = some (some (.agg #[.int .i64 0, .int .i64 0]), 2, 16) := by kernel_rfl
theorem KeepB.put {B l : Nat} {W : World} {o : Obj} (h : B ≤ l) : KeepB B W (W.putObj l o) := ⟨fun k hk => World.putObj_heap_other (by omega), by simp⟩
theorem own_put {w : World} {B : Nat} {e : TypeId} {size : Nat} {v : Value} {n D : Nat} {xs : List Value} {o o2 : Obj} (h : w.ownsRow B e size v n xs) (hD : w.heap[D]? = some o) (ho : o.isCells = false) : (w.putObj D o2).ownsRow B e size v n xs := by
  refine ⟨h.1, ?_⟩; rcases h.2 with h2 | ⟨g, cap, cur, e1, h1, h2, h3⟩
  · exact .inl h2
  · refine .inr ⟨g, cap, cur, e1, h1, ?_, h3⟩; rw [World.putObj_heap_other ?_]
    · exact h2
    · intro e2; subst e2; rw [h2] at hD; injection hD with hD
      subst hD; cases ho
def SeqQ (L : List DotM) (k : Nat) (w : World) (e : Ending) (w' : World) : Prop := ∃ (A : Option Addr) (c : Nat), e = .returned (.slice A k c) ∧ OwnD w' w.heap.size A k c L ∧ Below w.heap.size w w'
set_option maxRecDepth 100000 in
set_option maxHeartbeats 8000000 in
theorem append_in (F : Fence) (n : Nat) (hro : F.round = none) (hn : 6 ≤ n) (hw : ∀ f, F.fn f) (Bm k c : Nat) (A : Option Addr) (L : List DotM) (hk : k ≤ 100000) (w : World) (hm : w.cell? ⟨Bm, 0, none⟩ = some (.slice A k c)) (hL : DotsR w A k L) :
    CallsIn F n Tryz.prog 192 #[.slice none 0 0, .func (.func 189) #[] #[.pointer (some ⟨Bm, 0, none⟩)]] w (SeqQ L k w) := by
  have h1 : 1 ≤ n := by omega
  obtain ⟨i0, hi, hz0, hz1, hz2⟩ := info_parts infoDz; have hlen := hL.1; refine callsIn_of_wp_marks Tryz.func192 rfl (hw _) ?_ hro; try simp only [Tryz.ntmps192, List.size_toArray, List.length_cons, List.length_nil, Nat.reduceAdd, Nat.reduceSub, Array.replicate_succ, Array.replicate_zero, List.push_toArray, List.append_toArray, List.nil_append, List.cons_append]
  gi_wp2
  have bO := Boxed.new w 40 (.slice none 0 0); have hB0 : Below w.heap.size w (w.alloc (.cells #[.slice none 0 0] 40)) := (Below.refl _ w).alloc (Nat.le_refl _) _; have hsz0 : (w.alloc (.cells #[.slice none 0 0] 40)).heap.size = w.heap.size + 1 := by simp
  obtain ⟨W0, hW0⟩ : ∃ W0, w.alloc (.cells #[.slice none 0 0] 40) = W0 := ⟨_, rfl⟩; rw [hW0] at bO hB0 hsz0 ⊢; clear hW0
  refine wpIn_rangeFunc_ownH hro h1 (gf := 189) (lb := #[.pointer (some ⟨Bm, 0, none⟩)]) rfl (hw _) (enters_of Tryz.func189 (by kernel_rfl) rfl)
    (encs := fun d : DotM => #[aggD d]) (Kp := KeepB w.heap.size) (values_stops F (n - 1) (hw _) hro (by omega) Bm k c A L hk w hm hL) KeepB.trans (fun W l o o' h1 _ _ _ => KeepB.put (by omega)) hB0 (fun _ => rfl)
    (fun pre W => (∃ v, Boxed W w.heap.size 40 v ∧ W.ownsRow w.heap.size 38 2 v pre.length (pre.flatMap encD) ∧ True) ∧ Below w.heap.size w W)
    (fun _ _ _ => False)
    (OwnFrom.and (Own.from (holdsRow_own w.heap.size w.heap.size 40 38 2 (fun pre : List DotM => pre.length) (fun pre : List DotM => pre.flatMap encD) (fun pre v => True)) _) (ownFrom_below (Nat.le_refl _) (by omega)))
    (fun _ _ _ _ _ hs _ _ => hs)
    ⟨⟨_, bO, World.ownsRow_nil _ _ _ _, trivial⟩, hB0⟩
    (fun x a' W => ∃ Bx, w.heap.size < Bx ∧ Arr W Bx 38 (encD x) ∧ a' = { tmps := #[.slice none 0 0, .func (.func 189) #[] #[.pointer (some ⟨Bm, 0, none⟩)], .pointer (some ⟨w.heap.size, 0, none⟩), undef, .slice none 0 0, .pointer (some ⟨Bx, 0, none⟩), .func (.func 189) #[] #[.pointer (some ⟨Bm, 0, none⟩)], aggD x, undef, undef, undef, undef, undef], defers := [] })
    (fun x a' _ X Y row hs hg hr => by obtain ⟨Bx, h1, h2, h3⟩ := hs; exact ⟨Bx, h1, arr_own Bx 38 (fun (_ : Unit) => encD x) () X Y row h2 hg (fun r e => (hr r e).2), h3⟩)
    ?assign ?body ?done ?stop
  case assign =>
    rintro l pre x W K ⟨⟨v, bO1, hrow, _⟩, hB1⟩ hK
    gi_wp2_with (first
      | (refine wpListIn_new (w := W) (t := 38) rfl _ _ _ rfl W.heap.size (encD x) rfl rfl rfl (by kernel_rfl) (infoDot x) (encD_one x) ?_
         intro w3 hA3 hG3 hg3)
      | gi_in)
    exact hK _ _ ((KeepsOthers.of_grownBy hg3 (fun j o e => by cases e)).from _) (KeepB.of_gr hB1.size hG3) ⟨⟨v, bO1.kept hg3 (by simp), hrow.kept hg3 (by cases v.ownBlock <;> simp), trivial⟩, hB1.trans (hG3.mono hB1.size)⟩ ⟨W.heap.size, bO1.lt, hA3, rfl⟩
  case body =>
    rintro l pre x a' W hl ⟨r, hr⟩ ⟨⟨v, bO1, hrow, _⟩, hB1⟩ ⟨Bx, hBx, hX, rfl⟩ hlt; have cO := bO1.cell; have fO := bO1.frozen
    gi_wp2_with (first
      | (refine wpListIn_loadT rfl _ _ rfl Bx 0 rfl (encD x) (Arr.range hX) Tryz.underlying38 rfl (infoDot x) ?_)
      | (refine wpListIn_buildD (X := x) rfl _ rfl rfl ?_)
      | (gi_at_builtin
         refine wpListIn_append_own _ rfl _ _ 40 rfl w.heap.size 38 i0 (.agg #[.int .i64 0, .int .i64 0]) 2 16 Tryz.underlying40 hi hz0 hz1 hz2 (by kernel_rfl) (by decide) _ _ _ rfl (hrow.alloc _) ⟨W.heap.size, 0, none⟩ 1 1 (encD x) rfl rfl (newCells W 38 (encD x)) (encD_one x) (Nat.le_trans (m := 1000001) (by omega) (by decide)) (by omega) (Nat.le_trans hB1.size (by simp)) ?_; intro v' w1 hown' hgrow _; obtain ⟨g', cap', rfl⟩ := ownsRow_succ hown'; obtain ⟨hv1, hv2, hr2, hk2, hb2⟩ := bO1.appended (by decide) hrow hB1.size (Nat.le_refl _) hown' hgrow; have hc1 := hv1.cell; have hf1 := hv1.frozen))
    exact ⟨hk2.from _, ⟨fun k hk => hb2.block k hk, hb2.size⟩, ⟨⟨_, hv2, by rw [flatD_snoc, List.length_append]; exact hr2⟩, hB1.trans hb2⟩⟩
  case done =>
    rintro D ss W hD hS ⟨⟨v, bO1, hrow, _⟩, hB1⟩ hK; have cO := bO1.cell
    gi_wp2
    refine ⟨by simp, .inl ⟨_, _, rfl, run_takeDeferred hK, ?_⟩⟩; refine ⟨_, results_tmp rfl _ _ _, ?_⟩; rw [hS, hlen] at hrow; have hbe := hB1.trans (belowK_b (w := w) (Nat.le_refl _) _ D _ (.deferred none) (by omega) hK rfl rfl); have hrow2 := own_put (o2 := .deferred none) hrow hK rfl; rcases hrow.2 with ⟨rfl, hz⟩ | ⟨gq, cap, cur, rfl, _⟩
    · subst hz; exact ⟨none, 0, rfl, hrow2, hbe⟩
    · exact ⟨some ⟨gq, 0, none⟩, cap, rfl, hrow2, hbe⟩
  case stop =>
    rintro D c pre W _ _ h _; exact h.elim
theorem appendSeq_any {Bm k c : Nat} {A : Option Addr} {L : List DotM} (hk : k ≤ 100000) {w : World} (hm : w.cell? ⟨Bm, 0, none⟩ = some (.slice A k c)) (hL : DotsR w A k L) :
    Calls Tryz.prog 192 #[.slice none 0 0, .func (.func 189) #[] #[.pointer (some ⟨Bm, 0, none⟩)]] w (SeqQ L k w) :=
  callsIn_wide.1 (append_in Fence.wide 6 rfl (Nat.le_refl _) (fun _ => trivial) Bm k c A L hk w hm hL)
theorem values_any (A : Option Addr) (k c : Nat) (w : World) :
    Calls Tryz.prog 176 #[.slice A k c] w fun e w' => e = .returned (.func (.func 189) #[] #[.pointer (some ⟨w.heap.size, 0, none⟩)]) ∧ w' = w.alloc (.cells #[.slice A k c] 40) :=
  callsIn_wide.1 (values_new Fence.wide 6 trivial rfl A k c w)
set_option maxRecDepth 100000 in
theorem collect_any {Bm k c : Nat} {A : Option Addr} {L : List DotM} (hk : k ≤ 100000) {w : World} (hm : w.cell? ⟨Bm, 0, none⟩ = some (.slice A k c)) (hL : DotsR w A k L) :
    Calls Tryz.prog 187 #[.func (.func 189) #[] #[.pointer (some ⟨Bm, 0, none⟩)]] w (SeqQ L k w) := by
  have HA := Lib.hid (appendSeq_any hk hm hL); clear hm hL
  go_enter Tryz.func187, Tryz.ntmps187
  go_wp2_with (go_at_call 192; refine HA.out.mono ?_; rintro e w1 ⟨A1, c1, rfl, ho, hB⟩)
  go_ret
  exact ⟨A1, c1, rfl, ho, hB⟩
theorem sortD_none (p : Option Addr) (cap : Nat) (fv : Value) (w : World) : Calls Tryz.prog 188 #[.slice p 0 cap, fv] w fun e w' => e = .returned (.tuple #[]) ∧ w' = w :=
  Go.Proofs.AnyF.slices_SortFunc_none DotSort p cap fv w
def SortQ (L : List DotM) (k : Nat) (w : World) (e : Ending) (w' : World) : Prop := ∃ (A : Option Addr) (c : Nat) (L' : List DotM), e = .returned (.slice A k c) ∧ L'.Perm L ∧ (L'.Pairwise fun p q => ¬ dLt q p) ∧ DotsR w' A k L' ∧ (∀ b o, A = some ⟨b, o, none⟩ → w.heap.size ≤ b ∧ b < w'.heap.size) ∧ Gr w w'
set_option maxRecDepth 100000 in
theorem sorted_any {Bm k c : Nat} {A : Option Addr} {L : List DotM} (hk : k ≤ 100000) {w : World} (hm : w.cell? ⟨Bm, 0, none⟩ = some (.slice A k c)) (hL : DotsR w A k L) :
    Calls Tryz.prog 175 #[.func (.func 189) #[] #[.pointer (some ⟨Bm, 0, none⟩)], .func (.func 156) #[] #[]] w (SortQ L k w) := by
  have HC := Lib.hid (collect_any hk hm hL); clear hm hL
  go_enter Tryz.func175, Tryz.ntmps175
  go_upto_region 2 with (go_at_call 187; refine HC.out.mono ?_; rintro e w1 ⟨A1, c1, rfl, ho, hB⟩)
  have hlen := ho.len; have HO := Lib.hid ho; have hG : Gr w w1 := hB; rcases ho.2 with ⟨e1, e2⟩ | ⟨g, cap, cur, e1, hgB, _⟩
  · injection e1 with e1 e3 e4
    subst e1 e4 e2; have hnil : L = [] := List.length_eq_zero_iff.1 hlen; clear ho hB hlen
    go_wp2_with (go_at_call 188; refine (sortD_none none 0 _ _).mono ?_; rintro e w2 ⟨rfl, rfl⟩)
    go_ret
    exact ⟨none, 0, [], rfl, by rw [hnil], List.Pairwise.nil, DotsR.nil _ _, fun b o h => by (cases h), hG⟩
  · injection e1 with e1 e3 e4
    subst e1 e4; have hgl := own_lt HO.out ⟨g, 0, none⟩ rfl; have HGB : Hid (w.heap.size ≤ g ∧ g < w1.heap.size) := Lib.hid ⟨hgB, hgl⟩; have HS := Lib.hid (sort_dord (c := c1) hlen (by omega) hgB HO.out); clear ho hB hlen hgl hgB
    go_wp2_with (go_at_call 188; refine HS.out.mono ?_; rintro e w2 ⟨rfl, L', hp, hs, hd, hB2, _⟩)
    go_ret
    exact ⟨_, _, L', rfl, hp, hs, hd, fun b o h => by (injection h with h; injection h with h1 h2; subst h1; exact ⟨HGB.out.1, Nat.lt_of_lt_of_le HGB.out.2 hB2.size⟩), Below.trans hG hB2⟩
end Go.Proofs.YtjpphldojbfpfaaGreatDoor
