/- slices.Values at writes: the walk of its iterator. No condition. -/
import Derived.RangeFuncNested
import Derived.RangeFuncBound
import Derived.RangeFuncCalls
import Derived.RangeFuncLeaves
import Derived.Shelf.Abstract
import Derived.Shelf.RegionOpen
import Derived.WalkKit
import Derived.OwnWalkIn
import Derived.TacticsInMore
import Derived.LoopNIn
import Derived.LoopIn
import Derived.RangeFuncStops
import Derived.RangeFuncMany
import Derived.Sort.MapsRangeIn
import Derived.Maps.AppendAt
import Derived.Test.YteckblffpidigaaGreatDoorMtClone
namespace Go.Proofs.YteckblffpidigaaGreatDoor
open Go.RowKit
attribute [local go_sem] Oper.semAt_some
section
variable {F : Fence} {n : Nat} {P : Program} {ops : Array Oper} {Q : Exit → Act → World → Prop} {a : Act} {w : World} {rest : List Oper} {op : Oper}
theorem wpListIn_store_mid (hgd : op.guard = none) (ty : TypeId) (x y : Operand) (ho : op.op = .store ty x y) (b o : Nat) (cells : Array Value) (hx : a.eval x = .pointer (some ⟨b, o, none⟩)) (hy : a.eval y = .agg cells)
    (ht : w.there b o cells.size) (hi : (P.info? ty).map (·.size) = some cells.size) (h1 : cells.all (·.oneCell') = true)
    (h : wpListIn F n P ops Q rest (a.put op.dst undef) (w.setCells b o cells.toList)) : wpListIn F n P ops Q (op :: rest) a w := by
  refine wpListIn_plain hgd fun K hK => ?_
  unfold Oper.wpIn
  refine ⟨by simp [Oper.about, ho], ?_⟩
  rw [Oper.semAt_plain F _ _ (by rw [ho]; intro c hc; cases hc)]
  simp only [execOp, ho, hx, hy, Sem.run_bind, run_storeAt_mid w b o ty cells ht hi h1, Result.andThen_ok, Sem.run_pure]
  exact hK _ _ h
theorem wpListIn_new {C : Array Value} {t : TypeId} (hgd : op.guard = none) (ty : TypeId) (x y : Operand) (ho : op.op = .store ty x y)
    (b : Nat) (vs : List Value) (hx : a.eval x = .pointer (some ⟨b, 0, none⟩)) (hy : a.eval y = .agg vs.toArray) (hb : b = w.heap.size) (hn : C.size = vs.length)
    (hi : (P.info? ty).map (·.size) = some vs.length) (h1 : ∀ v ∈ vs, v.oneCell' = true)
    (h : ∀ w2, Arr w2 b t vs → Gr w w2 → w.grownBy w2 none → wpListIn F n P ops Q rest (a.put op.dst undef) w2) : wpListIn F n P ops Q (op :: rest) a (w.alloc (.cells C t)) := by
  subst hb
  refine wpListIn_store_mid hgd ty x y ho w.heap.size 0 vs.toArray hx hy (there_new _ _ _ _ (by simpa using hn) _ rfl) (by simpa using hi) (all_oneCell_toArray h1) ?_
  have hG : Gr w ((w.alloc (.cells C t)).setCells w.heap.size 0 vs) := ((Below.refl _ _).alloc (Nat.le_refl _) _).trans (below_setCells (Nat.le_refl _) _ _ _)
  exact h _ (Arr.newSet rfl (by simpa using hn.symm)) hG ⟨hG.os, hG.tape, hG.output, hG.size, fun k hk _ => hG.block k hk⟩
theorem wpListIn_loadT (hgd : op.guard = none) (ty : TypeId) (x : Operand) (ho : op.op = .load ty x) (b off : Nat) (hx : a.eval x = .pointer (some ⟨b, off, none⟩)) (cs : List Value) (hc : w.rangeAt b off cs)
    {d : TypeDesc} (hu : P.underlying ty = some d) (hd : d.isRow = true) (hi : (P.info? ty).map (·.size) = some cs.length) (h : wpListIn F n P ops Q rest (a.put op.dst (.agg cs.toArray)) w) : wpListIn F n P ops Q (op :: rest) a w := by
  refine wpListIn_plain hgd fun K hK => ?_
  unfold Oper.wpIn
  refine ⟨by simp [Oper.about, ho], ?_⟩
  rw [Oper.semAt_plain F _ _ (by rw [ho]; intro c hc; cases hc)]
  simp only [execOp, ho, hx, Sem.run_bind, run_loadAt_mid w b off ty cs d hc hu hd hi, Result.andThen_ok, Sem.run_pure]
  exact hK _ _ h
end
/-- The blocks below a mark stay as they are, and none is taken away. -/
def KeepB (B : Nat) (W W' : World) : Prop := (∀ k, k < B → W'.heap[k]? = W.heap[k]?) ∧ W.heap.size ≤ W'.heap.size
theorem KeepB.refl (B : Nat) (W : World) : KeepB B W W := ⟨fun _ _ => rfl, Nat.le_refl _⟩
theorem KeepB.trans {B : Nat} {U V W : World} (h : KeepB B U V) (k : KeepB B V W) : KeepB B U W := ⟨fun i hi => (k.1 i hi).trans (h.1 i hi), Nat.le_trans h.2 k.2⟩
theorem KeepB.of_gr {B : Nat} {W W' : World} (hB : B ≤ W.heap.size) (h : Gr W W') : KeepB B W W' := ⟨fun k hk => h.block k (Nat.lt_of_lt_of_le hk hB), h.size⟩
theorem KeepB.dots {W W' : World} {A : Option Addr} {n : Nat} {L : List DotM} (hK : KeepB W.heap.size W W') (h : DotsR W A n L) : DotsR W' A n L :=
  ⟨h.1, fun i x hx => by
    obtain ⟨b, o, e, hr⟩ := h.2 i x hx
    exact ⟨b, o, e, fun j u hu => (World.cell?_of_block (hK.1 _ (lt_of_cell (hr j u hu)))).trans (hr j u hu)⟩⟩
def aggD (d : DotM) : Value := .agg (encD d).toArray
set_option maxRecDepth 100000 in
set_option maxHeartbeats 4000000 in
theorem values_in (F : Fence) (n : Nat) (hf : F.fn 102) (hro : F.round = none) (hn : 1 ≤ n) (l Bm k c : Nat) (A : Option Addr) (L : List DotM) (hk : k ≤ 100000) (J Jx : List DotM → World → Prop) (w0 : World)
    (hY : ∀ pre x W, J pre W → pre.length < k → YieldAt F (n - 1) Tryz.prog l #[aggD x] W fun e W' =>
      (e = .returned (.bool true) ∧ J (pre ++ [x]) W' ∧ KeepB w0.heap.size W W') ∨ (e = .returned (.bool false) ∧ Jx (pre ++ [x]) W'))
    (W : World) (hJ : AbidesFrom W.heap.size J) (hW : KeepB w0.heap.size w0 W) (hm : w0.cell? ⟨Bm, 0, none⟩ = some (.slice A k c)) (hL : DotsR w0 A k L) (h0 : J [] W) :
    CallsIn F n Tryz.prog 102 #[.func (.yield l) #[] #[], .pointer (some ⟨Bm, 0, none⟩)] W fun e W' => (∃ v, e = .returned v) ∧
      ((∃ ss : List DotM, ss = L ∧ J ss W') ∨ (∃ pre : List DotM, True ∧ Jx pre W')) := by
  have HL := Lib.hid hL
  have HLen := Lib.hid hL.1
  have HW := Lib.hid hW
  have HC : Hid (∀ W1, KeepB w0.heap.size w0 W1 → W1.cell? ⟨Bm, 0, none⟩ = some (.slice A k c)) := Lib.hid (fun W1 h => (World.cell?_of_block (h.1 _ (lt_of_cell hm))).trans hm)
  have hcW := HC.out W hW
  clear hL hW hm
  refine callsIn_of_wp Tryz.func102 rfl hf ?_ hro
  try simp only [Tryz.ntmps102, List.size_toArray, List.length_cons, List.length_nil, Nat.reduceAdd, Nat.reduceSub, Array.replicate_succ, Array.replicate_zero, List.push_toArray, List.append_toArray, List.nil_append, List.cons_append]
  gi_wp2
  try go_frame
  gi_loopw [7] (fun v wr => ∃ i : Nat, i ≤ k ∧ v = .int .i64 (i : Int) ∧ J (L.take i) wr ∧ KeepB w0.heap.size w0 wr) (fun v _ => k - (intOf v).toNat)
  case atStart => exact ⟨0, Nat.zero_le _, rfl, by rw [List.take_zero]; exact h0, HW.out⟩
  case round =>
    obtain ⟨i, hi, rfl, hJi, hK⟩ := hrel
    by_cases hlt : i < k
    · have c1 : (i : Int) < (k : Int) := by omega
      obtain ⟨x, hx⟩ : ∃ x, L[i]? = some x := ⟨_, List.getElem?_eq_getElem (by rw [HLen.out]; exact hlt)⟩
      obtain ⟨bA, oA, rfl, hr⟩ := (KeepB.dots hK HL.out).2 i x hx
      have htk : L.take i ++ [x] = L.take (i + 1) := by rw [List.take_add_one, hx]; rfl
      have hll : (L.take i).length < k := by rw [List.length_take]; omega
      have HT := Lib.hid htk
      clear hx htk
      gi_wp2_with (first
        | (refine wpListIn_loadT rfl _ _ rfl bA (oA + i * 2) rfl (encD x) hr Tryz.underlying39 rfl (infoDot x) ?_)
        | (refine wpListIn_new (w := wr) (t := 39) rfl _ _ _ rfl wr.heap.size (encD x) rfl rfl rfl (by kernel_rfl) (infoDot x) (encD_one x) ?_
           intro w3 hA3 hG3 hg3
           have hJ3 : J (L.take i) w3 := hJ (L.take i) wr w3 none hJi hg3 (fun r e => by cases e)
           have hY3 : YieldAt F (n - 1) Tryz.prog l #[.agg (encD x).toArray] w3 _ := hY (L.take i) x w3 hJ3 hll
           have hK3 : KeepB w0.heap.size w0 w3 := hK.trans (KeepB.of_gr hK.2 hG3)
           obtain ⟨fn, tmps, assign, body, hy, hR⟩ := hY3)
        | (refine wpListIn_loadT rfl _ _ rfl wr.heap.size 0 rfl (encD x) (Arr.range hA3) Tryz.underlying39 rfl (infoDot x) ?_)
        | gi_in)
      refine hR.mono ?_
      rintro e W3 (⟨rfl, hJ4, hk3⟩ | ⟨rfl, hJx3⟩)
      · rw [HT.out] at hJ4
        have hK4 := hK3.trans hk3
        gi_wp2
        exact ⟨⟨i + 1, by omega, by simp, hJ4, hK4⟩, by simp only [intOf]; omega⟩
      · gi_wp2
        refine bodyPost_ret (results_none rfl _ _ _) rfl ?_
        exact ⟨⟨_, rfl⟩, .inr ⟨_, trivial, hJx3⟩⟩
    · have c1 : ¬ (i : Int) < (k : Int) := by omega
      rw [List.take_of_length_le (by have := HLen.out; omega)] at hJi
      gi_wp2
      go_end0
      exact ⟨⟨_, rfl⟩, .inl hJi⟩
theorem values_stops (F : Fence) (n : Nat) (hf : F.fn 102) (hro : F.round = none) (hn : 1 ≤ n) (Bm k c : Nat) (A : Option Addr) (L : List DotM) (hk : k ≤ 100000) (w : World) (hm : w.cell? ⟨Bm, 0, none⟩ = some (.slice A k c)) (hL : DotsR w A k L) :
    SeqStopsK F n Tryz.prog 102 #[.pointer (some ⟨Bm, 0, none⟩)] (fun d : DotM => #[aggD d]) (KeepB w.heap.size) (fun ss => ss = L) (fun _ => True) k w := fun l J Jx W hW hJ _ hY h0 =>
  values_in F n hf hro hn l Bm k c A L hk J Jx w hY W hJ (KeepB.of_gr (Nat.le_refl _) hW) hm hL h0
set_option maxRecDepth 100000 in
theorem values_new (F : Fence) (n : Nat) (hf : F.fn 89) (hro : F.round = none) (A : Option Addr) (k c : Nat) (w : World) :
    CallsIn F n Tryz.prog 89 #[.slice A k c] w fun e w' => e = .returned (.func (.func 102) #[] #[.pointer (some ⟨w.heap.size, 0, none⟩)]) ∧ w' = w.alloc (.cells #[.slice A k c] 26) := by
  refine callsIn_of_wp Tryz.func89 rfl hf ?_ hro
  try simp only [Tryz.ntmps89, List.size_toArray, List.length_cons, List.length_nil, Nat.reduceAdd, Nat.reduceSub, Array.replicate_succ, Array.replicate_zero, List.push_toArray, List.append_toArray, List.nil_append, List.cons_append]
  gi_wp2
  go_ret
  exact ⟨rfl, rfl⟩
end Go.Proofs.YteckblffpidigaaGreatDoor
