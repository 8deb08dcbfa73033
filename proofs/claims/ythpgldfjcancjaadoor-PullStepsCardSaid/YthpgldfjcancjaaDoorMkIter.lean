/- The walk of maps.Keys and of its iterator at names of 32 bytes. No condition. -/
import Derived.RangeFuncNested
import Derived.RangeFuncBound
import Derived.RangeFuncCalls
import Derived.RangeFuncLeaves
import Derived.Shelf.Abstract
import Derived.Shelf.RegionOpen
import Derived.WalkKit
import Derived.OwnWalkIn
import Derived.TacticsInMore
import Derived.LoopNIn
import Derived.LoopIn
import Derived.RangeFuncStops
import Derived.RangeFuncMany
import Derived.Sort.MapsRangeIn
import Derived.Maps.AppendAt
import Derived.Test.YthpgldfjcancjaaDoorMkSort
namespace Go.Proofs.YthpgldfjcancjaaDoor
open Go.RowKit
attribute [local go_sem] Oper.semAt_some
section
variable {F : Fence} {n : Nat} {P : Program} {ops : Array Oper} {Q : Exit → Act → World → Prop} {a : Act} {w : World} {rest : List Oper} {op : Oper}
theorem wpListIn_store_mid (hgd : op.guard = none) (ty : TypeId) (x y : Operand) (ho : op.op = .store ty x y) (b o : Nat) (cells : Array Value) (hx : a.eval x = .pointer (some ⟨b, o, none⟩)) (hy : a.eval y = .agg cells)
    (ht : w.there b o cells.size) (hi : (P.info? ty).map (·.size) = some cells.size) (h1 : cells.all (·.oneCell') = true)
    (h : wpListIn F n P ops Q rest (a.put op.dst undef) (w.setCells b o cells.toList)) : wpListIn F n P ops Q (op :: rest) a w := by
  refine wpListIn_plain hgd fun K hK => ?_
  unfold Oper.wpIn
  refine ⟨by simp [Oper.about, ho], ?_⟩
  rw [Oper.semAt_plain F _ _ (by rw [ho]; intro c hc; cases hc)]
  simp only [execOp, ho, hx, hy, Sem.run_bind, run_storeAt_mid w b o ty cells ht hi h1, Result.andThen_ok, Sem.run_pure]
  exact hK _ _ h
theorem wpListIn_new {C : Array Value} {t : TypeId} (hgd : op.guard = none) (ty : TypeId) (x y : Operand) (ho : op.op = .store ty x y)
    (b : Nat) (vs : List Value) (hx : a.eval x = .pointer (some ⟨b, 0, none⟩)) (hy : a.eval y = .agg vs.toArray) (hb : b = w.heap.size) (hn : C.size = vs.length)
    (hi : (P.info? ty).map (·.size) = some vs.length) (h1 : ∀ v ∈ vs, v.oneCell' = true)
    (h : ∀ w2, Arr w2 b t vs → Gr w w2 → w.grownBy w2 none → wpListIn F n P ops Q rest (a.put op.dst undef) w2) : wpListIn F n P ops Q (op :: rest) a (w.alloc (.cells C t)) := by
  subst hb
  refine wpListIn_store_mid hgd ty x y ho w.heap.size 0 vs.toArray hx hy (there_new _ _ _ _ (by simpa using hn) _ rfl) (by simpa using hi) (all_oneCell_toArray h1) ?_
  have hG : Gr w ((w.alloc (.cells C t)).setCells w.heap.size 0 vs) := ((Below.refl _ _).alloc (Nat.le_refl _) _).trans (below_setCells (Nat.le_refl _) _ _ _)
  exact h _ (Arr.newSet rfl (by simpa using hn.symm)) hG ⟨hG.os, hG.tape, hG.output, hG.size, fun k hk _ => hG.block k hk⟩
theorem wpListIn_load_mid (hgd : op.guard = none) (ty : TypeId) (x : Operand) (ho : op.op = .load ty x) {g : Nat} {t : TypeId} {cs : List Value} (hx : a.eval x = .pointer (some ⟨g, 0, none⟩)) (hA : Arr w g t cs)
    (hT : ∃ n e, P.underlying ty = some (.array n e)) (hi : (P.info? ty).map (·.size) = some cs.length) (h : wpListIn F n P ops Q rest (a.put op.dst (.agg cs.toArray)) w) : wpListIn F n P ops Q (op :: rest) a w := by
  obtain ⟨m, e, hT⟩ := hT
  refine wpListIn_plain hgd fun K hK => ?_
  unfold Oper.wpIn
  refine ⟨by simp [Oper.about, ho], ?_⟩
  rw [Oper.semAt_plain F _ _ (by rw [ho]; intro c hc; cases hc)]
  simp only [execOp, ho, hx, Sem.run_bind, hA.loadAt hT hi, Result.andThen_ok, Sem.run_pure]
  exact hK _ _ h
end
theorem infoN (x : Nm) : (Tryd.prog.info? 51).map (·.size) = some (u8s x.1).length := by simp only [u8s_length, x.2]; kernel_rfl
/-- Which names have come. -/
def CollN (D : DataW Unit) (left : Lit → Bool) (ss : List Nm) : Prop := ss.Nodup ∧ ∀ x : Nm, x ∈ ss ↔ (Maps.has D (kLit x.1) = true ∧ left (kLit x.1) = false)
theorem CollN.start (D : DataW Unit) : CollN D (Maps.has D) [] := ⟨List.nodup_nil, fun x => by cases Maps.has D (kLit x.1) <;> simp⟩
theorem sameKey_name (x y : Nm) : (kLit y.1).sameKey (kLit x.1) = decide (y = x) := by
  by_cases h : y = x
  · subst h
    rw [decide_eq_true rfl]
    simp [kLit, Lit.sameKey]
  · rw [decide_eq_false h]
    exact Maps.sameKey_ne fun e => h (Subtype.ext (kLit_inj y.2 x.2 e))
theorem CollN.step {D : DataW Unit} {left : Lit → Bool} {ss : List Nm} (h : CollN D left ss) {x : Nm} {y : DataW Unit} (hlk : left (kLit x.1) = true) (hat : ∀ zd, D.atKey (kLit x.1) zd = y) : CollN D (fun z => left z && !z.sameKey (kLit x.1)) (ss ++ [x]) := by
  have hhas := Maps.has_true_of_atKey hat
  have hnew : x ∉ ss := fun hx => by have := ((h.2 x).1 hx).2; rw [hlk] at this; cases this
  refine ⟨List.nodup_append.2 ⟨h.1, by simp, fun a ha b hb => by simp at hb; subst hb; exact fun e => hnew (e ▸ ha)⟩, fun z => ?_⟩
  rw [List.mem_append, List.mem_singleton, h.2 z]
  show _ ↔ (_ ∧ (left (kLit z.1) && !(kLit z.1).sameKey (kLit x.1)) = false)
  rw [sameKey_name]
  by_cases hz : z = x
  · subst hz
    simp [hhas]
  · simp [hz]
def valN (x : Nm) : Value := by32 x.1
set_option maxRecDepth 100000 in
set_option maxHeartbeats 4000000 in
theorem keys_in (F : Fence) (n : Nat) (hf : F.fn 38) (hro : F.round = none) (hn : 1 ≤ n) (l Bm b nn : Nat) (D0 : DataW Unit) (J Jx : List Nm → World → Prop)
    (hY : ∀ pre x W, J pre W → pre.length < Maps.size D0 → YieldAt F (n - 1) Tryd.prog l #[valN x] W fun e W' =>
      (e = .returned (.bool true) ∧ J (pre ++ [x]) W' ∧ KeepsWalks W W') ∨ (e = .returned (.bool false) ∧ Jx (pre ++ [x]) W'))
    (W : World) (hJ : AbidesFrom W.heap.size J) (hm : W.cell? ⟨Bm, 0, none⟩ = some (.map (some b))) (hown : W.ownsMap Tryd.prog 51 R32 b nn D0) (h0 : J [] W) :
    CallsIn F n Tryd.prog 38 #[.func (.yield l) #[] #[], .pointer (some ⟨Bm, 0, none⟩)] W fun e W' => (∃ v, e = .returned v) ∧
      ((∃ ss : List Nm, (CollN D0 (fun _ => false) ss ∧ ss.length ≤ Maps.size D0) ∧ J ss W') ∨ (∃ pre : List Nm, pre.Nodup ∧ Jx pre W')) := by
  refine callsIn_of_wp Tryd.func38 rfl hf ?_ hro
  simp only [Tryd.ntmps38, List.size_toArray, List.length_cons, List.length_nil, Nat.reduceAdd, Nat.reduceSub, Array.replicate_succ, Array.replicate_zero, List.push_toArray, List.append_toArray, List.nil_append, List.cons_append]
  gi_wp2_with (first
    | (gi_at_range; refine wpListIn_range_own _ rfl _ 72 rfl 51 43 keyedB Tryd.underlying72 _ b nn _ rfl hown ?_; intro w0 hrg0 hg0 hs0)
    | gi_in)
  go_frame
  gi_loopw [3] (fun _ wr => ∃ (left : Lit → Bool) (cnt : Nat) (ss : List Nm), wr.ranges Tryd.prog 51 R32 b W.heap.size nn D0 left cnt ∧ ss.length + cnt ≤ Maps.size D0 ∧ CollN D0 left ss ∧ J ss wr)
    (fun _ wr => wr.rangeLeft b W.heap.size)
  case atStart =>
    exact ⟨_, _, [], hrg0, by simp, CollN.start D0, hJ [] W w0 none h0 hg0 (fun r e => by cases e)⟩
  case round =>
    obtain ⟨left, cnt, ss, hrg, hcs, hC, hJs⟩ := hrel
    gi_wp2_with (first
      | (gi_at_next; refine wpListIn_next_ranges _ rfl _ rfl 51 keyedB R32 valN valN (fun key kl hk => by obtain ⟨x, h, e, _⟩ := keyOf_blind_inv hk; exact ⟨⟨x, h⟩, e⟩) (fun v y hv => by obtain ⟨x, h, e, _⟩ := R32_inv hv; exact ⟨⟨x, h⟩, e⟩) b W.heap.size nn _ _ _ rfl hrg ?_ ?_)
      | gi_in)
    · intro hc0 hl0
      gi_wp2
      go_end0
      have e : left = fun _ => false := funext hl0
      rw [e] at hC
      exact ⟨⟨_, rfl⟩, .inl ⟨ss, ⟨hC, by omega⟩, hJs⟩⟩
    · intro x0 hx0 c hc kl yd yp w2 cnt2 hkey hlk hv hat hrg2 hlt hg2 hs2 hen
      obtain ⟨x, rfl⟩ : ∃ x : Nm, x0 = x.1 := ⟨⟨x0, hx0⟩, rfl⟩
      obtain rfl : kLit x.1 = kl := Option.some.inj ((keyOf_blind x.2).symm.trans hkey)
      have hJ2 : J ss w2 := hJ ss wr w2 (some W.heap.size) hJs hg2 (fun r e => by cases e; exact ⟨Nat.le_refl _, hrg.iter_walk⟩)
      have hC2 := hC.step hlk hat
      clear hs2
      gi_wp2_with (first
        | (refine wpListIn_new (w := w2) (t := 51) rfl _ _ _ rfl w2.heap.size (u8s x.1) rfl rfl rfl (by rw [u8s_length, x.2]; kernel_rfl) (infoN x) (u8s_oneCell x.1) ?_
           intro w3 hA3 hG3 hg3
           have hJ3 : J ss w3 := hJ ss w2 w3 none hJ2 hg3 (fun r e => by cases e)
           have hk2 : KeepsWalks w2 w3 := KeepsWalks.of_grownBy hg3 (fun j o e => by cases e)
           have hY3 : YieldAt F (n - 1) Tryd.prog l #[.agg (u8s x.1).toArray] w3 _ := hY ss x w3 hJ3 (by omega)
           obtain ⟨fn, tmps, assign, body, hy, hR⟩ := hY3)
        | (refine wpListIn_load_mid rfl _ _ rfl rfl hA3 ⟨_, _, Tryd.underlying51⟩ (infoN x) ?_)
        | gi_in)
      refine hR.mono ?_
      rintro e W3 (⟨rfl, hJ4, hk3⟩ | ⟨rfl, hJx3⟩)
      · gi_wp2
        have hrg3 := (hrg2.of_walks hk2).of_walks hk3
        go_roundw
        case rel => exact ⟨_, cnt2, ss ++ [x], hrg3, by simp; omega, hC2, hJ4⟩
        case measure => rw [hrg3.left_eq, hrg.left_eq]; exact hlt
      · gi_wp2
        refine bodyPost_ret (results_none rfl _ _ _) rfl ?_
        exact ⟨⟨_, rfl⟩, .inr ⟨ss ++ [x], hC2.1, hJx3⟩⟩
theorem keys_stops (F : Fence) (n : Nat) (hf : F.fn 38) (hro : F.round = none) (hn : 1 ≤ n) (Bm b nn : Nat) (D0 : DataW Unit) (w : World) (hBm : Bm < w.heap.size)
    (hm : w.cell? ⟨Bm, 0, none⟩ = some (.map (some b))) (hown : w.ownsMap Tryd.prog 51 R32 b nn D0) :
    SeqStops F n Tryd.prog 38 #[.pointer (some ⟨Bm, 0, none⟩)] valN (fun ss => CollN D0 (fun _ => false) ss ∧ ss.length ≤ Maps.size D0) (fun pre => pre.Nodup) (Maps.size D0) w := fun l J Jx W hW hJ _ hY h0 => by
  have hown' : W.ownsMap Tryd.prog 51 R32 b nn D0 := by
    have hbl := hown.lt
    obtain ⟨es, clock, hb, Ft, hs, hD⟩ := hown
    exact ⟨es, clock, (hW.block b hbl).trans hb, Ft, hs, hD⟩
  exact keys_in F n hf hro hn l Bm b nn D0 J Jx hY W hJ ((hW.cell (p := ⟨Bm, 0, none⟩) hBm).trans hm) hown' h0
end Go.Proofs.YthpgldfjcancjaaDoor
