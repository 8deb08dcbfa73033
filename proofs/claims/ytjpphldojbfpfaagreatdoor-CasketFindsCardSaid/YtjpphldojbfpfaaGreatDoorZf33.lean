/- Texts of one proof, laid as one: part 33. No condition. -/
import Derived.RangeFuncNested
import Derived.RangeFuncBound
import Derived.RangeFuncCalls
import Derived.RangeFuncLeaves
import Derived.Shelf.Abstract
import Derived.Shelf.RegionOpen
import Derived.WalkKit
import Derived.OwnWalkIn
import Derived.TacticsInMore
import Derived.LoopNIn
import Derived.LoopIn
import Derived.RangeFuncStops
import Derived.RangeFuncMany
import Derived.Sort.MapsRangeIn
import Derived.Maps.AppendAt
import Derived.Deep.Cut
import Derived.Deep.CutBlock
import Derived.Deep.CutRange
import Derived.Test.YtjpphldojbfpfaaGreatDoorZf02
import Derived.Test.YtjpphldojbfpfaaGreatDoorZf03
import Derived.Test.YtjpphldojbfpfaaGreatDoorZf08
import Derived.Test.YtjpphldojbfpfaaGreatDoorZf32
namespace Go.Proofs.YtjpphldojbfpfaaGreatDoor
open Go.RowKit
def cfN (x y : Nm) : Int := Lib.compareBytes x.1 y.1
theorem swoN : Go.Sort.SWO (ltOf cfN) where
  irrefl x := by
    unfold ltOf cfN; rw [cb_refl]; rfl
  trans x y z h1 h2 := by
    unfold ltOf cfN at *
    simp only [decide_eq_true_eq] at *
    exact cb_trans h1 h2
  ntrans x y z h1 h2 := by
    unfold ltOf cfN at *
    simp only [decide_eq_false_iff_not] at *
    intro h3; have a1 := cb_anti x.1 y.1; have a2 := cb_anti y.1 z.1; rcases Int.lt_or_le (Lib.compareBytes z.1 y.1) 0 with h4 | h4
    · exact h1 (cb_trans h3 h4)
    · have e : y.1 = z.1 := cb_zero (by omega); rw [← e] at h3; exact h1 h3
theorem cmpLaysN (blk off size : Nat) (w : World) : CmpLays Tryz.prog 135 #[] encN 32 cfN blk off size w :=
  fun _ _ _ _ x y => (order_any x.1 y.1 x.2 y.2 _).mono fun _ _ ⟨he, hw⟩ => ⟨he, hw⟩
def NmR (w : World) (A : Option Addr) (n : Nat) (L : List Nm) : Prop := L.length = n ∧ ∀ i x, L[i]? = some x → ∃ b, A = some ⟨b, 0, none⟩ ∧ w.rangeAt b (i * 32) (encN x)
section
variable {α : Type} [Inhabited α] {enc : α → List Value} {k : Nat}
end
def SortedQ (L : List Nm) (g n B : Nat) (w : World) (e : Ending) (w' : World) : Prop := e = .returned (.tuple #[]) ∧ ∃ L' : List Nm, (∀ x, x ∈ L' ↔ x ∈ L) ∧ (L'.Pairwise fun p q => ¬ Lib.compareBytes q.1 p.1 < 0) ∧ NmR w' (some ⟨g, 0, none⟩) n L' ∧ L'.Perm L ∧ Below B w w' ∧ ∀ i, i < w.heap.size → i ≠ g → w'.heap[i]? = w.heap[i]?
set_option maxRecDepth 100000 in
theorem sort_names {w : World} {B g n c : Nat} {L : List Nm} (hl : L.length = n) (hn : n ≤ 1000000) (hB : B ≤ g) (h : w.ownsRow B 36 32 (.slice (some ⟨g, 0, none⟩) n c) n (L.flatMap encN)) :
    Calls Tryz.prog 134 #[.slice (some ⟨g, 0, none⟩) n c, .func (.func 135) #[] #[]] w fun e w' => SortedQ L g n B w e w' := by
  have hH := holds_of_ownG encN_length (by omega) hl h; have hgl : g < w.heap.size := own_lt h _ rfl; obtain ⟨d, hd⟩ : ∃ d, d = L.toArray := ⟨_, rfl⟩; have hds : d.size = n := by rw [hd]; simpa using hl
  have hdl : d.toList = L := by rw [hd]
  rw [← hd] at hH; have eg : ∀ args w, (callFunc 135 args).run Tryz.prog w = .ok (.enter 135 args) w := enters_of Tryz.func135 (by kernel_rfl) rfl; have hcon := AnyQ.slices_SortFunc BlindSort 32 Tryz.isAgg36 Tryz.sizeOf36 encN encN_length (fun x v hv => u8s_oneCell _ v hv) cfN swoN 135 #[] g 0 c d w eg (cmpLaysN g 0 d.size w) hH hgl (by omega); change Calls Tryz.prog 134 _ _ _ at hcon; rw [hds] at hcon; refine hcon.mono ?_; rintro e w' ⟨rfl, d', m, os, ⟨hs', _, hp⟩, hS, rfl⟩; have hH' := holdsK_sortWorldK_c (enc := encN) (k := 32) (w := w) (blk := g) (off := 0) (d := d) (dk := d') (m := m) (os := os) (hH := hH) (hblk := hgl) (hs := hs')
  have hperm : d'.toList.Perm L := by
    have e1 : d'.extract 0 n = d' := by rw [← hds, ← hs']; simp
    have e2 : d.extract 0 n = d := by rw [← hds]; simp
    rw [e1, e2, hdl] at hp; exact hp
  refine ⟨rfl, d'.toList, fun x => hperm.mem_iff, ?_, ⟨by simp [hs', hds], fun i x hx => ⟨g, rfl, fun j u hu => cells_of_holds encN_length hH' hx hu⟩⟩, hperm, sortG_below hB hgl, fun i hi hne => sortG_other hi hne⟩; rw [List.pairwise_iff_getElem]; intro i j hi hj hij; have hi' : i < d'.size := by simpa using hi
  have hj' : j < d'.size := by simpa using hj
  have := hS i j (Nat.zero_le _) hij (by omega); unfold ltOf cfN at this; rw [decide_eq_false_iff_not] at this; have g1 : d'[i]! = d'.toList[i] := by simp [hi']
  have g2 : d'[j]! = d'.toList[j] := by simp [hj']
  rw [g1, g2] at this; exact this
end Go.Proofs.YtjpphldojbfpfaaGreatDoor
namespace Go.Proofs.YtjpphldojbfpfaaGreatDoor
open Go.RowKit
attribute [local go_sem] Oper.semAt_some
section
variable {F : Fence} {n : Nat} {P : Program} {ops : Array Oper} {Q : Exit → Act → World → Prop} {a : Act} {w : World} {rest : List Oper} {op : Oper}
theorem wpListIn_load_mid (hgd : op.guard = none) (ty : TypeId) (x : Operand) (ho : op.op = .load ty x) {g : Nat} {t : TypeId} {cs : List Value} (hx : a.eval x = .pointer (some ⟨g, 0, none⟩)) (hA : Arr w g t cs)
    (hT : ∃ n e, P.underlying ty = some (.array n e)) (hi : (P.info? ty).map (·.size) = some cs.length) (h : wpListIn F n P ops Q rest (a.put op.dst (.agg cs.toArray)) w) : wpListIn F n P ops Q (op :: rest) a w := by
  obtain ⟨m, e, hT⟩ := hT; refine wpListIn_plain hgd fun K hK => ?_; unfold Oper.wpIn; refine ⟨by simp [Oper.about, ho], ?_⟩; rw [Oper.semAt_plain F _ _ (by rw [ho]; intro c hc; cases hc)]; simp only [execOp, ho, hx, Sem.run_bind, hA.loadAt hT hi, Result.andThen_ok, Sem.run_pure]; exact hK _ _ h
end
theorem infoN (x : Nm) : (Tryz.prog.info? 36).map (·.size) = some (u8s x.1).length := by simp only [u8s_length, x.2]; kernel_rfl
def CollN (D : DataW Unit) (left : Lit → Bool) (ss : List Nm) : Prop := ss.Nodup ∧ ∀ x : Nm, x ∈ ss ↔ (Maps.has D (kLit x.1) = true ∧ left (kLit x.1) = false)
theorem CollN.start (D : DataW Unit) : CollN D (Maps.has D) [] := ⟨List.nodup_nil, fun x => by cases Maps.has D (kLit x.1) <;> simp⟩
theorem sameKey_name (x y : Nm) : (kLit y.1).sameKey (kLit x.1) = decide (y = x) := by
  by_cases h : y = x
  · subst h; rw [decide_eq_true rfl]; simp [kLit, Lit.sameKey]
  · rw [decide_eq_false h]; exact Maps.sameKey_ne fun e => h (Subtype.ext (kLit_inj y.2 x.2 e))
theorem CollN.step {D : DataW Unit} {left : Lit → Bool} {ss : List Nm} (h : CollN D left ss) {x : Nm} {y : DataW Unit} (hlk : left (kLit x.1) = true) (hat : ∀ zd, D.atKey (kLit x.1) zd = y) : CollN D (fun z => left z && !z.sameKey (kLit x.1)) (ss ++ [x]) := by
  have hhas := Maps.has_true_of_atKey hat; have hnew : x ∉ ss := fun hx => by have := ((h.2 x).1 hx).2; rw [hlk] at this; cases this
  refine ⟨List.nodup_append.2 ⟨h.1, by simp, fun a ha b hb => by simp at hb; subst hb; exact fun e => hnew (e ▸ ha)⟩, fun z => ?_⟩; rw [List.mem_append, List.mem_singleton, h.2 z]; show _ ↔ (_ ∧ (left (kLit z.1) && !(kLit z.1).sameKey (kLit x.1)) = false); rw [sameKey_name]
  by_cases hz : z = x
  · subst hz; simp [hhas]
  · simp [hz]
def valN (x : Nm) : Value := by32 x.1
set_option maxRecDepth 100000 in
set_option maxHeartbeats 4000000 in
theorem keys_in (F : Fence) (n : Nat) (hf : F.fn 151) (hro : F.round = none) (hn : 1 ≤ n) (l Bm b nn : Nat) (D0 : DataW Unit) (J Jx : List Nm → World → Prop)
    (hY : ∀ pre x W, J pre W → pre.length < Maps.size D0 → YieldAt F (n - 1) Tryz.prog l #[valN x] W fun e W' =>
      (e = .returned (.bool true) ∧ J (pre ++ [x]) W' ∧ KeepsWalks W W') ∨ (e = .returned (.bool false) ∧ Jx (pre ++ [x]) W'))
    (W : World) (hJ : AbidesFrom W.heap.size J) (hm : W.cell? ⟨Bm, 0, none⟩ = some (.map (some b))) (hown : W.ownsMap Tryz.prog 36 R32 b nn D0) (h0 : J [] W) :
    CallsIn F n Tryz.prog 151 #[.func (.yield l) #[] #[], .pointer (some ⟨Bm, 0, none⟩)] W fun e W' => (∃ v, e = .returned v) ∧
      ((∃ ss : List Nm, (CollN D0 (fun _ => false) ss ∧ ss.length ≤ Maps.size D0) ∧ J ss W') ∨ (∃ pre : List Nm, pre.Nodup ∧ Jx pre W')) := by
  refine callsIn_of_wp Tryz.func151 rfl hf ?_ hro; simp only [Tryz.ntmps151, List.size_toArray, List.length_cons, List.length_nil, Nat.reduceAdd, Nat.reduceSub, Array.replicate_succ, Array.replicate_zero, List.push_toArray, List.append_toArray, List.nil_append, List.cons_append]
  gi_wp2_with (first
    | (gi_at_range; refine wpListIn_range_own _ rfl _ 122 rfl 36 35 keyedB Tryz.underlying122 _ b nn _ rfl hown ?_; intro w0 hrg0 hg0 hs0)
    | gi_in)
  go_frame
  gi_loopw [3] (fun _ wr => ∃ (left : Lit → Bool) (cnt : Nat) (ss : List Nm), wr.ranges Tryz.prog 36 R32 b W.heap.size nn D0 left cnt ∧ ss.length + cnt ≤ Maps.size D0 ∧ CollN D0 left ss ∧ J ss wr)
    (fun _ wr => wr.rangeLeft b W.heap.size)
  case atStart =>
    exact ⟨_, _, [], hrg0, by simp, CollN.start D0, hJ [] W w0 none h0 hg0 (fun r e => by cases e)⟩
  case round =>
    obtain ⟨left, cnt, ss, hrg, hcs, hC, hJs⟩ := hrel
    gi_wp2_with (first
      | (gi_at_next; refine wpListIn_next_ranges _ rfl _ rfl 36 keyedB R32 valN valN (fun key kl hk => by obtain ⟨x, h, e, _⟩ := keyOf_blind_inv hk; exact ⟨⟨x, h⟩, e⟩) (fun v y hv => by obtain ⟨x, h, e, _⟩ := R32_inv hv; exact ⟨⟨x, h⟩, e⟩) b W.heap.size nn _ _ _ rfl hrg ?_ ?_)
      | gi_in)
    · intro hc0 hl0
      gi_wp2
      go_end0
      have e : left = fun _ => false := funext hl0; rw [e] at hC; exact ⟨⟨_, rfl⟩, .inl ⟨ss, ⟨hC, by omega⟩, hJs⟩⟩
    · intro x0 hx0 c hc kl yd yp w2 cnt2 hkey hlk hv hat hrg2 hlt hg2 hs2 hen; obtain ⟨x, rfl⟩ : ∃ x : Nm, x0 = x.1 := ⟨⟨x0, hx0⟩, rfl⟩; obtain rfl : kLit x.1 = kl := Option.some.inj ((keyOf_blind x.2).symm.trans hkey); have hJ2 : J ss w2 := hJ ss wr w2 (some W.heap.size) hJs hg2 (fun r e => by cases e; exact ⟨Nat.le_refl _, hrg.iter_walk⟩); have hC2 := hC.step hlk hat; clear hs2
      gi_wp2_with (first
        | (refine wpListIn_new (w := w2) (t := 36) rfl _ _ _ rfl w2.heap.size (u8s x.1) rfl rfl rfl (by rw [u8s_length, x.2]; kernel_rfl) (infoN x) (u8s_oneCell x.1) ?_
           intro w3 hA3 hG3 hg3; have hJ3 : J ss w3 := hJ ss w2 w3 none hJ2 hg3 (fun r e => by cases e); have hk2 : KeepsWalks w2 w3 := KeepsWalks.of_grownBy hg3 (fun j o e => by cases e); have hY3 : YieldAt F (n - 1) Tryz.prog l #[.agg (u8s x.1).toArray] w3 _ := hY ss x w3 hJ3 (by omega); obtain ⟨fn, tmps, assign, body, hy, hR⟩ := hY3)
        | (refine wpListIn_load_mid rfl _ _ rfl rfl hA3 ⟨_, _, Tryz.underlying36⟩ (infoN x) ?_)
        | gi_in)
      refine hR.mono ?_; rintro e W3 (⟨rfl, hJ4, hk3⟩ | ⟨rfl, hJx3⟩)
      · gi_wp2
        have hrg3 := (hrg2.of_walks hk2).of_walks hk3
        go_roundw
        case rel => exact ⟨_, cnt2, ss ++ [x], hrg3, by simp; omega, hC2, hJ4⟩
        case measure => rw [hrg3.left_eq, hrg.left_eq]; exact hlt
      · gi_wp2
        refine bodyPost_ret (results_none rfl _ _ _) rfl ?_; exact ⟨⟨_, rfl⟩, .inr ⟨ss ++ [x], hC2.1, hJx3⟩⟩
theorem keys_stops (F : Fence) (n : Nat) (hf : F.fn 151) (hro : F.round = none) (hn : 1 ≤ n) (Bm b nn : Nat) (D0 : DataW Unit) (w : World) (hBm : Bm < w.heap.size)
    (hm : w.cell? ⟨Bm, 0, none⟩ = some (.map (some b))) (hown : w.ownsMap Tryz.prog 36 R32 b nn D0) :
    SeqStops F n Tryz.prog 151 #[.pointer (some ⟨Bm, 0, none⟩)] valN (fun ss => CollN D0 (fun _ => false) ss ∧ ss.length ≤ Maps.size D0) (fun pre => pre.Nodup) (Maps.size D0) w := fun l J Jx W hW hJ _ hY h0 => by
  have hown' : W.ownsMap Tryz.prog 36 R32 b nn D0 := by
    have hbl := hown.lt; obtain ⟨es, clock, hb, Ft, hs, hD⟩ := hown; exact ⟨es, clock, (hW.block b hbl).trans hb, Ft, hs, hD⟩
  exact keys_in F n hf hro hn l Bm b nn D0 J Jx hY W hJ ((hW.cell (p := ⟨Bm, 0, none⟩) hBm).trans hm) hown' h0
end Go.Proofs.YtjpphldojbfpfaaGreatDoor
namespace Go.Proofs.YtjpphldojbfpfaaGreatDoor
open Go.RowKit
attribute [local go_sem] Oper.semAt_some
set_option maxRecDepth 100000 in
set_option maxHeartbeats 4000000 in
theorem keys_new (F : Fence) (n : Nat) (hf : F.fn 133) (hro : F.round = none) (b : Option Nat) (w : World) :
    CallsIn F n Tryz.prog 133 #[.map b] w fun e w' =>
      e = .returned (.func (.func 151) #[] #[.pointer (some ⟨w.heap.size, 0, none⟩)]) ∧ w' = w.alloc (.cells #[.map b] 122) := by
  refine callsIn_of_wp Tryz.func133 rfl hf ?_ hro; simp only [Tryz.ntmps133, List.size_toArray, List.length_cons, List.length_nil, Nat.reduceAdd, Nat.reduceSub, Array.replicate_succ, Array.replicate_zero, List.push_toArray, List.append_toArray, List.nil_append, List.cons_append]
  gi_wp2
  go_ret
  exact ⟨rfl, rfl⟩
set_option maxRecDepth 100000 in
set_option maxHeartbeats 4000000 in
theorem leaf_in (F : Fence) (n : Nat) (hf : F.fn 48) (hro : F.round = none) (x : Nm) (w : World) :
    CallsIn F n Tryz.prog 48 #[.agg (u8s x.1).toArray] w fun e w' =>
      e = .returned (.int .i64 ((x.1.getD 0 0).toNat : Int)) ∧ w' = w.alloc (.cells (u8s x.1).toArray 36) := by
  refine callsIn_of_wp Tryz.func48 rfl hf ?_ hro; simp only [Tryz.ntmps48, List.size_toArray, List.length_cons, List.length_nil, Nat.reduceAdd, Nat.reduceSub, Array.replicate_succ, Array.replicate_zero, List.push_toArray, List.append_toArray, List.nil_append, List.cons_append]; have hlen : 0 < x.1.length := by rw [x.2]; decide
  have hx0 : (u8s x.1)[0]? = some (.int .u8 ((x.1.getD 0 0).toNat : Int)) := u8s_at (by rw [List.getD_eq_getElem?_getD, List.getElem?_eq_getElem hlen]; rfl); have hx1 := (x.1.getD 0 0).toNat_lt; have hx00 : ∀ h, (u8s x.1)[0]'h = .int .u8 ((x.1.getD 0 0).toNat : Int) := fun h => by rw [List.getElem?_eq_getElem h] at hx0; exact Option.some.inj hx0
  gi_wp2
  go_ret
  have hg : x.1.getD 0 0 = x.1[0] := by rw [List.getD_eq_getElem?_getD, List.getElem?_eq_getElem hlen]; rfl
  rw [hg] at hx1 ⊢; refine ⟨?_, rfl⟩; have e : ∀ m : Nat, m < 2 ^ 8 → wrap64 (m : Int) = (m : Int) := fun m hm => by unfold wrap64; omega
  rw [e _ hx1]; rfl
end Go.Proofs.YtjpphldojbfpfaaGreatDoor
namespace Go.Proofs.YtjpphldojbfpfaaGreatDoor
open Go.RowKit
theorem leaf_any (x : Nm) (w : World) : Calls Tryz.prog 48 #[.agg (u8s x.1).toArray] w fun e w' => e = .returned (.int .i64 ((x.1.getD 0 0).toNat : Int)) ∧ Gr w w' :=
  (callsIn_wide.1 (leaf_in Fence.wide 1 trivial rfl x w)).mono fun _ _ ⟨h1, h2⟩ => ⟨h1, h2 ▸ Gr.alloc w _⟩
end Go.Proofs.YtjpphldojbfpfaaGreatDoor
namespace Go.Proofs.YtjpphldojbfpfaaGreatDoor
open Go.RowKit
open Go.ChangeMaps (setBlock)
def LfAny : Prop := ∀ (w : World) (g b n : Nat) (R : Rw) (N : Nat → Nat → List UInt8), TreeAt w g b n (look R) N → SortedR R → n ≤ 10000 → ∀ a : Nat, Glob w →
  Calls Tryz.prog 49 #[.pointer (some ⟨g, 0, none⟩), .int .i64 (a : Int)] w fun e w' => e = .returned (by32 (leafR R a)) ∧ Gr w w'
theorem run_eqlA32 {ev : Operand → Value} {d : Option Tmp} {t : TypeId} {p : String} {af : Array Edge} {gd : Option (Nat × Bool)} {w : World} {x y : Operand} {T : TypeId} {D E : List UInt8} (hD : D.length = 32) (hE : E.length = 32) (h1 : ev x = .agg (u8s D).toArray) (h2 : ev y = .agg (u8s E).toArray) :
    (execOp ev ⟨d, .binOp .eql 35 x y T, t, p, af, gd⟩).run Tryz.prog w = .ok (.value (.bool (D == E))) w := by
  have h3 := run_equalIn_bytes (P := Tryz.prog) w 9998 35 5 32 Tryz.underlying35 Tryz.underlying5 (fun w => by kernel_rfl) D E hD hE; have h4 : (Op.equalIn 10000 35 (.agg (u8s D).toArray) (.agg (u8s E).toArray)).run Tryz.prog w = .ok (D == E) w := h3; simp only [execOp, h1, h2]; go_simp
section
variable {ops : Array Oper} {rest : List Oper} {o : Oper} {a : Act} {w : World} {Q : Exit → Act → World → Prop} {b n : Nat} {M : List UInt8 → Option (List UInt8)}
theorem wpList_mapPut (hgd : o.guard = none) {t e : TypeId} (m x v : Operand) (ho : o.op = .mapUpdate t m x v) (h : TM w b n M) (ht : Tryz.prog.underlying t = some (.map 36 e)) (hn : n < maxLen) {k d : List UInt8} (hk : k.length = 32) (hd : d.length = 32) (hm : a.eval m = .map (some b)) (h1 : a.eval x = by32 k) (h2 : a.eval v = by32 d)
    (hK : ∀ o' w', w' = setBlock w b o' → TM w' b (n + 1) (upd M k (some d)) → wpList Tryz.prog ops Q rest (a.put o.dst undef) w') : wpList Tryz.prog ops Q (o :: rest) a w := by
  refine wpList_plain hgd fun K' hK' => ?_; obtain ⟨w', hrun, hM, o', hw⟩ := h.put ht hn hk hd; unfold Oper.wp; simp only [execOp, ho, hm, h1, h2, Sem.run_bind, hrun, Result.andThen_ok, Sem.run_pure]; exact hK' _ _ (hK o' w' hw hM)
theorem wpList_mapDel (hgd : o.guard = none) {t e : TypeId} (m x : Operand) (ho : o.op = .call { callee := .builtin .delete, args := #[m, x], argTypes := #[t, 36] }) (h : TM w b n M) (ht : Tryz.prog.underlying t = some (.map 36 e)) {k : List UInt8} (hk : k.length = 32) (hm : a.eval m = .map (some b)) (h1 : a.eval x = by32 k)
    (hK : ∀ o' w' v, w' = setBlock w b o' → TM w' b n (upd M k none) → wpList Tryz.prog ops Q rest (a.put o.dst v) w') : wpList Tryz.prog ops Q (o :: rest) a w := by
  refine wpList_plain hgd fun K' hK' => ?_; obtain ⟨w', hrun, hM, o', hw⟩ := h.del ht hk o.type; unfold Oper.wp; simp only [execOp, ho, resolve, invoke, builtin, List.map_toArray, List.map_cons, List.map_nil, hm, h1, Sem.run_bind, hrun, Result.andThen_ok, Sem.run_pure]; exact hK' _ _ (hK o' w' _ hw hM)
end
theorem run_cut4 {g o q : Nat} (hq : q < 64) (w : World) : (Instr.sliceAt 123 (.pointer (some ⟨g, o, none⟩)) (some (.int .i64 ((4 * q : Nat) : Int))) (some (.int .i64 ((4 * q + 4 : Nat) : Int))) none).run Tryz.prog w = .ok (.slice (some ⟨g, o + 4 * q * 32, none⟩) 4 (256 - 4 * q)) w := by
  obtain ⟨e1, e2⟩ := arrayLen_of Tryz.underlying123; have hs : (sizeOf 35).run Tryz.prog w = .ok 32 w := by kernel_rfl
  rw [run_sliceAt_array_lh w 123 _ (by rw [e1, e2]; exact Tryz.underlying123) _ _ _ _ (by omega) (by omega) (by rw [e1]; omega), e1, e2]; simp only [hs, Result.andThen_ok, slicedAt, Int.toNat_natCast]; rw [if_neg (by omega), add_row, show 4 * q + 4 - 4 * q = 4 by omega]
def SetR (B g b n : Nat) (R : Rw) (k d : Nm) (w0 : World) (at_ lv : Value) (w : World) : Prop :=
  ∃ (h : Nat) (N : Nat → Nat → List UInt8), h ≤ 4 ∧ at_ = .int .i64 ((leafOf k / 4 ^ h : Nat) : Int) ∧ lv = .int .i64 (3 - (h : Int)) ∧ TreeAt w g b n (look (setR R k d)) N ∧ Path R (setR R k d) (h + 1) N ∧ Tn (treeT g b) B w0 w
theorem SetR.out {B g b n : Nat} {R : Rw} {k d : Nm} {w0 : World} {x y : Value} {w : World} (h : SetR B g b n R k d w0 x y w) :
  ∃ (h : Nat) (N : Nat → Nat → List UInt8), h ≤ 4 ∧ x = .int .i64 ((leafOf k / 4 ^ h : Nat) : Int) ∧ y = .int .i64 (3 - (h : Int)) ∧ TreeAt w g b n (look (setR R k d)) N ∧ Path R (setR R k d) (h + 1) N ∧ Tn (treeT g b) B w0 w := h
set_option maxRecDepth 100000 in
set_option maxHeartbeats 8000000 in
theorem set_walk (HL : LfAny) {w : World} {g b n B : Nat} {R : Rw} (hT : TreeIs w g b n R) (hn : n ≤ 9000) (k d : Nm) (hg : B ≤ g) (hb : B ≤ b) (hB : B ≤ w.heap.size) (gw : Glob w) (gl : LowG B) :
    Calls Tryz.prog 24 #[.pointer (some ⟨g, 0, none⟩), .agg (u8s k.1).toArray, .agg (u8s d.1).toArray] w fun e w' => e = .returned (.tuple #[]) ∧ TreeIs w' g b (n + 1) (setR R k d) ∧ Tn (treeT g b) B w w' := by
  obtain ⟨⟨N, hT1, hN⟩, hS⟩ := hT; have hS' := setR_sorted hS k d; have HT := Lib.hid hT1; have HN := Lib.hid (Path.start (k := k) (d := d) hN); have HS := Lib.hid hS'; clear hT1 hN hS hS'
  go_enter Tryz.func24, Tryz.ntmps24
  go_upto_block 0 with fail
  have h4 : Arr ((w.alloc (.cells (u8s k.1).toArray 36)).alloc (.cells (u8s d.1).toArray 35)) w.heap.size 36 (u8s k.1) := Arr.alloc (Arr.newAt rfl rfl) _; have h5 : Arr ((w.alloc (.cells (u8s k.1).toArray 36)).alloc (.cells (u8s d.1).toArray 35)) (w.heap.size + 1) 35 (u8s d.1) := Arr.newAt (by simp only [asz]) rfl; have gb : Gr w ((w.alloc (.cells (u8s k.1).toArray 36)).alloc (.cells (u8s d.1).toArray 35)) := (Gr.alloc _ _).trans (Gr.alloc _ _); try change Code.wp _ _ _ _ ((w.alloc (.cells (u8s k.1).toArray 36)).alloc (.cells (u8s d.1).toArray 35))
  generalize (w.alloc (.cells (u8s k.1).toArray 36)).alloc (.cells (u8s d.1).toArray 35) = w0 at h4 h5 gb ⊢; obtain ⟨g5, hg5⟩ : ∃ g5, g5 = w.heap.size + 1 := ⟨_, rfl⟩; rw [← hg5] at h5 ⊢; clear hg5; have hB0 : B ≤ w0.heap.size := Nat.le_trans hB gb.size; generalize w.heap.size = g4 at h4 ⊢; have HTN : Hid (Tn (treeT g b) B w w0) := Lib.hid (Tn.of_gr gb); have HT0 := Lib.hid (HT.out.gr gb); have hkl := k.2; have hdl := d.2
  go_cut [] from 8 to 25 (fun wx => TreeAt wx g b (n + 1) (look (setR R k d)) N ∧ Arr wx g4 36 (u8s k.1) ∧ Tn (treeT g b) B w wx)
  case first =>
    by_cases hz : d.1 = Z32
    · have hzb : (d.1 == Z32) = true := by rw [hz]; rfl
      have HU := Lib.hid (look_set R k d); rw [if_pos hz] at HU; clear hz
      go_upto_region 4 with first
        | (refine wpList_load_mid rfl _ _ rfl g5 0 rfl (u8s d.1) _ (Arr.range h5) Tryz.underlying35 rfl (infoD _ hdl) ?_)
        | (refine wpList_valW rfl (.bool (d.1 == Z32)) _ (run_eqlA32 (x := .tmp 18) (y := .tmp 19) hdl rfl rfl rfl) ?_)
      refine wp_region_cut (by kernel_rfl) [IsV (.pointer (some ⟨g, 0, none⟩)), IsV (.pointer (some ⟨g, 0, none⟩)), IsV (.pointer (some ⟨g, 0, none⟩)), IsV (.map (some b)), IsV (by32 k.1)] 5 (by decide) (by kernel_rfl) (by kernel_rfl) (by kernel_rfl) ?_ ?_ ?_
      · intro φ hφ v w1 w2 h hg; simp only [List.mem_cons, List.not_mem_nil, or_false] at hφ; rcases hφ with rfl | rfl | rfl | rfl | rfl <;> exact h
      · refine ⟨?_, ?_, ?_, ?_, ?_, trivial⟩
        · intro a1 w1 hG hF; exact s_old rfl (wants0 rfl) (.tmp 0) (.inr rfl) (.pointer (some ⟨g, 0, none⟩)) (hF.ol 0 (by kernel_rfl)) rfl
        · intro a1 w1 hG hF; obtain ⟨_, e1, rfl⟩ := hF.dp 0 21 (by kernel_rfl); exact s_is rfl (wants0 rfl) _ rfl (by simp only [execOp, e1]; go_simp)
        · intro a1 w1 hG hF; obtain ⟨_, e1, rfl⟩ := hF.dp 1 22 (by kernel_rfl); exact s_is rfl (wants0 rfl) _ rfl (by simp only [execOp, e1]; go_simp)
        · intro a1 w1 hG hF; obtain ⟨_, e1, rfl⟩ := hF.dp 2 23 (by kernel_rfl); have hc := (HT0.out.gr ((Gr.drew w0).trans hG)).cell0; exact s_is rfl (wants0 rfl) _ rfl (by simp only [execOp, e1]; go_simp)
        · intro a1 w1 hG hF; have e4 : a1.eval (.tmp 4) = .pointer (some ⟨g4, 0, none⟩) := hF.ol 4 (by kernel_rfl); have hA := h4.gr ((Gr.drew w0).trans hG); exact s_is rfl (wants0 rfl) _ rfl (by simp only [execOp, e4, hA.loadAt Tryz.underlying36 (infoN k), Sem.run_bind, Result.andThen_ok, Sem.run_pure]; rfl)
      · intro vs w1 hG hf; have ym : vs 3 = .map (some b) := hf.2.2.2.1; have yk : vs 4 = by32 k.1 := hf.2.2.2.2.1; clear hf; simp only [List.take_succ_cons, List.take_zero, List.drop_succ_cons, List.drop_zero, putAll, Nat.zero_add, Nat.reduceAdd, ym, yk]; have hG1 := (Gr.drew w0).trans hG; have hT1 := HT0.out.gr hG1; refine wpList_mapDel rfl (.tmp 24) (.tmp 25) rfl hT1.map Tryz.underlying122 hkl (by kernel_rfl) (by kernel_rfl) ?_; intro o' w' v hw hM; rw [← HU.out] at hM; have hT2 := TreeAt.more (hT1.map' hw hM); have hT3 := HTN.out.trans ((Tn.of_gr hG1).trans (Tn.setMap hT1.map hw hM hb (fun es c => by simp [treeT]))); have h42 := (h4.gr hG1).tn (Tn.setMap (τ := treeT g b) hT1.map hw hM hb (fun es c => by simp [treeT])) (fun C f => treeT_cells rfl); clear hT1 hM hw; unfold wpList; go_simp; try refine .inl ?_
        go_wp2_with fail
        go_meet
        exact ⟨hT2, h42, hT3⟩
    · have hzb : (d.1 == Z32) = false := beq_false_of_ne hz; have HU := Lib.hid (look_set R k d); rw [if_neg hz] at HU; clear hz
      go_upto_region 1 with first
        | (refine wpList_load_mid rfl _ _ rfl g5 0 rfl (u8s d.1) _ (Arr.range h5) Tryz.underlying35 rfl (infoD _ hdl) ?_)
        | (refine wpList_valW rfl (.bool (d.1 == Z32)) _ (run_eqlA32 (x := .tmp 18) (y := .tmp 19) hdl rfl rfl rfl) ?_)
      refine wp_region_cut (by kernel_rfl) [IsV (.pointer (some ⟨g, 0, none⟩)), IsV (.pointer (some ⟨g, 0, none⟩)), IsV (.pointer (some ⟨g, 0, none⟩)), IsV (.map (some b)), IsV (by32 k.1), IsV (by32 d.1)] 6 (by decide) (by kernel_rfl) (by kernel_rfl) (by kernel_rfl) ?_ ?_ ?_
      · intro φ hφ v w1 w2 h hg; simp only [List.mem_cons, List.not_mem_nil, or_false] at hφ; rcases hφ with rfl | rfl | rfl | rfl | rfl | rfl <;> exact h
      · refine ⟨?_, ?_, ?_, ?_, ?_, ?_, trivial⟩
        · intro a1 w1 hG hF; exact s_old rfl (wants0 rfl) (.tmp 0) (.inr rfl) (.pointer (some ⟨g, 0, none⟩)) (hF.ol 0 (by kernel_rfl)) rfl
        · intro a1 w1 hG hF; obtain ⟨_, e1, rfl⟩ := hF.dp 0 8 (by kernel_rfl); exact s_is rfl (wants0 rfl) _ rfl (by simp only [execOp, e1]; go_simp)
        · intro a1 w1 hG hF; obtain ⟨_, e1, rfl⟩ := hF.dp 1 9 (by kernel_rfl); exact s_is rfl (wants0 rfl) _ rfl (by simp only [execOp, e1]; go_simp)
        · intro a1 w1 hG hF; obtain ⟨_, e1, rfl⟩ := hF.dp 2 10 (by kernel_rfl); have hc := (HT0.out.gr ((Gr.drew w0).trans hG)).cell0; exact s_is rfl (wants0 rfl) _ rfl (by simp only [execOp, e1]; go_simp)
        · intro a1 w1 hG hF; have e4 : a1.eval (.tmp 4) = .pointer (some ⟨g4, 0, none⟩) := hF.ol 4 (by kernel_rfl); have hA := h4.gr ((Gr.drew w0).trans hG); exact s_is rfl (wants0 rfl) _ rfl (by simp only [execOp, e4, hA.loadAt Tryz.underlying36 (infoN k), Sem.run_bind, Result.andThen_ok, Sem.run_pure]; rfl)
        · intro a1 w1 hG hF; have e5 : a1.eval (.tmp 5) = .pointer (some ⟨g5, 0, none⟩) := hF.ol 5 (by kernel_rfl); have hA := h5.gr ((Gr.drew w0).trans hG); exact s_is rfl (wants0 rfl) _ rfl (by simp only [execOp, e5, hA.loadAt Tryz.underlying35 (infoD d.1 hdl), Sem.run_bind, Result.andThen_ok, Sem.run_pure]; rfl)
      · intro vs w1 hG hf; have ym : vs 3 = .map (some b) := hf.2.2.2.1; have yk : vs 4 = by32 k.1 := hf.2.2.2.2.1; have yd : vs 5 = by32 d.1 := hf.2.2.2.2.2.1; clear hf; simp only [List.take_succ_cons, List.take_zero, List.drop_succ_cons, List.drop_zero, putAll, Nat.zero_add, Nat.reduceAdd, ym, yk, yd]; have hG1 := (Gr.drew w0).trans hG; have hT1 := HT0.out.gr hG1; refine wpList_mapPut rfl (.tmp 11) (.tmp 12) (.tmp 13) rfl hT1.map Tryz.underlying122 (by unfold maxLen; omega) hkl hdl (by kernel_rfl) (by kernel_rfl) (by kernel_rfl) ?_; intro o' w' hw hM; rw [← HU.out] at hM; have hT2 := hT1.map' hw hM; have hT3 := HTN.out.trans ((Tn.of_gr hG1).trans (Tn.setMap hT1.map hw hM hb (fun es c => by simp [treeT]))); have h42 := (h4.gr hG1).tn (Tn.setMap (τ := treeT g b) hT1.map hw hM hb (fun es c => by simp [treeT])) (fun C f => treeT_cells rfl); clear hT1 hM hw; unfold wpList; go_simp; try refine .inl ?_
        go_wp2_with fail
        go_meet
        exact ⟨hT2, h42, hT3⟩
  case rest =>
    obtain ⟨hTc, h4c, hTnc⟩ := hcut; clear h4 h5 HTN HT0 gb HT; have hle := HS.out; have HT := Lib.hid hTc; have HTN := Lib.hid hTnc; have hBc : B ≤ wc.heap.size := Nat.le_trans hB hTnc.size; have gwc : Glob wc := gw.keep (hTnc.below hB) gl; have HLL := Lib.hid hle; clear hTc hTnc hle hB0; have HLF : Hid (∀ w, Calls Tryz.prog 48 #[.agg (u8s k.1).toArray] w fun e w' => e = .returned (.int .i64 (leafOf k : Int)) ∧ Gr w w') := Lib.hid (leaf_any k); have hk256 := leafOf_lt k; obtain ⟨a, ha⟩ : ∃ a, a = leafOf k := ⟨_, rfl⟩; rw [← ha] at HLF hk256; have HA := Lib.hid ha; clear ha
    go_upto_region 6 with first
      | (refine wpList_load_mid rfl _ _ rfl g4 0 rfl (u8s k.1) _ (Arr.range h4c) Tryz.underlying36 rfl (infoN k) ?_)
      | (go_at_call 48; refine (HLF.out _).mono ?_; rintro e w5 ⟨rfl, hG5⟩)
    have HT5 := Lib.hid (HT.out.gr hG5); have HTN5 := Lib.hid (HTN.out.gr hG5); have gw5 := Glob.gr hG5 gwc; clear HT HTN gwc h4c hBc; obtain ⟨D, hD⟩ : ∃ D, D = leafR (setR R k d) a := ⟨_, rfl⟩; have hDl : D.length = 32 := by rw [hD]; exact leafR_length _ _
    have HD := Lib.hid hD; clear hD; have hle : 32769 + a * 32 = 1 + 4 * 8192 + a * 32 := by omega
    refine wp_region_cut (by kernel_rfl) [IsV (.pointer (some ⟨g, 0, none⟩)), IsV (.int .i64 (a : Int)), IsV (.pointer (some ⟨g, 0, none⟩)), IsV (.int .i64 (a : Int)), IsV (by32 D), IsV (.pointer (some ⟨g, 0, none⟩)), IsV (.pointer (some ⟨g, 1, none⟩)), IsV (.pointer (some ⟨g, 32769, none⟩)), IsV (.pointer (some ⟨g, 32769 + a * 32, none⟩))] 9 (by decide) (by kernel_rfl) (by kernel_rfl) (by kernel_rfl) ?_ ?_ ?_
    · intro φ hφ v w1 w2 h hg; simp only [List.mem_cons, List.not_mem_nil, or_false] at hφ; rcases hφ with rfl | rfl | rfl | rfl | rfl | rfl | rfl | rfl | rfl <;> exact h
    · refine ⟨?_, ?_, ?_, ?_, ?_, ?_, ?_, ?_, ?_, trivial⟩
      · intro a1 w1 hG hF; exact s_old rfl (wants0 rfl) (.tmp 0) (.inr rfl) (.pointer (some ⟨g, 0, none⟩)) (hF.ol 0 (by kernel_rfl)) rfl
      · intro a1 w1 hG hF; exact s_old rfl (wants0 rfl) (.tmp 6) (.inr rfl) (.int .i64 (a : Int)) (hF.ol 6 (by kernel_rfl)) rfl
      · intro a1 w1 hG hF; exact s_old rfl (wants0 rfl) (.tmp 0) (.inr rfl) (.pointer (some ⟨g, 0, none⟩)) (hF.ol 0 (by kernel_rfl)) rfl
      · intro a1 w1 hG hF; exact s_old rfl (wants0 rfl) (.tmp 6) (.inr rfl) (.int .i64 (a : Int)) (hF.ol 6 (by kernel_rfl)) rfl
      · intro a1 w1 hG hF; obtain ⟨_, e30, rfl⟩ := hF.dp 2 30 (by kernel_rfl); obtain ⟨_, e31, rfl⟩ := hF.dp 3 31 (by kernel_rfl); have hG1 := (Gr.drew w5).trans hG; have hc := HL w1 g b (n + 1) (setR R k d) N (HT5.out.gr hG1) HS.out (by omega) a (Glob.gr hG1 gw5); rw [← HD.out] at hc; exact s_call rfl (wants0 rfl) _ rfl _ _ (by simp only [execOp, resolve, invoke, List.map_toArray, List.map_cons, List.map_nil, e30, e31]; go_simp) (hc.mono fun e w2 ⟨he, hb⟩ => ⟨_, he, rfl, hb⟩)
      · intro a1 w1 hG hF; obtain ⟨_, e28, rfl⟩ := hF.dp 0 28 (by kernel_rfl); exact s_is rfl (wants0 rfl) _ rfl (by simp only [execOp, e28]; go_simp)
      · intro a1 w1 hG hF; obtain ⟨_, e33, rfl⟩ := hF.dp 5 33 (by kernel_rfl); exact s_is rfl (wants0 rfl) _ rfl (by simp only [execOp, e33]; go_simp)
      · intro a1 w1 hG hF; obtain ⟨_, e34, rfl⟩ := hF.dp 6 34 (by kernel_rfl); exact s_is rfl (wants0 rfl) _ rfl (by simp only [execOp, e34]; go_simp)
      · intro a1 w1 hG hF; obtain ⟨_, e29, rfl⟩ := hF.dp 1 29 (by kernel_rfl); obtain ⟨_, e35, rfl⟩ := hF.dp 7 35 (by kernel_rfl); exact s_is rfl (wants0 rfl) _ rfl (by simp only [execOp, e29, e35]; go_simp; intro h; omega)
    · intro vs w1 hG hf; have yD : vs 4 = by32 D := hf.2.2.2.2.1; have yp : vs 8 = .pointer (some ⟨g, 1 + 4 * 8192 + a * 32, none⟩) := by rw [← hle]; exact hf.2.2.2.2.2.2.2.2.1
      clear hf; simp only [List.take_succ_cons, List.take_zero, List.drop_succ_cons, List.drop_zero, putAll, Nat.zero_add, Nat.reduceAdd, yD, yp]; have hG1 := (Gr.drew w5).trans hG; have hT6 := HT5.out.gr hG1; have hTN6 := HTN5.out.gr hG1; refine wpList_store_mid rfl _ _ _ rfl g (1 + 4 * 8192 + a * 32) (u8s D).toArray (by kernel_rfl) (by kernel_rfl) (by have := hT6.there (l := 4) (a := a) (by omega) hk256; simpa [u8s_length, hDl] using this) (by have := infoD D hDl; simpa using this) (all_oneCell_toArray (u8s_oneCell _)) ?_; rw [List.toList_toArray]; have hT7 := hT6.set (l := 4) (a := a) (by omega) hk256 hDl; have hTN7 := hTN6.trans (Tn.setCells (τ := treeT g b) hg (fun C f => by simp [treeT]) (u8s D) (1 + 4 * 8192 + a * 32) w1 _ hT6.arr); have hP7 := Path.step HN.out (by omega); have e0 : leafOf k / 4 ^ 0 = a := by rw [HA.out]; simp
      have eD : nodeR (setR R k d) 0 a = D := HD.out.symm; rw [e0, eD] at hP7; generalize w1.setCells g (1 + 4 * 8192 + a * 32) (u8s D) = w7 at hT7 hTN7 ⊢; have hR7 : SetR B g b (n + 1) R k d w (.int .i64 (a : Int)) (.int .i64 3) w7 := ⟨0, _, by omega, by rw [e0], rfl, hT7, hP7, hTN7⟩; clear hT7 hTN7 hP7 e0 eD hT6 hTN6 hG1 HT5 HTN5 gw5 hle yD yp hG hG5 HD; unfold wpList; go_simp; try refine .inl ?_
      go_upto_region 8 with fail
      clear hDl HLF
      go_loopw [6, 7] (fun x y wr => SetR B g b (n + 1) R k d w x y wr) (fun _ y _ => (intOf y + 1).toNat)
      case atStart => exact hR7
      case round =>
        obtain ⟨h, N1, hh, rfl, rfl, hT1, hP1, hTN1⟩ := SetR.out hrel
        by_cases hlt : h < 4
        · obtain ⟨l, hl⟩ : ∃ l, l = 3 - h := ⟨_, rfl⟩; have el : (3 - (h : Int)) = (l : Int) := by omega
          rw [el]; clear hrel el; obtain ⟨A, hA⟩ : ∃ A, A = leafOf k / 4 ^ h := ⟨_, rfl⟩; rw [← hA]; have hA256 : A < 256 := by rw [hA]; exact Nat.lt_of_le_of_lt (Nat.div_le_self _ _) (leafOf_lt k)
          have HA1 := Lib.hid hA; have HL1 := Lib.hid hl; have hl4 : l < 4 := by omega
          clear hA hl
          go_upto_region 11 with fail
          obtain ⟨q, hq⟩ : ∃ q, q = A / 4 := ⟨_, rfl⟩; have eq4 : ((A : Int) / 4) = (q : Int) := by omega
          rw [eq4]; have hq64 : q < 64 := by omega
          have HQ : Hid (q = leafOf k / 4 ^ (h + 1)) := Lib.hid (by rw [hq, HA1.out, Nat.div_div_eq_div_mul, Nat.pow_succ]); have hl1 : l + 1 = 4 - h := by have := HL1.out; omega
          obtain ⟨D, hD⟩ : ∃ D, D = nodeR (setR R k d) (h + 1) q := ⟨_, rfl⟩; have hDl : D.length = 32 := by rw [hD]; exact nodeR_length _ _ _
          have HT1 := Lib.hid hT1; have HTN1 := Lib.hid hTN1; have gwr : Glob wr := gw.keep (hTN1.below hB) gl
          have HC : Hid (∀ w1, Gr wr w1 → Calls Tryz.prog 50 #[.slice (some ⟨g, 1 + (l + 1) * 8192 + 4 * q * 32, none⟩) 4 (256 - 4 * q)] w1 fun e w' => e = .returned (by32 D) ∧ Gr w1 w') := Lib.hid (by
            intro w1 hG1
            have h2 := above_any (w := w1) (g := g) (o := 1 + (l + 1) * 8192 + 4 * q * 32) (c := 256 - 4 * q) (D := fun i => N1 (4 - h) (4 * (leafOf k / 4 ^ (h + 1)) + i)) (fun i => hT1.full _ _) (fun i hi => by
              have h3 := (hT1.gr hG1).range (l := l + 1) (a := 4 * q + i) (by omega) (by omega); rw [← HQ.out, ← hl1]; exact rangeEq h3 (by omega)) (Glob.gr hG1 gwr)
            rw [Path.four hP1 hlt (leafOf_lt k), ← HQ.out, ← hD] at h2; exact h2)
          have HPN : Hid (Path R (setR R k d) (h + 1 + 1) (updN N1 l q D)) := Lib.hid (by
            have h2 := Path.step hP1 (by omega); rw [← HQ.out, ← hD, show 4 - (h + 1) = l by omega] at h2; exact h2)
          clear hD hT1 hTN1 hP1 gwr eq4 hq; refine wp_region_cut (by kernel_rfl) [IsV (.pointer (some ⟨g, 0, none⟩)), IsV (.int .i64 ((l : Nat) : Int)), IsV (.int .i64 ((q : Nat) : Int)), IsV (.pointer (some ⟨g, 0, none⟩)), IsV (.int .i64 ((l : Nat) : Int)), IsV (.int .i64 ((l + 1 : Nat) : Int)), IsV (.pointer (some ⟨g, 0, none⟩)), IsV (.pointer (some ⟨g, 1, none⟩)), IsV (.pointer (some ⟨g, 1 + (l + 1) * 8192, none⟩)), IsV (.int .i64 ((q : Nat) : Int)), IsV (.int .i64 ((4 * q : Nat) : Int)), IsV (.int .i64 ((q : Nat) : Int)), IsV (.int .i64 ((4 * q : Nat) : Int)), IsV (.int .i64 ((4 * q + 4 : Nat) : Int)), IsV (.slice (some ⟨g, 1 + (l + 1) * 8192 + 4 * q * 32, none⟩) 4 (256 - 4 * q)), IsV (by32 D), IsV (.pointer (some ⟨g, 0, none⟩)), IsV (.pointer (some ⟨g, 1, none⟩)), IsV (.pointer (some ⟨g, 1 + l * 8192, none⟩)), IsV (.pointer (some ⟨g, 1 + l * 8192 + q * 32, none⟩))] 20 (by decide) (by kernel_rfl) (by kernel_rfl) (by kernel_rfl) ?_ ?_ ?_
          · intro φ hφ v w1 w2 h hg; simp only [List.mem_cons, List.not_mem_nil, or_false] at hφ; rcases hφ with rfl | rfl | rfl | rfl | rfl | rfl | rfl | rfl | rfl | rfl | rfl | rfl | rfl | rfl | rfl | rfl | rfl | rfl | rfl | rfl <;> exact h
          · refine ⟨?_, ?_, ?_, ?_, ?_, ?_, ?_, ?_, ?_, ?_, ?_, ?_, ?_, ?_, ?_, ?_, ?_, ?_, ?_, ?_, trivial⟩
            · intro a1 w1 hG hF; exact s_old rfl (wants0 rfl) (.tmp 0) (.inr rfl) (.pointer (some ⟨g, 0, none⟩)) (hF.ol 0 (by kernel_rfl)) rfl
            · intro a1 w1 hG hF; exact s_old rfl (wants0 rfl) (.tmp 7) (.inr rfl) (.int .i64 (l : Int)) (hF.ol 7 (by kernel_rfl)) rfl
            · intro a1 w1 hG hF; exact s_old rfl (wants0 rfl) (.tmp 6) (.inr rfl) (.int .i64 (q : Int)) (hF.ol 6 (by kernel_rfl)) rfl
            · intro a1 w1 hG hF; exact s_old rfl (wants0 rfl) (.tmp 0) (.inr rfl) (.pointer (some ⟨g, 0, none⟩)) (hF.ol 0 (by kernel_rfl)) rfl
            · intro a1 w1 hG hF; exact s_old rfl (wants0 rfl) (.tmp 7) (.inr rfl) (.int .i64 (l : Int)) (hF.ol 7 (by kernel_rfl)) rfl
            · intro a1 w1 hG hF; obtain ⟨_, e47, rfl⟩ := hF.dp 4 47 (by kernel_rfl); exact s_is rfl (wants0 rfl) _ rfl (run_addN (a := l) (b := 1) e47 rfl (by omega))
            · intro a1 w1 hG hF; obtain ⟨_, e46, rfl⟩ := hF.dp 3 46 (by kernel_rfl); exact s_is rfl (wants0 rfl) _ rfl (by simp only [execOp, e46]; go_simp)
            · intro a1 w1 hG hF; obtain ⟨_, e49, rfl⟩ := hF.dp 6 49 (by kernel_rfl); exact s_is rfl (wants0 rfl) _ rfl (by simp only [execOp, e49]; go_simp)
            · intro a1 w1 hG hF; obtain ⟨_, e50, rfl⟩ := hF.dp 7 50 (by kernel_rfl); obtain ⟨_, e48, rfl⟩ := hF.dp 5 48 (by kernel_rfl); exact s_is rfl (wants0 rfl) _ rfl (by simp only [execOp, e50, e48]; go_simp; try (intro h; omega))
            · intro a1 w1 hG hF; exact s_old rfl (wants0 rfl) (.tmp 6) (.inr rfl) (.int .i64 (q : Int)) (hF.ol 6 (by kernel_rfl)) rfl
            · intro a1 w1 hG hF; obtain ⟨_, e52, rfl⟩ := hF.dp 9 52 (by kernel_rfl); exact s_is rfl (wants0 rfl) _ rfl (run_mulN (a := 4) (b := q) rfl e52 (by omega))
            · intro a1 w1 hG hF; exact s_old rfl (wants0 rfl) (.tmp 6) (.inr rfl) (.int .i64 (q : Int)) (hF.ol 6 (by kernel_rfl)) rfl
            · intro a1 w1 hG hF; obtain ⟨_, e54, rfl⟩ := hF.dp 11 54 (by kernel_rfl); exact s_is rfl (wants0 rfl) _ rfl (run_mulN (a := 4) (b := q) rfl e54 (by omega))
            · intro a1 w1 hG hF; obtain ⟨_, e55, rfl⟩ := hF.dp 12 55 (by kernel_rfl); exact s_is rfl (wants0 rfl) _ rfl (run_addN (a := 4 * q) (b := 4) e55 rfl (by omega))
            · intro a1 w1 hG hF; obtain ⟨_, e51, rfl⟩ := hF.dp 8 51 (by kernel_rfl); obtain ⟨_, e53, rfl⟩ := hF.dp 10 53 (by kernel_rfl); obtain ⟨_, e56, rfl⟩ := hF.dp 13 56 (by kernel_rfl); exact s_is rfl (wants0 rfl) _ rfl (by simp only [execOp, e51, e53, e56, Option.map, Sem.run_bind, run_cut4 hq64, Result.andThen_ok, Sem.run_pure])
            · intro a1 w1 hG hF; obtain ⟨_, e57, rfl⟩ := hF.dp 14 57 (by kernel_rfl); have hc := HC.out w1 ((Gr.drew wr).trans hG); exact s_call rfl (wants0 rfl) _ rfl _ _ (by simp only [execOp, resolve, invoke, List.map_toArray, List.map_cons, List.map_nil, e57]; go_simp) (hc.mono fun e w2 ⟨he, hb⟩ => ⟨_, he, rfl, hb⟩)
            · intro a1 w1 hG hF; obtain ⟨_, e43, rfl⟩ := hF.dp 0 43 (by kernel_rfl); exact s_is rfl (wants0 rfl) _ rfl (by simp only [execOp, e43]; go_simp)
            · intro a1 w1 hG hF; obtain ⟨_, e59, rfl⟩ := hF.dp 16 59 (by kernel_rfl); exact s_is rfl (wants0 rfl) _ rfl (by simp only [execOp, e59]; go_simp)
            · intro a1 w1 hG hF; obtain ⟨_, e60, rfl⟩ := hF.dp 17 60 (by kernel_rfl); obtain ⟨_, e44, rfl⟩ := hF.dp 1 44 (by kernel_rfl); exact s_is rfl (wants0 rfl) _ rfl (by simp only [execOp, e60, e44]; go_simp; try (intro h; omega))
            · intro a1 w1 hG hF; obtain ⟨_, e61, rfl⟩ := hF.dp 18 61 (by kernel_rfl); obtain ⟨_, e45, rfl⟩ := hF.dp 2 45 (by kernel_rfl); exact s_is rfl (wants0 rfl) _ rfl (by simp only [execOp, e61, e45]; go_simp; try (intro h; omega))
          · intro vs w1 hG hf; have yD : vs 15 = by32 D := hf.2.2.2.2.2.2.2.2.2.2.2.2.2.2.2.1; have yp : vs 19 = .pointer (some ⟨g, 1 + l * 8192 + q * 32, none⟩) := hf.2.2.2.2.2.2.2.2.2.2.2.2.2.2.2.2.2.2.2.1; clear hf; simp only [List.take_succ_cons, List.take_zero, List.drop_succ_cons, List.drop_zero, putAll, Nat.zero_add, Nat.reduceAdd, yD, yp]; have hG1 := (Gr.drew wr).trans hG; have hT6 := HT1.out.gr hG1; have hTN6 := HTN1.out.gr hG1; refine wpList_store_mid rfl _ _ _ rfl g (1 + l * 8192 + q * 32) (u8s D).toArray (by kernel_rfl) (by kernel_rfl) (by have := hT6.there (l := l) (a := q) (by omega) (by omega); simpa [u8s_length, hDl] using this) (by have := infoD D hDl; simpa using this) (all_oneCell_toArray (u8s_oneCell _)) ?_; rw [List.toList_toArray]; have hT7 := hT6.set (l := l) (a := q) (by omega) (by omega) hDl; have hTN7 := hTN6.trans (Tn.setCells (τ := treeT g b) hg (fun C f => by simp [treeT]) (u8s D) (1 + l * 8192 + q * 32) w1 _ hT6.arr); have hP7 := HPN.out; generalize w1.setCells g (1 + l * 8192 + q * 32) (u8s D) = w7 at hT7 hTN7 ⊢; have hR8 : SetR B g b (n + 1) R k d w (.int .i64 (q : Int)) (.int .i64 ((l : Int) - 1)) w7 := ⟨h + 1, _, by omega, by rw [HQ.out], by congr 1; omega, hT7, hP7, hTN7⟩; clear hT7 hTN7 hP7 hT6 hTN6 hG1 HT1 HTN1 yD yp hG HC HPN hDl; unfold wpList; go_simp; try refine .inl ?_
            go_wp2_with fail
            exact ⟨hR8, by simp only [intOf]; omega⟩
        · obtain rfl : h = 4 := by omega
          have hTr : TreeIs wr g b (n + 1) (setR R k d) := ⟨⟨N1, hT1, fun h a h1 h2 => hP1.1 h a h1 (by omega) h2⟩, HS.out⟩; have HTR := Lib.hid hTr; have HTN := Lib.hid hTN1; clear hTr hrel hT1 hP1 hTN1; go_wp2_with fail
          refine bodyPost_end (results_none rfl _ _ _) rfl ?_; exact ⟨rfl, HTR.out, HTN.out⟩
end Go.Proofs.YtjpphldojbfpfaaGreatDoor
