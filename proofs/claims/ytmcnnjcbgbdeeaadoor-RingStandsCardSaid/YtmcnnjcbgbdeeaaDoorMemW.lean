/- Blocks of the call's own, old ones (S) and such as were made since w0; all else as it was. No condition. -/
import Derived.Test.YtmcnnjcbgbdeeaaDoorOwnG
namespace Go.Proofs.YtmcnnjcbgbdeeaaDoor
open Go.RowKit
structure MemW (S : List Nat) (w0 w : World) (L : List (Nat × TypeId × List Value)) : Prop where
  arr : ∀ x ∈ L, Arr w x.1 x.2.1 x.2.2
  dis : L.Pairwise fun a b => b.1 < a.1
  own : ∀ x ∈ L, x.1 ∈ S ∨ w0.heap.size ≤ x.1
  os : w.os = w0.os
  tape : w.tape = w0.tape
  output : w.output = w0.output
  size : w0.heap.size ≤ w.heap.size
  rest : ∀ k, k < w0.heap.size → k ∉ S → w.heap[k]? = w0.heap[k]?
section
variable {S : List Nat} {B g : Nat} {w0 w w' : World} {L : List (Nat × TypeId × List Value)} {t : TypeId} {cs : List Value}
theorem MemW.of_mem (h : Mem B w0 w L) : MemW (L.map (·.1)) w w L :=
  ⟨h.arr, h.dis, fun x hx => .inl (List.mem_map.2 ⟨x, hx, rfl⟩), rfl, rfl, rfl, Nat.le_refl _, fun _ _ _ => rfl⟩
theorem MemW.nil (w : World) : MemW [] w w [] := ⟨fun x h => by simp at h, List.Pairwise.nil, fun x h => by simp at h, rfl, rfl, rfl, Nat.le_refl _, fun _ _ _ => rfl⟩
theorem MemW.below (h : MemW S w0 w L) {B : Nat} (hS : ∀ k ∈ S, B ≤ k) (hB : B ≤ w0.heap.size) : Below B w0 w :=
  ⟨h.os, h.tape, h.output, h.size, fun k hk => h.rest k (by omega) fun hm => by have := hS k hm; omega⟩
theorem MemW.grow (h : MemW S w0 w L) (hS : S = []) : Gr w0 w := h.below (by rw [hS]; simp) (Nat.le_refl _)
theorem MemW.at_ (h : MemW S w0 w L) (k : Nat) (hk : L[k]? = some (g, t, cs)) : Arr w g t cs := h.arr _ (List.mem_of_getElem? hk)
theorem MemW.lt (h : MemW S w0 w L) (k : Nat) (hk : L[k]? = some (g, t, cs)) : g < w.heap.size := (h.at_ k hk).lt
theorem MemW.cell (h : MemW S w0 w L) {p : Addr} {v : Value} (hc : w0.cell? p = some v) (hp : p.block ∉ S) : w.cell? p = some v :=
  (World.cell?_of_block (h.rest _ (lt_of_cell hc) hp)).trans hc
theorem MemW.rd (h : MemW S w0 w L) {A : Option Addr} {n : Nat} {xs : List Value} (hr : Rd w0 A n xs) (hA : ∀ ad, A = some ad → ad.block ∉ S) : Rd w A n xs :=
  ⟨hr.1, fun i u hu => by
    obtain ⟨ad, e, hc⟩ := hr.2 i u hu
    exact ⟨ad, e, h.cell hc (by rw [add_block]; exact hA ad e)⟩⟩
theorem MemW.gr (h : MemW S w0 w L) (hG : Gr w w') : MemW S w0 w' L :=
  ⟨fun x hx => (h.arr x hx).gr hG, h.dis, h.own, hG.os.trans h.os, hG.tape.trans h.tape, hG.output.trans h.output, Nat.le_trans h.size hG.size,
    fun k hk hS => (hG.block k (Nat.lt_of_lt_of_le hk h.size)).trans (h.rest k hk hS)⟩
theorem Dr.gr (h : Dr w w') : Gr w w' := by obtain ⟨k, rfl⟩ := h; exact ⟨rfl, rfl, rfl, Nat.le_refl _, fun _ _ => rfl⟩
theorem MemW.dr (h : MemW S w0 w L) (hd : Dr w w') : MemW S w0 w' L := h.gr hd.gr
theorem MemW.cons (h : MemW S w0 w L) (hG : Gr w w') {n : Nat} (ha : Arr w' n t cs) (hn : w.heap.size ≤ n) : MemW S w0 w' ((n, t, cs) :: L) := by
  have h' := h.gr hG
  refine ⟨fun x hx => ?_, List.pairwise_cons.2 ⟨fun y hy => ?_, h.dis⟩, fun x hx => ?_, h'.os, h'.tape, h'.output, h'.size, h'.rest⟩
  · rcases List.mem_cons.1 hx with rfl | hx
    · exact ha
    · exact h'.arr x hx
  · exact Nat.lt_of_lt_of_le (h.arr y hy).lt hn
  · rcases List.mem_cons.1 hx with rfl | hx
    · exact .inr (Nat.le_trans h.size hn)
    · exact h.own x hx
theorem MemW.new (h : MemW S w0 w L) {C : Array Value} (hC : C.toList = cs) : MemW S w0 (w.alloc (.cells C t)) ((w.heap.size, t, cs) :: L) :=
  h.cons (Gr.alloc _ _) (Arr.newAt rfl hC) (Nat.le_refl _)
theorem MemW.drop1 {x : Nat × TypeId × List Value} (h : MemW S w0 w (x :: L)) : MemW S w0 w L :=
  ⟨fun y hy => h.arr y (List.mem_cons_of_mem _ hy), (List.pairwise_cons.1 h.dis).2, fun y hy => h.own y (List.mem_cons_of_mem _ hy), h.os, h.tape, h.output, h.size, h.rest⟩
theorem MemW.turn (h : MemW S w0 w L) (k : Nat) (hk : L[k]? = some (g, t, cs)) {cs' : List Value} (ha : Arr w' g t cs') (ho : ∀ k, k < w.heap.size → k ≠ g → w'.heap[k]? = w.heap[k]?)
    (hb : Below g w w') : MemW S w0 w' (L.set k (g, t, cs')) := by
  have hlt : k < L.length := by
    rcases Nat.lt_or_ge k L.length with h1 | h1
    · exact h1
    · rw [List.getElem?_eq_none h1] at hk; cases hk
  refine ⟨fun x hx => ?_, pairwise_set_ h.dis hk cs', fun x hx => ?_, hb.os.trans h.os, hb.tape.trans h.tape, hb.output.trans h.output, Nat.le_trans h.size hb.size, fun j hj hS => ?_⟩
  · obtain ⟨i, hi⟩ := List.mem_iff_getElem?.1 hx
    rw [List.getElem?_set] at hi
    split at hi
    · injection hi with hi
      subst hi
      exact ha
    · rename_i hne
      have hx' := h.arr x (List.mem_of_getElem? hi)
      unfold Arr
      rw [ho _ hx'.lt (fun e => ?_)]
      · exact hx'
      have hil : i < L.length := by
        rcases Nat.lt_or_ge i L.length with h1 | h1
        · exact h1
        · rw [List.getElem?_eq_none h1] at hi; cases hi
      have e1 : L[i] = x := by rw [List.getElem?_eq_getElem hil] at hi; injection hi
      have e2 : L[k] = (g, t, cs) := by rw [List.getElem?_eq_getElem hlt] at hk; injection hk
      have hp := List.pairwise_iff_getElem.1 h.dis
      rcases Nat.lt_or_ge i k with h1 | h1
      · have := hp i k hil hlt h1
        rw [e1, e2] at this
        exact absurd this (by simp only; omega)
      · have := hp k i hlt hil (by omega)
        rw [e1, e2] at this
        exact absurd this (by simp only; omega)
  · obtain ⟨i, hi⟩ := List.mem_iff_getElem?.1 hx
    rw [List.getElem?_set] at hi
    split at hi
    · injection hi with hi
      subst hi
      have h2 := h.own _ (List.mem_of_getElem? hk)
      exact h2
    · exact h.own x (List.mem_of_getElem? hi)
  · rw [ho j (Nat.lt_of_lt_of_le hj h.size) (fun e => ?_)]
    · exact h.rest j hj hS
    · rcases h.own _ (List.mem_of_getElem? hk) with h1 | h1
      · exact hS (e ▸ h1)
      · simp only at h1; omega
/-- One cell stored. -/
theorem MemW.set (h : MemW S w0 w L) (k : Nat) (hk : L[k]? = some (g, t, cs)) (i : Nat) (v : Value) : MemW S w0 (w.setCell ⟨g, i, none⟩ v) (L.set k (g, t, cs.set i v)) :=
  h.turn k hk ((h.at_ k hk).set i v) (fun j _ hne => heap_setCell_other w ⟨g, i, none⟩ j v hne) (below_setCell (Nat.le_refl _))
variable {P : Program}
theorem wpList_putW {ops : Array Oper} {rest : List Oper} {op : Oper} {a : Act} {Q : Exit → Act → World → Prop} (h : MemW S w0 w L) (k : Nat) (hk : L[k]? = some (g, t, cs)) (hgd : op.guard = none) (ty : TypeId) (x y : Operand) (ho : op.op = .store ty x y)
    (vs : List Value) (hx : a.eval x = .pointer (some ⟨g, 0, none⟩)) (hy : a.eval y = .agg vs.toArray) (hn : cs.length = vs.length)
    (hi : (P.info? ty).map (·.size) = some vs.length) (h1 : ∀ v ∈ vs, v.oneCell' = true)
    (K : ∀ w2, MemW S w0 w2 (L.set k (g, t, vs)) → wpList P ops Q rest (a.put op.dst undef) w2) : wpList P ops Q (op :: rest) a w := by
  have hA := h.at_ k hk
  refine wpList_store_mid hgd ty x y ho g 0 vs.toArray hx hy (by have := hA.there; rw [hn] at this; simpa using this) (by simpa using hi) (all_oneCell_toArray h1) ?_
  exact K _ (h.turn k hk (hA.setAll vs hn.symm) (fun j _ hne => setCells_heap_other vs w 0 hne) (below_setCells (Nat.le_refl _) _ _ _))
theorem wpList_newW {ops : Array Oper} {rest : List Oper} {op : Oper} {a : Act} {Q : Exit → Act → World → Prop} {C : Array Value} (h : MemW S w0 w L) (hgd : op.guard = none) (ty : TypeId) (x y : Operand) (ho : op.op = .store ty x y)
    (b : Nat) (vs : List Value) (hx : a.eval x = .pointer (some ⟨b, 0, none⟩)) (hy : a.eval y = .agg vs.toArray) (hb : b = w.heap.size) (hn : C.size = vs.length)
    (hi : (P.info? ty).map (·.size) = some vs.length) (h1 : ∀ v ∈ vs, v.oneCell' = true)
    (K : ∀ w2, MemW S w0 w2 ((b, t, vs) :: L) → Gr w w2 → wpList P ops Q rest (a.put op.dst undef) w2) : wpList P ops Q (op :: rest) a (w.alloc (.cells C t)) :=
  wpList_new hgd ty x y ho b vs hx hy hb hn hi h1 fun w2 h2 h3 => K w2 (h.cons h3 h2 (by omega)) h3
theorem wpList_setW {ops : Array Oper} {rest : List Oper} {op : Oper} {a : Act} {Q : Exit → Act → World → Prop} (h : MemW S w0 w L) (k : Nat) (hk : L[k]? = some (g, t, cs)) (hgd : op.guard = none) (ty : TypeId) (x y : Operand) (ho : op.op = .store ty x y)
    (hT : (P.info? ty).map (·.size) = some 1) (i : Nat) (kd : IntKind) (z : Int) (hx : a.eval x = .pointer (some ⟨g, i, none⟩)) (hy : a.eval y = .int kd z) (hi : i < cs.length)
    (hK : ∀ w2, MemW S w0 w2 (L.set k (g, t, cs.set i (.int kd z))) → wpList P ops Q rest (a.put op.dst undef) w2) : wpList P ops Q (op :: rest) a w := by
  refine wpList_plain hgd fun K hKK => ?_
  unfold Oper.wp
  obtain ⟨dst, o, tt, ps, af, gd⟩ := op
  simp only at ho
  subst ho
  rw [run_store1 hT hx hy (by rw [(h.at_ k hk).cell (List.getElem?_eq_getElem hi)]; rfl) ((h.at_ k hk).frozen i)]
  exact hKK _ _ (hK _ (h.set k hk i _))
/-- Two variables just made, the one behind the other. -/
theorem mem_two {w w1 : World} (hb : Gr w w1) {t1 t2 : TypeId} {C1 C2 : Array Value} {l1 l2 : List Value} (h1 : C1.toList = l1) (h2 : C2.toList = l2) :
    Mem w.heap.size w ((w1.alloc (.cells C1 t1)).alloc (.cells C2 t2)) [(w1.heap.size + 1, t2, l2), (w1.heap.size, t1, l1)] := by
  have h := (((Mem.nil w).gr (Nat.le_refl _) hb).new (t := t1) (Nat.le_refl _) h1).new (t := t2) (Nat.le_refl _) h2
  rw [asz] at h
  exact h
end
end Go.Proofs.YtmcnnjcbgbdeeaaDoor
