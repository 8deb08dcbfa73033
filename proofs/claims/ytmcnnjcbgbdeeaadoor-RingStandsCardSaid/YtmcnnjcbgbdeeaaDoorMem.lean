/- Blocks of the call's own, told as one list, the newest first. No condition. -/
import Derived.Test.YtmcnnjcbgbdeeaaDoorKitA
namespace Go.Proofs.YtmcnnjcbgbdeeaaDoor
open Go.RowKit
/-- From B on the call owns these blocks, all unlike; below B nothing has turned since w0. -/
structure Mem (B : Nat) (w0 w : World) (L : List (Nat × TypeId × List Value)) : Prop where
  arr : ∀ x ∈ L, Arr w x.1 x.2.1 x.2.2
  dis : L.Pairwise fun a b => b.1 < a.1
  base : ∀ x ∈ L, B ≤ x.1
  below : Below B w0 w
section
variable {B g : Nat} {w0 w w' : World} {L : List (Nat × TypeId × List Value)} {t : TypeId} {cs : List Value}
theorem Mem.nil (w : World) : Mem w.heap.size w w [] := ⟨fun x h => by simp at h, List.Pairwise.nil, fun x h => by simp at h, Below.refl _ _⟩
theorem Mem.at_ (h : Mem B w0 w L) (k : Nat) (hk : L[k]? = some (g, t, cs)) : Arr w g t cs := h.arr _ (List.mem_of_getElem? hk)
theorem Mem.size (h : Mem B w0 w L) (hB : B ≤ w0.heap.size) : B ≤ w.heap.size := Nat.le_trans hB h.below.size
theorem Mem.lt (h : Mem B w0 w L) (k : Nat) (hk : L[k]? = some (g, t, cs)) : g < w.heap.size := (h.at_ k hk).lt
theorem Mem.le (h : Mem B w0 w L) (k : Nat) (hk : L[k]? = some (g, t, cs)) : B ≤ g := h.base _ (List.mem_of_getElem? hk)
theorem Mem.gr (h : Mem B w0 w L) (hB : B ≤ w0.heap.size) (hG : Gr w w') : Mem B w0 w' L :=
  ⟨fun x hx => (h.arr x hx).gr hG, h.dis, h.base, h.below.trans (hG.mono (h.size hB))⟩
theorem Mem.dr (h : Mem B w0 w L) (hd : Dr w w') : Mem B w0 w' L :=
  ⟨fun x hx => (h.arr x hx).dr hd, h.dis, h.base, h.below.trans (below_dr hd)⟩
theorem Mem.cons (h : Mem B w0 w L) (hB : B ≤ w0.heap.size) (hG : Gr w w') {n : Nat} (ha : Arr w' n t cs) (hn : w.heap.size ≤ n) : Mem B w0 w' ((n, t, cs) :: L) := by
  have h' := h.gr hB hG
  refine ⟨fun x hx => ?_, List.pairwise_cons.2 ⟨fun y hy => ?_, h.dis⟩, fun x hx => ?_, h'.below⟩
  · rcases List.mem_cons.1 hx with rfl | hx
    · exact ha
    · exact h'.arr x hx
  · exact Nat.lt_of_lt_of_le (h.arr y hy).lt hn
  · rcases List.mem_cons.1 hx with rfl | hx
    · exact Nat.le_trans (h.size hB) hn
    · exact h.base x hx
/-- A variable just made. -/
theorem Mem.new (h : Mem B w0 w L) (hB : B ≤ w0.heap.size) {C : Array Value} (hC : C.toList = cs) : Mem B w0 (w.alloc (.cells C t)) ((w.heap.size, t, cs) :: L) :=
  h.cons hB (Gr.alloc _ _) (Arr.newAt rfl hC) (Nat.le_refl _)
theorem Mem.drop1 {x : Nat × TypeId × List Value} (h : Mem B w0 w (x :: L)) : Mem B w0 w L :=
  ⟨fun y hy => h.arr y (List.mem_cons_of_mem _ hy), (List.pairwise_cons.1 h.dis).2, fun y hy => h.base y (List.mem_cons_of_mem _ hy), h.below⟩
theorem Mem.skip {x y : Nat × TypeId × List Value} (h : Mem B w0 w (x :: y :: L)) : Mem B w0 w (x :: L) := by
  have h1 := List.pairwise_cons.1 h.dis
  refine ⟨fun z hz => h.arr z ?_, List.pairwise_cons.2 ⟨fun z hz => h1.1 z (List.mem_cons_of_mem _ hz), (List.pairwise_cons.1 h1.2).2⟩, fun z hz => h.base z ?_, h.below⟩
  all_goals
    rcases List.mem_cons.1 hz with rfl | hz
    · exact List.mem_cons_self
    · exact List.mem_cons_of_mem _ (List.mem_cons_of_mem _ hz)
theorem pairwise_set_ {L : List (Nat × TypeId × List Value)} (h : L.Pairwise fun a b => b.1 < a.1) {k : Nat} (hk : L[k]? = some (g, t, cs)) (cs' : List Value) : (L.set k (g, t, cs')).Pairwise fun a b => b.1 < a.1 := by
  have e : (L.set k (g, t, cs')).map (·.1) = L.map (·.1) := by
    apply List.ext_getElem?
    intro i
    rw [List.getElem?_map, List.getElem?_map, List.getElem?_set]
    split
    · rename_i hi
      subst hi
      have hlt : k < L.length := by
        rcases Nat.lt_or_ge k L.length with h1 | h1
        · exact h1
        · rw [List.getElem?_eq_none h1] at hk; cases hk
      rw [hk]
      simp [hlt]
    · rfl
  have h2 : ((L.set k (g, t, cs')).map (·.1)).Pairwise fun a b => b < a := by
    rw [e]
    exact List.pairwise_map.2 h
  exact List.pairwise_map.1 h2
theorem Mem.turn (h : Mem B w0 w L) (k : Nat) (hk : L[k]? = some (g, t, cs)) {cs' : List Value} (ha : Arr w' g t cs') (ho : ∀ g' t' cs1, g' ≠ g → Arr w g' t' cs1 → Arr w' g' t' cs1) (hb : Below g w w') :
    Mem B w0 w' (L.set k (g, t, cs')) := by
  have hlt : k < L.length := by
    rcases Nat.lt_or_ge k L.length with h1 | h1
    · exact h1
    · rw [List.getElem?_eq_none h1] at hk; cases hk
  refine ⟨fun x hx => ?_, pairwise_set_ h.dis hk cs', fun x hx => ?_, h.below.trans (hb.mono (h.le k hk))⟩
  · obtain ⟨i, hi⟩ := List.mem_iff_getElem?.1 hx
    rw [List.getElem?_set] at hi
    split at hi
    · injection hi with hi
      subst hi
      exact ha
    · rename_i hne
      refine ho _ _ _ (fun e => ?_) (h.arr x (List.mem_of_getElem? hi))
      have hil : i < L.length := by
        rcases Nat.lt_or_ge i L.length with h1 | h1
        · exact h1
        · rw [List.getElem?_eq_none h1] at hi; cases hi
      have e1 : L[i] = x := by rw [List.getElem?_eq_getElem hil] at hi; injection hi
      have e2 : L[k] = (g, t, cs) := by rw [List.getElem?_eq_getElem hlt] at hk; injection hk
      have hp := List.pairwise_iff_getElem.1 h.dis
      rcases Nat.lt_or_ge i k with h1 | h1
      · have := hp i k hil hlt h1
        rw [e1, e2] at this
        exact absurd this (by simp only; omega)
      · have := hp k i hlt hil (by omega)
        rw [e1, e2] at this
        exact absurd this (by simp only; omega)
  · obtain ⟨i, hi⟩ := List.mem_iff_getElem?.1 hx
    rw [List.getElem?_set] at hi
    split at hi
    · injection hi with hi
      subst hi
      exact h.le k hk
    · exact h.base x (List.mem_of_getElem? hi)
/-- One cell stored. -/
theorem Mem.set (h : Mem B w0 w L) (k : Nat) (hk : L[k]? = some (g, t, cs)) (i : Nat) (v : Value) : Mem B w0 (w.setCell ⟨g, i, none⟩ v) (L.set k (g, t, cs.set i v)) :=
  h.turn k hk ((h.at_ k hk).set i v) (fun _ _ _ hne ha => ha.other hne v) (below_setCell (Nat.le_refl _))
/-- A whole array stored (what wpList_put leaves). -/
theorem Mem.put (h : Mem B w0 w L) (k : Nat) (hk : L[k]? = some (g, t, cs)) {cs' : List Value} (ha : Arr w' g t cs') (hb : Below g w w') (ho : ∀ g' t' cs1, g' ≠ g → Arr w g' t' cs1 → Arr w' g' t' cs1) : Mem B w0 w' (L.set k (g, t, cs')) :=
  h.turn k hk ha ho hb
variable {P : Program}
theorem wpList_putM {ops : Array Oper} {rest : List Oper} {op : Oper} {a : Act} {Q : Exit → Act → World → Prop} (h : Mem B w0 w L) (k : Nat) (hk : L[k]? = some (g, t, cs)) (hgd : op.guard = none) (ty : TypeId) (x y : Operand) (ho : op.op = .store ty x y)
    (vs : List Value) (hx : a.eval x = .pointer (some ⟨g, 0, none⟩)) (hy : a.eval y = .agg vs.toArray) (hn : cs.length = vs.length)
    (hi : (P.info? ty).map (·.size) = some vs.length) (h1 : ∀ v ∈ vs, v.oneCell' = true)
    (K : ∀ w2, Mem B w0 w2 (L.set k (g, t, vs)) → Below g w w2 → wpList P ops Q rest (a.put op.dst undef) w2) : wpList P ops Q (op :: rest) a w :=
  wpList_put (h.at_ k hk) hgd ty x y ho vs hx hy hn hi h1 fun w2 h2 h3 h4 => K w2 (h.put k hk h2 h3 h4) h3
theorem wpList_newM {ops : Array Oper} {rest : List Oper} {op : Oper} {a : Act} {Q : Exit → Act → World → Prop} {C : Array Value} (h : Mem B w0 w L) (hB : B ≤ w0.heap.size) (hgd : op.guard = none) (ty : TypeId) (x y : Operand) (ho : op.op = .store ty x y)
    (b : Nat) (vs : List Value) (hx : a.eval x = .pointer (some ⟨b, 0, none⟩)) (hy : a.eval y = .agg vs.toArray) (hb : b = w.heap.size) (hn : C.size = vs.length)
    (hi : (P.info? ty).map (·.size) = some vs.length) (h1 : ∀ v ∈ vs, v.oneCell' = true)
    (K : ∀ w2, Mem B w0 w2 ((b, t, vs) :: L) → Gr w w2 → wpList P ops Q rest (a.put op.dst undef) w2) : wpList P ops Q (op :: rest) a (w.alloc (.cells C t)) :=
  wpList_new hgd ty x y ho b vs hx hy hb hn hi h1 fun w2 h2 h3 => K w2 (h.cons hB h3 h2 (by omega)) h3
end
end Go.Proofs.YtmcnnjcbgbdeeaaDoor
