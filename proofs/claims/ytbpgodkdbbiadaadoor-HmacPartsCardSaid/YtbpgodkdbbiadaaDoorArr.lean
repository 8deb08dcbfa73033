/- Arrays in a block of their own. No condition. -/
import Derived.Deep.MidRow
import Derived.Test.YtbpgodkdbbiadaaDoorSsa3
namespace Go.Proofs.YtbpgodkdbbiadaaDoor
open Go.RowKit

/-- Words as they stand in memory. -/
def u32s (l : List UInt32) : List Value := l.map fun c => .int .u32 (c.toNat : Int)
@[simp] theorem u32s_length (l : List UInt32) : (u32s l).length = l.length := by simp [u32s]
theorem u32s_at {l : List UInt32} {i : Nat} {x : UInt32} (h : l[i]? = some x) : (u32s l)[i]? = some (.int .u32 (x.toNat : Int)) := by simp [u32s, h]
theorem u32s_set (l : List UInt32) (i : Nat) (x : UInt32) : (u32s l).set i (.int .u32 (x.toNat : Int)) = u32s (l.set i x) := by simp [u32s, List.map_set]
theorem u32s_oneCell (l : List UInt32) : ∀ u ∈ u32s l, u.oneCell' = true := by
  intro u hu
  simp only [u32s, List.mem_map] at hu
  obtain ⟨c, _, rfl⟩ := hu
  rfl

/-- The block g is an array of these cells; none is frozen. -/
def Arr (w : World) (g : Nat) (t : TypeId) (cs : List Value) : Prop := w.heap[g]? = some (.cells cs.toArray t (0, 0))
section
variable {w w' : World} {g i : Nat} {t : TypeId} {cs : List Value}
theorem Arr.lt (h : Arr w g t cs) : g < w.heap.size := by
  rcases Nat.lt_or_ge g w.heap.size with h1 | h1
  · exact h1
  · unfold Arr at h; rw [Array.getElem?_eq_none h1] at h; cases h
theorem Arr.cell (h : Arr w g t cs) {v : Value} (hi : cs[i]? = some v) : w.cell? ⟨g, i, none⟩ = some v := by
  rw [cell_of_row w g i _ t _ h]; simpa using hi
theorem Arr.frozen (h : Arr w g t cs) (i : Nat) : w.frozen? ⟨g, i, none⟩ = false := frozen_of_row w g i _ t h
theorem Arr.set (h : Arr w g t cs) (i : Nat) (v : Value) : Arr (w.setCell ⟨g, i, none⟩ v) g t (cs.set i v) := by
  unfold Arr
  rw [heap_setCell_same w g i _ t v h]
  simp
theorem Arr.other (h : Arr w g t cs) {a : Addr} (hne : g ≠ a.block) (v : Value) : Arr (w.setCell a v) g t cs := by
  unfold Arr
  rw [heap_setCell_other w a g v hne]
  exact h
theorem Arr.below (h : Arr w g t cs) {B : Nat} (hb : Below B w w') (hg : g < B) : Arr w' g t cs := by
  unfold Arr; rw [hb.block g hg]; exact h
theorem Arr.gr (h : Arr w g t cs) (hb : Gr w w') : Arr w' g t cs := h.below hb h.lt
theorem Arr.dr (h : Arr w g t cs) (hb : Dr w w') : Arr w' g t cs := by unfold Arr; rw [hb.heap]; exact h
theorem Arr.new (w : World) (t : TypeId) (cs : List Value) : Arr (w.alloc (.cells cs.toArray t)) w.heap.size t cs := by
  unfold Arr World.alloc; simp
theorem Arr.new' (w : World) (t : TypeId) (C : Array Value) : Arr (w.alloc (.cells C t)) w.heap.size t C.toList := by
  unfold Arr World.alloc; simp
theorem asz (w : World) (o : Obj) : (w.alloc o).heap.size = w.heap.size + 1 := World.size_alloc w o
theorem Arr.newAt {w : World} {t : TypeId} {C : Array Value} {n : Nat} {l : List Value} (h : w.heap.size = n) (hl : C.toList = l) : Arr (w.alloc (.cells C t)) n t l := by
  subst h hl; exact Arr.new' w t C
theorem Arr.alloc (h : Arr w g t cs) (o : Obj) : Arr (w.alloc o) g t cs := h.gr (Gr.alloc w o)
theorem Arr.range (h : Arr w g t cs) : w.rangeAt g 0 cs := fun j v hv => by
  rw [Nat.zero_add]; exact h.cell hv
theorem Arr.there (h : Arr w g t cs) : w.there g 0 cs.length := fun j hj => by
  rw [Nat.zero_add]; exact ⟨by rw [h.cell (List.getElem?_eq_getElem hj)]; rfl, h.frozen j⟩
theorem Arr.setCells_from (vs : List Value) : ∀ (o : Nat) (w : World) (cs : List Value), Arr w g t cs → o + vs.length ≤ cs.length → Arr (w.setCells g o vs) g t (cs.take o ++ vs ++ cs.drop (o + vs.length)) := by
  induction vs with
  | nil => intro o w cs h ho; simpa [World.setCells] using h
  | cons v vs ih =>
    intro o w cs h ho
    have h1 := ih (o + 1) _ _ (h.set o v) (by simp at ho ⊢; omega)
    have e : (cs.set o v).take (o + 1) ++ vs ++ (cs.set o v).drop (o + 1 + vs.length) = cs.take o ++ (v :: vs) ++ cs.drop (o + (v :: vs).length) := by
      simp at ho
      rw [List.take_succ_eq_append_getElem (by simp; omega), List.take_set_of_le (by omega), List.drop_set_of_lt (by omega)]
      simp
      congr 1; omega
    rw [e] at h1
    exact h1
theorem Arr.setAll (h : Arr w g t cs) (vs : List Value) (hl : vs.length = cs.length) : Arr (w.setCells g 0 vs) g t vs := by
  have := Arr.setCells_from vs 0 w cs h (by omega)
  simpa [hl] using this
theorem Arr.setCells_other (h : Arr w g t cs) {g' : Nat} (hne : g ≠ g') (vs : List Value) : ∀ (o : Nat), Arr (w.setCells g' o vs) g t cs := by
  induction vs generalizing w with
  | nil => intro o; exact h
  | cons v vs ih => intro o; exact ih (h.other hne v) (o + 1)
theorem Arr.rd (h : Arr w g t cs) (lo n : Nat) (hn : lo + n ≤ cs.length) : Rd w (some ⟨g, lo, none⟩) n ((cs.drop lo).take n) := by
  have := Rd.of_row (w := w) (g := g) h lo n (by simpa using hn)
  simpa using this
theorem below_setCell {w : World} {B : Nat} {a : Addr} {v : Value} (h : B ≤ a.block) : Below B w (w.setCell a v) :=
  ⟨rfl, rfl, rfl, by simp [World.setCell], fun k hk => heap_setCell_other w a k v (by omega)⟩
theorem below_setCells {B g : Nat} (h : B ≤ g) (vs : List Value) : ∀ (w : World) (o : Nat), Below B w (w.setCells g o vs) := by
  induction vs with
  | nil => intro w o; exact Below.refl _ _
  | cons v vs ih => intro w o; exact (below_setCell (a := ⟨g, o, none⟩) h).trans (ih _ _)
theorem below_dr {B : Nat} (h : Dr w w') : Below B w w' := by obtain ⟨k, rfl⟩ := h; exact ⟨rfl, rfl, rfl, Nat.le_refl _, fun _ _ => rfl⟩
end
end Go.Proofs.YtbpgodkdbbiadaaDoor
