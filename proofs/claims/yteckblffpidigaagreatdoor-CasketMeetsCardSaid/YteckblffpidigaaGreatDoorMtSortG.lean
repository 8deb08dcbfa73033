/- Rows of many cells that a sort turns: no condition. -/
import Derived.Test.YteckblffpidigaaGreatDoorKitM
import Derived.Shelf.SlSortCmp.WholeK
import Derived.Shelf.SlSortCmp.NoneTotal
namespace Go.Proofs.YteckblffpidigaaGreatDoor
open Go.RowKit
section
variable {α : Type} [Inhabited α] {enc : α → List Value} {k : Nat}
theorem holds_of_ownG (hk : ∀ x, (enc x).length = k) (hk0 : 0 < k) {w : World} {B g n c : Nat} {e : TypeId} {L : List α} (hl : L.length = n) (h : w.ownsRow B e k (.slice (some ⟨g, 0, none⟩) n c) n (L.flatMap enc)) : Go.Sort.HoldsK enc k w g 0 L.toArray := by
  intro t ht
  rw [Go.Sort.size_flatK] at ht
  have ht' : t < n * k := by simpa [hl] using ht
  have hc := h.cells (g := g) rfl
  obtain ⟨cur, hcur⟩ : ∃ cur, w.heap[g]? = some (.cells cur e (0, 0)) := by
    rcases h.2 with ⟨e, _⟩ | ⟨g', cap, cur, e1, _, h2, _⟩
    · cases e
    · injection e1 with e1
      injection e1 with e1
      injection e1 with e1
      subst e1
      exact ⟨cur, h2⟩
  refine ⟨?_, frozen_of_row w g _ cur _ hcur⟩
  have hi : t / k < L.length := by rw [hl]; exact (Nat.div_lt_iff_lt_mul hk0).2 ht'
  have hj : t % k < k := Nat.mod_lt _ hk0
  have hg : (L.flatMap enc)[t]? = some ((Go.Sort.flatK enc k L.toArray)[t]!) := by
    rw [Go.Sort.get_flatK _ _ _ t ht]
    have e0 : t = t / k * k + t % k := by rw [Nat.mul_comm]; exact (Nat.div_add_mod t k).symm
    conv => lhs; rw [e0]
    rw [flat_get hk L (t / k) (t % k) hj, List.getElem?_eq_getElem hi]
    have e3 : L.toArray[t / k]! = L[t / k] := by simp [hi]
    rw [e3]
    have hm : t % k < (enc L[t / k]).length := by rw [hk]; exact hj
    show (enc L[t / k])[t % k]? = _
    rw [List.getElem?_eq_getElem hm, List.getElem!_eq_getElem?_getD, List.getElem?_eq_getElem hm]
    rfl
  have := hc t _ hg
  rw [add_row] at this
  exact this
theorem cells_of_holds (hk : ∀ x, (enc x).length = k) {w : World} {g : Nat} {d : Array α} (h : Go.Sort.HoldsK enc k w g 0 d) {i j : Nat} {x : α} {u : Value} (hx : d.toList[i]? = some x) (hu : (enc x)[j]? = some u) : w.cell? ⟨g, i * k + j, none⟩ = some u := by
  have hi : i < d.size := by
    have := (List.getElem?_eq_some_iff.1 hx).1
    simpa using this
  have hj : j < k := by
    have := (List.getElem?_eq_some_iff.1 hu).1
    rwa [hk] at this
  have ht : i * k + j < d.size * k := by
    have := Nat.mul_le_mul_right k (show i + 1 ≤ d.size by omega)
    rw [Nat.add_mul] at this
    omega
  have h1 := (h (i * k + j) (by rw [Go.Sort.size_flatK]; exact ht)).1
  rw [Go.Sort.get_flatK _ _ _ _ ht, Nat.mul_comm i k, Nat.mul_add_div (by omega), Nat.div_eq_of_lt hj, Nat.add_zero, Nat.mul_add_mod, Nat.mod_eq_of_lt hj] at h1
  have hp' : d[i]! = x := by
    have : d[i]? = some x := by simpa using hx
    simp [getElem!_def, this]
  rw [hp', List.getElem!_eq_getElem?_getD, hu, Nat.zero_add, Nat.mul_comm k i] at h1
  exact h1
theorem heap_putRow_oth (f : α → Value) (w : World) (blk off : Nat) (d : Array α) {k : Nat} (h : k ≠ blk) : (Go.Sort.putRow f w blk off d).heap[k]? = w.heap[k]? := by
  unfold Go.Sort.putRow Go.Sort.mapBlock
  show (w.heap.modify blk _)[k]? = _
  rw [Array.getElem?_modify, if_neg (fun e => h e.symm)]
theorem sortG_other {w : World} {g m : Nat} {d : Array α} {os : Array Obj} {i : Nat} (hi : i < w.heap.size) (h : i ≠ g) : (sortWorldK enc k w g 0 m d os).heap[i]? = w.heap[i]? := by
  unfold sortWorldK
  rw [Go.Sort.heap_grow_old _ _ (by unfold Go.Sort.putRowK; rw [Go.Sort.size_putRow]; exact hi)]
  unfold Go.Sort.putRowK
  rw [heap_putRow_oth _ _ _ _ _ h]
  rfl
theorem sortG_below {w : World} {B g m : Nat} {d : Array α} {os : Array Obj} (hB : B ≤ g) (hg : g < w.heap.size) : Below B w (sortWorldK enc k w g 0 m d os) :=
  ⟨rfl, rfl, rfl, by unfold sortWorldK Go.Sort.putRowK; rw [Go.Sort.size_grow, Go.Sort.size_putRow]; exact Nat.le_add_right _ _, fun i hi => sortG_other (by omega) (by omega)⟩
end
end Go.Proofs.YteckblffpidigaaGreatDoor
