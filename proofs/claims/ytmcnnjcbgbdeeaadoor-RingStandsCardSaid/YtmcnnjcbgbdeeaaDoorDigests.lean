/- The walk of the law's digests. No condition. -/
import Derived.Test.YtmcnnjcbgbdeeaaDoorLists
import Derived.Lib.SlBytesConst
import Derived.Lib.SmallJoins
namespace Go.Proofs.YtmcnnjcbgbdeeaaDoor
open Go.RowKit
theorem rd_made {w : World} {g : Nat} (hg : g = w.heap.size) (C : Array Value) (e : TypeId) (fr : Nat × Nat) (n : Nat) (l : List Value) (hC : C.toList = l) (hn : l.length = n) : Rd (w.alloc (.cells C e fr)) (some ⟨g, 0, none⟩) n l := by
  subst hg
  have hs : C.size = n := by rw [← Array.length_toList, hC, hn]
  have hg : (w.alloc (.cells C e fr)).heap[w.heap.size]? = some (.cells C e fr) := by
    show (w.heap.push (.cells C e fr))[w.heap.size]? = _
    simp
  have := Rd.of_row hg 0 n (by omega)
  rwa [hC, List.drop_zero, List.take_of_length_le (by simp [hn])] at this
/-- A slice of one slice. -/
theorem parts1 {w : World} {g : Nat} (hg : g = w.heap.size) (e : TypeId) (p : Part) (h : Rd w p.A p.n (u8s p.l)) (hc : p.n ≤ p.c) : Parts (w.alloc (.cells #[p.val] e)) (some ⟨g, 0, none⟩) 1 [p] :=
  ⟨rd_made hg _ _ _ 1 _ rfl rfl, fun q hq => by simp only [List.mem_singleton] at hq; subst hq; exact ⟨(Gr.alloc _ _).rd h, hc⟩⟩
/-- A slice of slices that lay there. -/
theorem partsN {w : World} {g : Nat} (hg : g = w.heap.size) (e : TypeId) (C : Array Value) (ps : List Part) (n : Nat) (hC : C.toList = ps.map Part.val) (hn : ps.length = n) (h : ∀ p ∈ ps, Rd w p.A p.n (u8s p.l) ∧ p.n ≤ p.c) : Parts (w.alloc (.cells C e)) (some ⟨g, 0, none⟩) n ps :=
  ⟨rd_made hg _ _ _ n _ hC (by simp [hn]), fun q hq => ⟨(Gr.alloc _ _).rd (h q hq).1, (h q hq).2⟩⟩
def abP (g : Nat) : List Part := [⟨some ⟨g, 0, none⟩, 2, 2, [97, 98]⟩, ⟨some ⟨g + 1, 0, none⟩, 1, 1, [99]⟩]
theorem parts_ab (w : World) (t u : TypeId) (f1 f2 : Nat × Nat) :
    Parts (((w.alloc (.cells #[.int .u8 97, .int .u8 98] t f1)).alloc (.cells #[.int .u8 99] t f2)).alloc (.cells #[.slice (some ⟨w.heap.size, 0, none⟩) 2 2, .slice (some ⟨w.heap.size + 1, 0, none⟩) 1 1] u)) (some ⟨w.heap.size + 1 + 1, 0, none⟩) 2 (abP w.heap.size) := by
  refine partsN (by simp only [asz]) u _ _ 2 rfl rfl fun p hp => ?_
  simp only [abP, List.mem_cons, List.not_mem_nil, or_false] at hp
  rcases hp with rfl | rfl
  · exact ⟨(Gr.alloc _ _).rd (rd_made rfl _ _ _ 2 _ rfl rfl), Nat.le_refl _⟩
  · exact ⟨rd_made (by simp only [asz]) _ _ _ 1 _ rfl rfl, Nat.le_refl _⟩
theorem abc_P (g : Nat) : allP (abP g) = abcL := rfl
end Go.Proofs.YtmcnnjcbgbdeeaaDoor
