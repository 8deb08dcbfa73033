/- Texts of one proof, laid as one: part 42. No condition. -/
import Derived.Deep.Grids
import Derived.Test.YtjpphldojbfpfaaGreatDoorZf02
namespace Go.Proofs.YtjpphldojbfpfaaGreatDoor
open Go.ChangeShapes Go.WideShapes Go.ChangeAt Go.RowKit
section
variable {H : Type} {enc : TypeId × Value → H} {P : Program} {w : World} {base : Nat} {held : Bool}
theorem open_boolS {r : Reach} {b0 : Nat} {t e : TypeId} {v : Value} {d : DataW H} {p : List MemPlace} (ht : P.underlying t = some (.slice e)) (he : P.underlying e = some .bool) (hc : P.cellsOf e = 1)
    (hv : Value.okWide P w r b0 t v) (h : DataW.Trod enc P w base (fun _ => true) held t v d p) :
    ∃ (A : Option Addr) (n c : Nat) (bl : List Bool), v = .slice A n c ∧ n ≤ c ∧ c ≤ maxLen ∧ Rd w A n (bl.map Value.bool) := by
  obtain ⟨A, n, c, rfl⟩ := okWide_slice ht hv; obtain ⟨fuel, hf⟩ := h; rcases Deep.open_bools ht he hc hf with ⟨hcs, _⟩ | ⟨x, l, c', B, hcs, _, hl, hm, _, hcell⟩
  · simp [Value.cells] at hcs; obtain ⟨rfl, rfl, rfl⟩ := hcs; exact ⟨none, 0, 0, [], rfl, Nat.le_refl _, Nat.zero_le _, Rd.nil _ _⟩
  · simp [Value.cells] at hcs; obtain ⟨rfl, rfl, rfl⟩ := hcs; refine ⟨some x, n, c, (List.range n).map B, rfl, hl, hm, ⟨by simp, fun i u hu => ⟨x, rfl, ?_⟩⟩⟩
    have hi : i < n := by
      have := (List.getElem?_eq_some_iff.1 hu).1; simpa using this
    rw [List.getElem?_map, List.getElem?_map, List.getElem?_range hi] at hu; simp only [Option.map_some, Option.some.injEq] at hu; rw [← hu]; exact hcell i (by omega)
end
end Go.Proofs.YtjpphldojbfpfaaGreatDoor
