/- Opening an argument of bytes, nil told apart. No condition. -/
import Derived.Test.YtmmjjjdocanmfaaDoorOpen
namespace Go.Proofs.YtmmjjjdocanmfaaDoor
open Go.ChangeShapes Go.WideShapes Go.ChangeAt Go.RowKit

section
variable {H : Type} {enc : TypeId × Value → H} {P : Program} {w : World} {base : Nat} {spare : Nat → Bool} {held : Bool}

/-- A slice of bytes that came in. -/
theorem open_u8sA {r : Reach} {b0 : Nat} {t e : TypeId} {v : Value} {d : DataW H} {p : List MemPlace} (ht : P.underlying t = some (.slice e)) (he : P.underlying e = some (.int .u8)) (hc : P.cellsOf e = 1)
    (hv : Value.okWide P w r b0 t v) (h : DataW.Trod enc P w base (fun _ => true) held t v d p) :
    ∃ (A : Option Addr) (n c : Nat) (l : List UInt8), v = .slice A n c ∧ n ≤ c ∧ c ≤ maxLen ∧ Rd w A n (u8s l) ∧ (A = none → n = 0 ∧ c = 0) := by
  obtain ⟨A, n, c, rfl⟩ := okWide_slice ht hv
  obtain ⟨fuel, hf⟩ := h
  rcases open_ints ht he hc hf with ⟨hcs, _⟩ | ⟨x, l, c', zs, hcs, _, hl, hm, hz, _, hcell, hwz⟩
  · simp [Value.cells] at hcs
    obtain ⟨rfl, rfl, rfl⟩ := hcs
    exact ⟨none, 0, 0, [], rfl, Nat.le_refl _, Nat.zero_le _, Rd.nil _ _, fun _ => ⟨rfl, rfl⟩⟩
  · simp [Value.cells] at hcs
    obtain ⟨rfl, rfl, rfl⟩ := hcs
    obtain ⟨m, hm1, hm2⟩ := bytes_of_wf (zs.take n) fun z hz' => hwz z (List.mem_of_mem_take hz')
    have hzl : zs.length = c := by simpa using hz
    refine ⟨_, n, c, m, rfl, hl, hm, ⟨?_, fun i u hu => ⟨x, rfl, ?_⟩⟩, fun h => by cases h⟩
    · simp [hm2, hzl]; omega
    · rw [← hm1, List.getElem?_map, Option.map_eq_some_iff] at hu
      obtain ⟨z, hz1, rfl⟩ := hu
      rw [List.getElem?_take] at hz1
      split at hz1
      · rw [hcell i (by omega), List.getD_eq_getElem?_getD, hz1]; rfl
      · cases hz1

end
end Go.Proofs.YtmmjjjdocanmfaaDoor
