/- The ring's walk over its sorted points is the document's order. No condition. -/
import Derived.Test.YtmcnnjcbgbdeeaaDoorRingP
namespace Go.Proofs.YtmcnnjcbgbdeeaaDoor
theorem ring_walk {at_ : Nat → Nat → Nat} {reps points key f : Nat} {L : List (Nat × Nat × Nat)} (hat : ∀ r p, at_ r p < 18446744073709551616) (hk : key < 18446744073709551616) (hp : points ≠ 0)
    (hmem : ∀ a r p, (a, r, p) ∈ L ↔ r < reps ∧ p < points ∧ a = at_ r p) (hs : L.Pairwise fun p q => p.1 < q.1 ∨ p.1 = q.1 ∧ p.2.1 ≤ q.2.1) (hf : ∀ i p, L[i]? = some p → (i < f ↔ p.1 < key)) :
    dedup ((L.drop f ++ L.take f).map (·.2.1)) = nearL (nearOf at_ key points) reps := by
  have hP : (L.map fun q => (q.1, q.2.1)).Pairwise fun p q => p.1 < q.1 ∨ p.1 = q.1 ∧ p.2 ≤ q.2 := by
    rw [List.pairwise_map]
    exact hs
  have hatP : ∀ p ∈ L.map fun q => (q.1, q.2.1), p.1 < 18446744073709551616 := fun p h => by
    obtain ⟨⟨a, r, j⟩, hq, rfl⟩ := List.mem_map.1 h
    have := ((hmem a r j).1 hq).2.2
    simp only
    rw [this]
    exact hat r j
  have h1 : ∀ p ∈ (L.map fun q => (q.1, q.2.1)).take f, p.1 < key := fun p h => by
    rw [← List.map_take] at h
    obtain ⟨q, hq, rfl⟩ := List.mem_map.1 h
    obtain ⟨i, hi, he⟩ := List.getElem_of_mem hq
    have hif : i < f := by
      rw [List.length_take] at hi
      omega
    rw [List.getElem_take] at he
    exact (hf i q (by rw [List.getElem?_eq_getElem (by rw [List.length_take] at hi; omega), he])).1 hif
  have h2 : ∀ p ∈ (L.map fun q => (q.1, q.2.1)).drop f, key ≤ p.1 := fun p h => by
    rw [← List.map_drop] at h
    obtain ⟨q, hq, rfl⟩ := List.mem_map.1 h
    obtain ⟨i, hi, he⟩ := List.getElem_of_mem hq
    rw [List.getElem_drop] at he
    have hl : f + i < L.length := by
      rw [List.length_drop] at hi
      omega
    have := hf (f + i) q (by rw [List.getElem?_eq_getElem hl, he])
    simp only
    omega
  have hR := rotate_rises hP hk hatP h1 h2
  have key2 : (((L.map fun q => (q.1, q.2.1)).drop f ++ (L.map fun q => (q.1, q.2.1)).take f).map fun p => (gap key p.1, p.2)).map (·.2) = (L.drop f ++ L.take f).map (·.2.1) := by
    rw [← List.map_drop, ← List.map_take, ← List.map_append, List.map_map, List.map_map]
    rfl
  rw [← key2]
  have hin : ∀ p ∈ ((L.map fun q => (q.1, q.2.1)).drop f ++ (L.map fun q => (q.1, q.2.1)).take f).map (fun p => (gap key p.1, p.2)), ∃ r j, r < reps ∧ j < points ∧ p = (gap key (at_ r j), r) := fun p h => by
    obtain ⟨q, hq, rfl⟩ := List.mem_map.1 h
    have hq2 : q ∈ L.map fun q => (q.1, q.2.1) := by
      rcases List.mem_append.1 hq with h | h
      · exact List.mem_of_mem_drop h
      · exact List.mem_of_mem_take h
    obtain ⟨⟨a, r, j⟩, ha, rfl⟩ := List.mem_map.1 hq2
    obtain ⟨e1, e2, e3⟩ := (hmem a r j).1 ha
    exact ⟨r, j, e1, e2, by simp only; rw [e3]⟩
  refine walk_near hR (near := nearOf at_ key points) (n := reps) (fun p h => ?_) (fun x hx => ?_) (fun p h => ?_)
  · obtain ⟨r, j, e1, e2, rfl⟩ := hin p h
    exact nearOf_le at_ key points r j e2
  · obtain ⟨j, hj, he⟩ := nearOf_is at_ key points x hp
    refine ⟨(gap key (at_ x j), x), List.mem_map.2 ⟨(at_ x j, x), ?_, rfl⟩, rfl, he.symm⟩
    have hm : (at_ x j, x) ∈ L.map fun q => (q.1, q.2.1) := List.mem_map.2 ⟨(at_ x j, x, j), (hmem _ _ _).2 ⟨hx, hj, rfl⟩, rfl⟩
    rw [← List.take_append_drop f (L.map fun q => (q.1, q.2.1))] at hm
    rw [List.mem_append] at hm ⊢
    exact hm.symm
  · obtain ⟨r, j, e1, e2, rfl⟩ := hin p h
    exact e1
end Go.Proofs.YtmcnnjcbgbdeeaaDoor
