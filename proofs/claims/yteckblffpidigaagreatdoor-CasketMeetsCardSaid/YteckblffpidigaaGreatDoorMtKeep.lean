/- What CompactFunc keeps of a sorted row, in plain; clear at elements of many cells. No condition. -/
import Derived.Test.YteckblffpidigaaGreatDoorMtSRow
import Derived.Laws.IdiomCopy
namespace Go.Proofs.YteckblffpidigaaGreatDoor
open Go.RowKit
def keepN (L : List SibU) : Nat → List SibU
  | 0 => []
  | i + 1 => match L[i]? with
    | none => keepN L i
    | some x => if i ≠ 0 ∧ L[i - 1]?.map (fun y => y.1.d) = some x.1.d then keepN L i else keepN L i ++ [x]
theorem keepN_mem {L : List SibU} : ∀ i, ∀ y ∈ keepN L i, ∃ j, j < i ∧ L[j]? = some y := by
  intro i
  induction i with
  | zero => intro y hy; cases hy
  | succ i ih =>
    intro y hy
    unfold keepN at hy
    cases hx : L[i]? with
    | none =>
      rw [hx] at hy
      obtain ⟨j, h1, h2⟩ := ih y hy
      exact ⟨j, by omega, h2⟩
    | some x =>
      rw [hx] at hy
      simp only at hy
      split at hy
      · obtain ⟨j, h1, h2⟩ := ih y hy
        exact ⟨j, by omega, h2⟩
      · rcases List.mem_append.1 hy with hy | hy
        · obtain ⟨j, h1, h2⟩ := ih y hy
          exact ⟨j, by omega, h2⟩
        · have : y = x := by simpa using hy
          exact ⟨i, by omega, by rw [hx, this]⟩
theorem keepN_cover {L : List SibU} : ∀ i j x, j < i → L[j]? = some x → ∃ y ∈ keepN L i, y.1.d = x.1.d := by
  intro i
  induction i with
  | zero => intro j x h; omega
  | succ i ih =>
    intro j x hj hx
    unfold keepN
    rcases Nat.lt_or_eq_of_le (Nat.le_of_lt_succ hj) with h | h
    · obtain ⟨y, hy, hd⟩ := ih j x h hx
      cases L[i]? with
      | none => exact ⟨y, hy, hd⟩
      | some z =>
        simp only
        split
        · exact ⟨y, hy, hd⟩
        · exact ⟨y, List.mem_append_left _ hy, hd⟩
    · subst h
      rw [hx]
      simp only
      split
      · rename_i hc
        obtain ⟨hc1, hc2⟩ := hc
        cases hz : L[j - 1]? with
        | none => rw [hz] at hc2; cases hc2
        | some z =>
          rw [hz] at hc2
          obtain ⟨y, hy, hd⟩ := ih (j - 1) z (by omega) hz
          refine ⟨y, hy, hd.trans ?_⟩
          exact Option.some.inj hc2
      · exact ⟨x, List.mem_append_right _ (List.mem_singleton.2 rfl), rfl⟩
theorem keepN_sorted {L : List SibU} (hs : L.Pairwise fun p q => ¬ dLt q.1.d p.1.d) : ∀ i, (keepN L i).Pairwise fun p q => dLt p.1.d q.1.d := by
  have hle : ∀ (i j : Nat) (x y : SibU), i ≤ j → L[i]? = some x → L[j]? = some y → ¬ dLt y.1.d x.1.d := by
    intro i j x y hij hx hy
    obtain ⟨l1, e1⟩ := List.getElem?_eq_some_iff.1 hx
    obtain ⟨l2, e2⟩ := List.getElem?_eq_some_iff.1 hy
    rcases Nat.lt_or_eq_of_le hij with h | h
    · have := List.pairwise_iff_getElem.1 hs i j l1 l2 h
      rwa [e1, e2] at this
    · subst h
      rw [e1] at e2
      rw [e2]
      exact dLt_irrefl _
  intro i
  induction i with
  | zero => exact List.Pairwise.nil
  | succ i ih =>
    unfold keepN
    cases hx : L[i]? with
    | none => exact ih
    | some x =>
      simp only
      split
      · exact ih
      · rename_i hc
        rw [List.pairwise_append]
        refine ⟨ih, List.pairwise_singleton _ _, fun y hy z hz => ?_⟩
        have hzx : z = x := by simpa using hz
        rw [hzx]
        obtain ⟨j, hj, hyj⟩ := keepN_mem i y hy
        have hi0 : i ≠ 0 := by omega
        have hil := (List.getElem?_eq_some_iff.1 hx).1
        obtain ⟨u, hu⟩ : ∃ u, L[i - 1]? = some u := ⟨_, List.getElem?_eq_getElem (by omega)⟩
        have h1 := hle j (i - 1) y u (by omega) hyj hu
        have h2 := hle (i - 1) i u x (by omega) hu hx
        have h3 : u.1.d ≠ x.1.d := fun e => hc ⟨hi0, by rw [hu, Option.map_some, e]⟩
        rcases dLt_total u.1.d x.1.d with h | h | h
        · rcases dLt_total y.1.d u.1.d with h' | h' | h'
          · exact dLt_trans h' h
          · rw [h']; exact h
          · exact absurd h' h1
        · exact absurd h h3
        · exact absurd h h2
theorem zeroCells_length (cs : Array Value) (n : Nat) : (Builtin.zeroCells cs n).toList.length = n * cs.size := by
  simp [Builtin.zeroCells]
theorem run_clearK {P : Program} {w : World} {t e ty T : TypeId} {z : Value} (ht : P.underlying t = some (.slice e)) (hv : ∀ w, (zeroValue e).run P w = .ok z w) (h1 : ∀ v ∈ z.cells.toList, v.oneCell' = true) {b o n c : Nat} (hn : 0 < n) {cs : List Value} (hA : Arr w b T cs) (hle : o + n * z.cells.size ≤ cs.length) (hz : 0 < z.cells.size) :
    (Builtin.clear_ #[t] ty #[.slice (some ⟨b, o, none⟩) n c]).run P w = .ok (.tuple #[]) (w.setCells b o (Builtin.zeroCells z.cells n).toList) := by
  have hl := zeroCells_length z.cells n
  have hone : ∀ v ∈ (Builtin.zeroCells z.cells n).toList, v.oneCell' = true := by
    intro v hv
    unfold Builtin.zeroCells at hv
    rw [Array.toList_map] at hv
    obtain ⟨i, _, rfl⟩ := List.mem_map.1 hv
    have hi : i % z.cells.size < z.cells.size := Nat.mod_lt _ hz
    apply h1
    rw [getElem!_def, Array.getElem?_eq_getElem hi]
    exact Array.getElem_mem_toList hi
  obtain ⟨vs, hvs⟩ : ∃ vs, vs = (Builtin.zeroCells z.cells n).toList := ⟨_, rfl⟩
  rw [← hvs] at hl hone ⊢
  have hst := Go.run_storeCells_cells (P := P) b o vs 0 w (fun j hj => by rw [Nat.add_zero, hA.cell (List.getElem?_eq_getElem (by omega))]; rfl) (fun j hj => hA.frozen _) hone
  simp only [Nat.add_zero] at hst
  obtain ⟨m, rfl⟩ : ∃ m, n = m + 1 := ⟨n - 1, by omega⟩
  simp [Builtin.clear_, run_underlying ht, hv, ← hvs, hst]
end Go.Proofs.YteckblffpidigaaGreatDoor
