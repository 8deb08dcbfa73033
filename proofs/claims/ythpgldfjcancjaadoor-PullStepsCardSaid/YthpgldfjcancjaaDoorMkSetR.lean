/- What a tree's calls may turn; a tree that tells its rows. No condition. -/
import Derived.Test.YthpgldfjcancjaaDoorMkPl
import Derived.Test.YthpgldfjcancjaaDoorKitN
import Derived.Test.YthpgldfjcancjaaDoorKitM
namespace Go.Proofs.YthpgldfjcancjaaDoor
open Go.RowKit
open Go.ChangeMaps (setBlock)
/-- The tree at g, with its map b. -/
def treeT (g b : Nat) : Nat → Obj → Bool := fun k o => match o with | .map _ _ => k == b | .cells _ t _ => k == g && t == 76 | _ => false
theorem treeT_cells {g b k : Nat} {C : Array Value} {t : TypeId} {f : Nat × Nat} (h : (t == 76) = false) : treeT g b k (.cells C t f) = false := by simp [treeT, h]
section
variable {w w' : World}
theorem treeT_below {g b B : Nat} (h : Tn (treeT g b) 0 w w') (hg : B ≤ g) (hb : B ≤ b) : Below B w w' ∨ w.heap.size < B := by
  rcases Nat.lt_or_ge w.heap.size B with h0 | h0
  · exact .inr h0
  · refine .inl ⟨h.os, h.tape, h.output, h.size, fun k hk => h.block k (by omega) (.inr ?_)⟩
    cases w.heap[k]? with
    | none => rfl
    | some o =>
      show treeT g b k o = false
      cases o with
      | map es c => show (k == b) = false; simp; omega
      | cells C t f => show (k == g && _) = false; simp; omega
      | _ => rfl
theorem Tn.setMap {τ : Nat → Obj → Bool} {B b n n' : Nat} {M M' : List UInt8 → Option (List UInt8)} {o : Obj} (h : TM w b n M) (hw : w' = setBlock w b o) (h' : TM w' b n' M') (hB : B ≤ b) (hm : ∀ es c, τ b (.map es c) = true) : Tn τ B w w' := by
  obtain ⟨es, c, hbk⟩ := h.isMap
  obtain ⟨es', c', hbk'⟩ := h'.isMap
  subst hw
  have ho : ∀ i, i ≠ b → (setBlock w b o).heap[i]? = w.heap[i]? := fun i hi => ChangeMaps.heap_setBlock_other hbk o hi
  refine ⟨rfl, rfl, rfl, by simp [setBlock], fun i _ hf => ho i (fun e => ?_), fun i _ => ?_⟩
  · subst e
    rcases hf with hf | hf
    · omega
    · rw [hbk] at hf; simp [Turns, hm] at hf
  · by_cases e : i = b
    · subst e; rw [hbk', hbk]; simp [Turns, hm]
    · rw [ho i e]
theorem Tn.setCells {τ : Nat → Obj → Bool} {B g : Nat} {t : TypeId} (hB : B ≤ g) (hm : ∀ C f, τ g (.cells C t f) = true) : ∀ (vs : List Value) (i : Nat) (w : World) (cs : List Value), Arr w g t cs → Tn τ B w (w.setCells g i vs)
  | [], _, _, _, _ => Tn.refl _
  | v :: vs, i, _, _, h => (Tn.cell h hB hm i v).trans (Tn.setCells hB hm vs (i + 1) _ _ (h.set i v))
end
theorem TreeAt.map' {w w' : World} {g b n n' : Nat} {M M' : List UInt8 → Option (List UInt8)} {N : Nat → Nat → List UInt8} {o : Obj} (h : TreeAt w g b n M N) (hw : w' = setBlock w b o) (h' : TM w' b n' M') : TreeAt w' g b n' M' N := by
  obtain ⟨es, c, hbk⟩ := h.map.isMap
  refine ⟨?_, h', h.full⟩
  have hne : g ≠ b := by
    intro e
    have h2 : w.heap[g]? = _ := h.arr
    rw [e, hbk] at h2
    cases h2
  have h2 : w'.heap[g]? = w.heap[g]? := by rw [hw]; exact ChangeMaps.heap_setBlock_other hbk o hne
  exact h2.trans h.arr
theorem TreeAt.more {w : World} {g b n : Nat} {M : List UInt8 → Option (List UInt8)} {N : Nat → Nat → List UInt8} (h : TreeAt w g b n M N) : TreeAt w g b (n + 1) M N := ⟨h.arr, h.map.more (Nat.le_succ n), h.full⟩
/-- A tree in memory, with the rows that it tells. -/
structure TreeIs (w : World) (g b n : Nat) (R : Rw) : Prop where
  at_ : ∃ N, TreeAt w g b n (look R) N ∧ ∀ h a, h ≤ 4 → a < 4 ^ (4 - h) → N (4 - h) a = nodeR R h a
  sorted : SortedR R
section
variable {w w' : World} {g b n : Nat} {R : Rw}
theorem TreeIs.gr (h : TreeIs w g b n R) (hG : Gr w w') : TreeIs w' g b n R := by
  obtain ⟨⟨N, h1, h2⟩, h3⟩ := h
  exact ⟨⟨N, h1.gr hG, h2⟩, h3⟩
theorem TreeIs.tn {τ : Nat → Obj → Bool} {B : Nat} (h : TreeIs w g b n R) (hT : Tn τ B w w') (hm : ∀ es c, τ b (.map es c) = false) (hg : ∀ C f, τ g (.cells C 76 f) = false) : TreeIs w' g b n R := by
  obtain ⟨⟨N, h1, h2⟩, h3⟩ := h
  exact ⟨⟨N, h1.tn hT hm hg, h2⟩, h3⟩
end
theorem leafR_nil (a : Nat) : leafR [] a = Z32 := rfl
theorem nodeR_nil : ∀ h a, nodeR [] h a = Z32
  | 0, a => leafR_nil a
  | h + 1, a => by
    have e : nodeR [] (h + 1) a = aboveL fun _ => Z32 := aboveL_congr fun i _ => nodeR_nil h _
    rw [e]
    rfl
/-- The nodes, while a name's path is made anew: done up to h levels above the leaves. -/
def Path (R R' : Rw) (h : Nat) (N : Nat → Nat → List UInt8) : Prop :=
  (∀ i a, i ≤ 4 → i < h → a < 4 ^ (4 - i) → N (4 - i) a = nodeR R' i a) ∧ ∀ i a, i ≤ 4 → h ≤ i → a < 4 ^ (4 - i) → N (4 - i) a = nodeR R i a
theorem Path.step {R : Rw} {k d : Nm} {h : Nat} {N : Nat → Nat → List UInt8} (hP : Path R (setR R k d) h N) (hh : h ≤ 4) : Path R (setR R k d) (h + 1) (updN N (4 - h) (leafOf k / 4 ^ h) (nodeR (setR R k d) h (leafOf k / 4 ^ h))) := by
  refine ⟨fun i a hi hih ha => ?_, fun i a hi hih ha => ?_⟩
  · unfold updN
    by_cases e : 4 - i = 4 - h ∧ a = leafOf k / 4 ^ h
    · rw [if_pos e]
      obtain ⟨e1, e2⟩ := e
      have : i = h := by omega
      rw [this, e2]
    · rw [if_neg e]
      rcases Nat.lt_or_ge i h with h1 | h1
      · exact hP.1 i a hi h1 ha
      · have e1 : i = h := by omega
        subst e1
        have hne : a ≠ leafOf k / 4 ^ i := fun q => e ⟨rfl, q⟩
        rw [hP.2 i a hi (Nat.le_refl _) ha, nodeR_off R k d fun q => hne q.symm]
  · unfold updN
    rw [if_neg fun e => by omega]
    exact hP.2 i a hi (by omega) ha
/-- The four below are done: what is above them. -/
theorem Path.four {R : Rw} {k d : Nm} {h : Nat} {N : Nat → Nat → List UInt8} (hP : Path R (setR R k d) (h + 1) N) (hh : h < 4) (hk : leafOf k < 256) : aboveL (fun i => N (4 - h) (4 * (leafOf k / 4 ^ (h + 1)) + i)) = nodeR (setR R k d) (h + 1) (leafOf k / 4 ^ (h + 1)) := by
  refine aboveL_congr fun i hi => hP.1 h _ (by omega) (by omega) ?_
  have h1 : leafOf k / 4 ^ (h + 1) < 4 ^ (4 - (h + 1)) := by
    refine Nat.div_lt_of_lt_mul ?_
    rw [← Nat.pow_add, show h + 1 + (4 - (h + 1)) = 4 by omega]
    exact hk
  have h2 : 4 ^ (4 - h) = 4 ^ (4 - (h + 1)) * 4 := by rw [← Nat.pow_succ]; congr 1; omega
  omega
theorem Path.start {R : Rw} {k d : Nm} {N : Nat → Nat → List UInt8} (h : ∀ h a, h ≤ 4 → a < 4 ^ (4 - h) → N (4 - h) a = nodeR R h a) : Path R (setR R k d) 0 N :=
  ⟨fun i _ _ hi _ => absurd hi (by omega), fun i a hi _ ha => h i a hi ha⟩
theorem leafOf_lt (k : Nm) : leafOf k < 256 := (k.1.getD 0 0).toNat_lt
end Go.Proofs.YthpgldfjcancjaaDoor
