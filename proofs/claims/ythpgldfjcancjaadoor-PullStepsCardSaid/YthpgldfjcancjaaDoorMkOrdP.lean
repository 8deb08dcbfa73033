/- Two trees that are told the same in the end: the plain law. No condition. -/
import Derived.Test.YthpgldfjcancjaaDoorMkPl
namespace Go.Proofs.YthpgldfjcancjaaDoor
open Go.RowKit
/-- No row holds a digest of noughts. -/
def NoZ (R : Rw) : Prop := ∀ x, look R x ≠ some Z32
theorem NoZ.nil : NoZ [] := fun _ h => by cases h
theorem NoZ.set {R : Rw} (h : NoZ R) (k d : Nm) : NoZ (setR R k d) := fun x e => by
  rw [look_set] at e
  unfold upd at e
  split at e
  · split at e
    · cases e
    · rename_i hd
      injection e with e
      exact hd e
  · exact h x e
/-- What is written again is what was told. -/
theorem look_again {R S : Rw} (h : NoZ R) (k d : Nm) (hd : d.1 = (look R k.1).getD Z32) : look (setR S k d) = upd (look S) k.1 (look R k.1) := by
  rw [look_set]
  congr 1
  cases hl : look R k.1 with
  | none =>
    rw [hl] at hd
    have hz : d.1 = Z32 := hd
    rw [if_pos hz]
  | some e =>
    rw [hl] at hd
    have he : d.1 = e := hd
    rw [if_neg, he]
    intro q
    rw [he] at q
    exact h k.1 (by rw [hl, q])
theorem mem_of_look {R : Rw} (hR : SortedR R) (p : Nm × Nm) : p ∈ R ↔ look R p.1.1 = some p.2.1 := by
  refine ⟨fun h => look_mem hR (d := p.2) h, fun h => ?_⟩
  obtain ⟨q, hq, e1, e2⟩ := look_some h
  have : q = p := Prod.ext (Subtype.ext e1) (Subtype.ext e2)
  rw [← this]
  exact hq
theorem rows_nodup {R : Rw} (h : SortedR R) : R.Nodup := h.imp fun {p q} hlt e => by rw [e] at hlt; exact cb_irrefl _ hlt
/-- Rows that tell the same are the same. -/
theorem rows_ext {R S : Rw} (hR : SortedR R) (hS : SortedR S) (h : look R = look S) : R = S := by
  have hp : R.Perm S := (List.perm_ext_iff_of_nodup (rows_nodup hR) (rows_nodup hS)).2 fun p => by rw [mem_of_look hR, mem_of_look hS, h]
  refine List.Perm.eq_of_pairwise (le := fun (p q : Nm × Nm) => Lib.compareBytes p.1.1 q.1.1 < 0) ?_ hR hS hp
  intro p q _ _ h1 h2
  have := cb_trans h1 h2
  exact absurd this (cb_irrefl _)
/-- Of the acts' names alone anything is told. -/
def OnlyOf (f : Nat → Nm) (m : Nat) (R : Rw) : Prop := ∀ x, (∀ i, i < m → (f i).1 ≠ x) → look R x = none
theorem OnlyOf.set {f : Nat → Nm} {m i : Nat} {R : Rw} (h : OnlyOf f m R) (hi : i < m) (d : Nm) : OnlyOf f m (setR R (f i) d) := fun x hx => by
  rw [look_set]
  unfold upd
  rw [if_neg fun e => hx i hi e.symm]
  exact h x hx
theorem OnlyOf.nil (f : Nat → Nm) (m : Nat) : OnlyOf f m [] := fun _ _ => rfl
/-- The names that are done tell the same. -/
def Done (f : Nat → Nm) (m : Nat) (R S : Rw) (left : List Nat) : Prop := ∀ i, i < m → i ∉ left → look S (f i).1 = look R (f i).1
theorem Done.start (f : Nat → Nm) (m : Nat) (R S : Rw) : Done f m R S (List.range m) := fun _ hi hn => absurd (List.mem_range.2 hi) hn
theorem Done.next {f : Nat → Nm} {m k x : Nat} {R S : Rw} {left : List Nat} (h : Done f m R S left) (hR : NoZ R) (hk : left[k]? = some x) (d : Nm) (hd : d.1 = (look R (f x).1).getD Z32) : Done f m R (setR S (f x) d) (left.take k ++ left.drop (k + 1)) := by
  intro i hi hn
  rw [look_again hR (f x) d hd]
  unfold upd
  by_cases e : (f i).1 = (f x).1
  · rw [if_pos e, e]
  · rw [if_neg e]
    refine h i hi fun hm => hn ?_
    have hkl : k < left.length := (List.getElem?_eq_some_iff.1 hk).1
    rw [← List.take_append_drop k left, List.drop_eq_getElem_cons hkl] at hm
    rcases List.mem_append.1 hm with hm | hm
    · exact List.mem_append_left _ hm
    · rcases List.mem_cons.1 hm with hm | hm
      · have hx : left[k] = x := by
          have := List.getElem?_eq_getElem hkl
          rw [hk] at this
          exact (Option.some.inj this).symm
        rw [hx] at hm
        exact absurd (by rw [hm]) e
      · exact List.mem_append_right _ hm
theorem Done.all {f : Nat → Nm} {m : Nat} {R S : Rw} (h : Done f m R S []) (hR : OnlyOf f m R) (hS : OnlyOf f m S) (h1 : SortedR R) (h2 : SortedR S) : S = R := by
  refine rows_ext h2 h1 (funext fun x => ?_)
  by_cases e : ∃ i, i < m ∧ (f i).1 = x
  · obtain ⟨i, hi, rfl⟩ := e
    exact h i hi (by simp)
  · have h0 : ∀ i, i < m → (f i).1 ≠ x := fun i hi q => e ⟨i, hi, q⟩
    rw [hR x h0, hS x h0]
end Go.Proofs.YthpgldfjcancjaaDoor
