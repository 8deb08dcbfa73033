/- A tree that is given another one's digests, leaf by leaf of those that are unlike: the plain law. No condition. -/
import Derived.Test.YthpgldfjcancjaaDoorPuP
import Derived.Test.YthpgldfjcancjaaDoorMkOrdP
import Derived.Test.YthpgldfjcancjaaDoorMkCalls
namespace Go.Proofs.YthpgldfjcancjaaDoor
open Go.RowKit
def ZNm : Nm := ⟨Z32, rfl⟩
/-- The leaves that are done hold the other one's rows. -/
def Half (R S T : Rw) (done : List Nat) : Prop := ∀ k : Nm, look T k.1 = if leafOf k ∈ done then look S k.1 else look R k.1
/-- Some names are away. -/
def Gone (R T : Rw) (done : List Nm) : Prop := ∀ k : Nm, look T k.1 = if k ∈ done then none else look R k.1
/-- Some names are the other one's. -/
def Laid (R S T : Rw) (done : List Nm) : Prop := ∀ k : Nm, look T k.1 = if k ∈ done then look S k.1 else look R k.1
theorem Half.nil (R S : Rw) : Half R S R [] := fun k => by rw [if_neg (by simp)]
theorem Gone.nil (R : Rw) : Gone R R [] := fun k => by rw [if_neg (by simp)]
theorem Laid.nil (R S : Rw) : Laid R S R [] := fun k => by rw [if_neg (by simp)]
theorem Gone.step {R T : Rw} {L : List Nm} {j : Nat} {x : Nm} (h : Gone R T (L.take j)) (hx : L[j]? = some x) : Gone R (setR T x ZNm) (L.take (j + 1)) := fun k => by
  rw [look_set, if_pos (show ZNm.1 = Z32 from rfl), List.take_add_one, hx]
  unfold upd
  by_cases e : k = x
  · subst e
    rw [if_pos rfl, if_pos (by simp)]
  · rw [if_neg (fun q => e (Subtype.ext q)), h k]
    have : (k ∈ List.take j L ++ (some x).toList) ↔ k ∈ List.take j L := by simp [e]
    simp only [this]
theorem Laid.step {R S T : Rw} {L : List Nm} {j : Nat} {x d : Nm} (hS : NoZ S) (h : Laid R S T (L.take j)) (hx : L[j]? = some x) (hd : d.1 = (look S x.1).getD Z32) : Laid R S (setR T x d) (L.take (j + 1)) := fun k => by
  rw [look_again hS x d hd, List.take_add_one, hx]
  unfold upd
  by_cases e : k = x
  · subst e
    rw [if_pos rfl, if_pos (by simp)]
  · rw [if_neg (fun q => e (Subtype.ext q)), h k]
    have : (k ∈ List.take j L ++ (some x).toList) ↔ k ∈ List.take j L := by simp [e]
    simp only [this]
theorem names_iff {R : Rw} (h : SortedR R) (a : Nat) (k : Nm) : k ∈ namesR R a ↔ look R k.1 ≠ none ∧ leafOf k = a := by
  have := (leafOf_rows h a).2.1 k
  unfold namesR
  rw [this]
  constructor
  · rintro ⟨h1, h2⟩
    exact ⟨h1, by omega⟩
  · rintro ⟨h1, h2⟩
    exact ⟨h1, by omega⟩
theorem Half.step {R S T T1 T2 : Rw} {u : List Nat} {i x : Nat} (h : Half R S T (u.take i)) (hx : u[i]? = some x) (hT : SortedR T) (hS : SortedR S) (h1 : Gone T T1 (namesR T x)) (h2 : Laid T1 S T2 (namesR S x)) : Half R S T2 (u.take (i + 1)) := fun k => by
  rw [h2 k, h1 k, List.take_add_one, hx, h k]
  have hn := names_iff hT x k
  have hm := names_iff hS x k
  by_cases e : leafOf k = x
  · rw [if_pos (show leafOf k ∈ List.take i u ++ (some x).toList by simp [e])]
    by_cases hk : look S k.1 = none
    · rw [if_neg (fun q => (hm.1 q).1 hk)]
      by_cases hl : look T k.1 = none
      · rw [if_neg (fun q => (hn.1 q).1 hl), ← h k, hl, hk]
      · rw [if_pos (hn.2 ⟨hl, e⟩), hk]
    · rw [if_pos (hm.2 ⟨hk, e⟩)]
  · rw [if_neg (fun q => e (hm.1 q).2), if_neg (fun q => e (hn.1 q).2)]
    have : (leafOf k ∈ List.take i u ++ (some x).toList) ↔ leafOf k ∈ List.take i u := by simp [e]
    simp only [this]
theorem look_long {R : Rw} {x : List UInt8} (h : x.length ≠ 32) : look R x = none := by
  cases hl : look R x with
  | none => rfl
  | some d =>
    obtain ⟨p, _, e, _⟩ := look_some hl
    exact absurd (by rw [← e]; exact p.1.2) h
theorem look_leaf {R : Rw} (h : SortedR R) (k : Nm) : look R k.1 = look (inLeaf R (leafOf k)) k.1 := by
  cases hl : look R k.1 with
  | none =>
    cases hm : look (inLeaf R (leafOf k)) k.1 with
    | none => rfl
    | some d =>
      obtain ⟨p, hp, e1, e2⟩ := look_some hm
      have hp1 := (List.mem_filter.1 hp).1
      have := look_mem h (d := p.2) hp1
      rw [e1, hl] at this
      cases this
  | some d =>
    obtain ⟨p, hp, e1, e2⟩ := look_some hl
    have ek : p.1 = k := Subtype.ext e1
    have hp1 : (p.1, p.2) ∈ inLeaf R (leafOf k) := List.mem_filter.2 ⟨hp, by simp [ek]⟩
    have := look_mem (List.Pairwise.filter _ h) hp1
    rw [e1, e2] at this
    exact this.symm
/-- A leaf with unlike rows, above which a node is the same. -/
def BadL (R S : Rw) (c : Nat) : Prop := c < 256 ∧ inLeaf R c ≠ inLeaf S c ∧ ∃ k, k ≤ 4 ∧ nodeR R k (c / 4 ^ k) = nodeR S k (c / 4 ^ k)
/-- Where the digests of the roots differ in the end, such a leaf is there. -/
theorem bad_there {R S T : Rw} (hR : SortedR R) (hS : SortedR S) (hT : SortedR T) (h : Half R S T (levelL R S 5)) (hne : nodeR T 4 0 ≠ nodeR S 4 0) : ∃ c, BadL R S c := by
  refine Classical.byContradiction fun hb => hne ?_
  have : T = S := by
    refine rows_ext hT hS (funext fun x => ?_)
    by_cases hl : x.length = 32
    · have hk := h ⟨x, hl⟩
      simp only at hk
      rw [hk]
      split
      · rfl
      · rename_i hni
        have hlf := leafOf_lt ⟨x, hl⟩
        have he : inLeaf R (leafOf ⟨x, hl⟩) = inLeaf S (leafOf ⟨x, hl⟩) := Classical.byContradiction fun hne2 => hni (leaf_found hlf fun k hk4 q => hb ⟨_, hlf, hne2, k, hk4, q⟩)
        have h1 := look_leaf hR ⟨x, hl⟩
        have h2 := look_leaf hS ⟨x, hl⟩
        simp only at h1 h2
        rw [h1, h2, he]
    · rw [look_long hl, look_long hl]
  rw [this]
/-- The leaves that are told stand in order. -/
theorem level_sorted (R S : Rw) : ∀ l, l ≤ 5 → (levelL R S l).Pairwise (· < ·)
  | 0, _ => List.pairwise_singleton _ _
  | l + 1, hl => by
    have ih := level_sorted R S l (by omega)
    show (unlikeL R S l (levelL R S l)).Pairwise _
    unfold unlikeL
    refine List.pairwise_flatMap.2 ⟨fun n _ => ?_, ih.imp fun {n m} hnm x hx y hy => ?_⟩
    · split
      · exact List.Pairwise.nil
      · unfold belowL
        split
        · exact List.pairwise_singleton _ _
        · simp
    · split at hx
      · cases hx
      · split at hy
        · cases hy
        · unfold belowL at hx hy
          split at hx
          · rename_i h4
            rw [if_pos h4] at hy
            simp only [List.mem_cons, List.not_mem_nil, or_false] at hx hy
            omega
          · rename_i h4
            rw [if_neg h4] at hy
            simp only [List.mem_cons, List.not_mem_nil, or_false] at hx hy
            omega
/-- The rows of unlike leaves are no more than all. -/
def sumLeaf (R : Rw) (u : List Nat) : Nat := (u.map fun x => (inLeaf R x).length).sum
theorem sumLeaf_le : ∀ (u : List Nat) (R : Rw), u.Pairwise (· < ·) → sumLeaf R u ≤ R.length
  | [], _, _ => Nat.zero_le _
  | x :: u, R, h => by
    obtain ⟨h1, h2⟩ := List.pairwise_cons.1 h
    have ih := sumLeaf_le u (R.filter fun p => !decide (leafOf p.1 = x)) h2
    have he : sumLeaf (R.filter fun p => !decide (leafOf p.1 = x)) u = sumLeaf R u := by
      unfold sumLeaf
      congr 1
      refine List.map_congr_left fun y hy => ?_
      have hxy := h1 y hy
      congr 1
      unfold inLeaf
      rw [List.filter_filter]
      refine List.filter_congr fun p _ => ?_
      by_cases e : leafOf p.1 = y
      · have : leafOf p.1 ≠ x := by omega
        simp [e]
        omega
      · simp [e]
    have hc : R.length = (inLeaf R x).length + (R.filter fun p => !decide (leafOf p.1 = x)).length := by
      have := List.length_eq_countP_add_countP (fun p : Nm × Nm => decide (leafOf p.1 = x)) (l := R)
      rw [List.countP_eq_length_filter, List.countP_eq_length_filter] at this
      unfold inLeaf
      rw [this]
      congr 2
      refine List.filter_congr fun p _ => ?_
      by_cases e : leafOf p.1 = x <;> simp [e]
    rw [he] at ih
    have : sumLeaf R (x :: u) = (inLeaf R x).length + sumLeaf R u := by unfold sumLeaf; rw [List.map_cons, List.sum_cons]
    omega
theorem told_few (R S : Rw) : (levelL R S 5).length ≤ R.length + S.length := by
  have h1 := sumLeaf_le _ R (level_sorted R S 5 (Nat.le_refl _))
  have h2 := sumLeaf_le _ S (level_sorted R S 5 (Nat.le_refl _))
  have key : ∀ u : List Nat, (∀ x ∈ u, inLeaf R x ≠ inLeaf S x) → u.length ≤ sumLeaf R u + sumLeaf S u := by
    intro u
    induction u with
    | nil => intro _; exact Nat.zero_le _
    | cons x u ih =>
      intro h
      have ih := ih fun y hy => h y (List.mem_cons_of_mem _ hy)
      have hx := h x (List.mem_cons_self ..)
      have e1 : sumLeaf R (x :: u) = (inLeaf R x).length + sumLeaf R u := by unfold sumLeaf; rw [List.map_cons, List.sum_cons]
      have e2 : sumLeaf S (x :: u) = (inLeaf S x).length + sumLeaf S u := by unfold sumLeaf; rw [List.map_cons, List.sum_cons]
      have : (inLeaf R x).length + (inLeaf S x).length ≠ 0 := fun q => hx (by
        rw [List.length_eq_zero_iff.1 (by omega : (inLeaf R x).length = 0), List.length_eq_zero_iff.1 (by omega : (inLeaf S x).length = 0)])
      rw [List.length_cons]
      omega
  have := key _ fun x hx => rows_unlike (leaves_unlike hx).2
  omega
theorem LeafOf.same {M M' : List UInt8 → Option (List UInt8)} {a : Nat} {L : List Nm} (h : LeafOf M (a : Int) L) (he : ∀ k : Nm, leafOf k = a → M k.1 = M' k.1) : LeafOf M' (a : Int) L := by
  refine ⟨h.1, fun x => ?_, h.2.2⟩
  rw [h.2.1 x]
  constructor
  · rintro ⟨h1, h2⟩
    exact ⟨by rw [← he x (by omega)]; exact h1, h2⟩
  · rintro ⟨h1, h2⟩
    exact ⟨by rw [he x (by omega)]; exact h1, h2⟩
/-- In a leaf lie no more names than either had. -/
theorem Half.few {R S T : Rw} {done : List Nat} (h : Half R S T done) (hT : SortedR T) (hR : SortedR R) (hS : SortedR S) (a : Nat) : (inLeaf T a).length ≤ R.length + S.length := by
  have hl := leafOf_rows hT a
  by_cases e : a ∈ done
  · have h1 := hl.same (M' := look S) fun k hk => by rw [h k, hk, if_pos e]
    have h2 := congrArg List.length (leafOf_uniq h1 (leafOf_rows hS a))
    rw [List.length_map, List.length_map] at h2
    have := List.length_filter_le (fun p : Nm × Nm => decide (leafOf p.1 = a)) S
    unfold inLeaf at h2 ⊢
    omega
  · have h1 := hl.same (M' := look R) fun k hk => by rw [h k, hk, if_neg e]
    have h2 := congrArg List.length (leafOf_uniq h1 (leafOf_rows hR a))
    rw [List.length_map, List.length_map] at h2
    have := List.length_filter_le (fun p : Nm × Nm => decide (leafOf p.1 = a)) R
    unfold inLeaf at h2 ⊢
    omega
end Go.Proofs.YthpgldfjcancjaaDoor
