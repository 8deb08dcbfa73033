/- What a tree tells, in plain: rows of names and digests, the digests of nodes. No condition. -/
import Derived.Test.YthpgldfjcancjaaDoorMkAbove
import Derived.Test.YthpgldfjcancjaaDoorKitN
namespace Go.Proofs.YthpgldfjcancjaaDoor
open Go.RowKit
/-- The names of a leaf, in order. -/
def LeafOf (M : List UInt8 → Option (List UInt8)) (a : Int) (L : List Nm) : Prop := L.Nodup ∧ (∀ x : Nm, x ∈ L ↔ (M x.1 ≠ none ∧ (leafOf x : Int) = a)) ∧ L.Pairwise fun p q => ¬ Lib.compareBytes q.1 p.1 < 0
/-- Names and digests, one behind the other. -/
def joinM (M : List UInt8 → Option (List UInt8)) (L : List Nm) : List UInt8 := L.flatMap fun x => x.1 ++ (M x.1).getD Z32
def leafL (M : List UInt8 → Option (List UInt8)) (L : List Nm) : List UInt8 := if L.length = 0 then Z32 else shaL (joinM M L)
theorem joinM_take {M : List UInt8 → Option (List UInt8)} {L : List Nm} {i : Nat} {x : Nm} (h : L[i]? = some x) : joinM M (L.take (i + 1)) = joinM M (L.take i) ++ x.1 ++ (M x.1).getD Z32 := by
  unfold joinM
  rw [List.take_add_one, h, List.flatMap_append]
  simp [List.append_assoc]
theorem getD_length {M : List UInt8 → Option (List UInt8)} (hM : ∀ k d, M k = some d → k.length = 32 ∧ d.length = 32) (k : List UInt8) : ((M k).getD Z32).length = 32 := by
  cases h : M k with
  | none => rfl
  | some d => exact (hM k d h).2
theorem joinM_length {M : List UInt8 → Option (List UInt8)} (hM : ∀ k d, M k = some d → k.length = 32 ∧ d.length = 32) (L : List Nm) : (joinM M L).length = 64 * L.length := by
  induction L with
  | nil => rfl
  | cons x L ih =>
    unfold joinM at ih ⊢
    rw [List.flatMap_cons, List.length_append, List.length_append, ih, x.2, getD_length hM, List.length_cons]
    omega
theorem leafL_length (M : List UInt8 → Option (List UInt8)) (L : List Nm) : (leafL M L).length = 32 := by
  unfold leafL
  split
  · rfl
  · exact shaL_length _
/-- What a tree holds, as rows: a name, its digest. -/
abbrev Rw := List (Nm × Nm)
def look (R : Rw) (k : List UInt8) : Option (List UInt8) := (R.find? fun p => decide (p.1.1 = k)).map fun p => p.2.1
def insR (k d : Nm) : Rw → Rw
  | [] => [(k, d)]
  | r :: R => if Lib.compareBytes r.1.1 k.1 < 0 then r :: insR k d R else (k, d) :: (r :: R).filter fun p => decide (p.1 ≠ k)
def setR (R : Rw) (k d : Nm) : Rw := if d.1 = Z32 then R.filter (fun p => decide (p.1 ≠ k)) else insR k d R
def SortedR (R : Rw) : Prop := R.Pairwise fun p q => Lib.compareBytes p.1.1 q.1.1 < 0
/-- The rows of a leaf. -/
def inLeaf (R : Rw) (a : Nat) : Rw := R.filter fun p => decide (leafOf p.1 = a)
def joinR (R : Rw) : List UInt8 := R.flatMap fun p => p.1.1 ++ p.2.1
def leafR (R : Rw) (a : Nat) : List UInt8 := if (inLeaf R a).length = 0 then Z32 else shaL (joinR (inLeaf R a))
/-- The digest of a node, h levels above the leaves. -/
def nodeR (R : Rw) : Nat → Nat → List UInt8
  | 0, a => leafR R a
  | h + 1, a => aboveL fun i => nodeR R h (4 * a + i)
theorem aboveL_length (D : Nat → List UInt8) : (aboveL D).length = 32 := by
  unfold aboveL
  split
  · exact shaL_length _
  · rfl
theorem leafR_length (R : Rw) (a : Nat) : (leafR R a).length = 32 := by
  unfold leafR
  split
  · rfl
  · exact shaL_length _
theorem nodeR_length (R : Rw) : ∀ h a, (nodeR R h a).length = 32
  | 0, a => leafR_length R a
  | _ + 1, _ => aboveL_length _
theorem cb_irrefl (a : List UInt8) : ¬ Lib.compareBytes a a < 0 := by rw [cb_refl]; omega
theorem cb_ge_lt {a b : List UInt8} (h : ¬ Lib.compareBytes a b < 0) (hne : b ≠ a) : Lib.compareBytes b a < 0 := by
  have := cb_anti a b
  by_cases h0 : Lib.compareBytes a b = 0
  · exact absurd (cb_zero h0).symm hne
  · omega
theorem cb_ge_trans {a b c : List UInt8} (h : ¬ Lib.compareBytes b a < 0) (k : Lib.compareBytes b c < 0) : Lib.compareBytes a c < 0 := by
  by_cases e : a = b
  · subst e; exact k
  · exact cb_trans (cb_ge_lt h e) k
theorem mem_insR {k d : Nm} {x : Nm × Nm} : ∀ {R : Rw}, x ∈ insR k d R → x = (k, d) ∨ x ∈ R
  | [], h => by
    have h2 : x ∈ [(k, d)] := h
    exact .inl (by simpa using h2)
  | r :: R, h => by
    unfold insR at h
    split at h
    · rcases List.mem_cons.1 h with h | h
      · exact .inr (by rw [h]; exact List.mem_cons_self ..)
      · rcases mem_insR h with h | h
        · exact .inl h
        · exact .inr (List.mem_cons_of_mem _ h)
    · rcases List.mem_cons.1 h with h | h
      · exact .inl h
      · exact .inr ((List.mem_filter.1 h).1)
theorem insR_sorted {k d : Nm} : ∀ {R : Rw}, SortedR R → SortedR (insR k d R)
  | [], _ => by
    show List.Pairwise _ [(k, d)]
    exact List.pairwise_singleton _ _
  | r :: R, h => by
    obtain ⟨h1, h2⟩ := List.pairwise_cons.1 h
    unfold insR
    split
    · rename_i hlt
      refine List.pairwise_cons.2 ⟨fun x hx => ?_, insR_sorted h2⟩
      rcases mem_insR hx with rfl | hx
      · exact hlt
      · exact h1 x hx
    · rename_i hge
      refine List.pairwise_cons.2 ⟨fun x hx => ?_, List.Pairwise.filter _ h⟩
      obtain ⟨hx, hne⟩ := List.mem_filter.1 hx
      have hne : x.1 ≠ k := by simpa using hne
      show Lib.compareBytes k.1 x.1.1 < 0
      have hk : ¬ Lib.compareBytes x.1.1 k.1 < 0 := by
        intro hlt
        rcases List.mem_cons.1 hx with rfl | hx
        · exact hge hlt
        · exact hge (cb_trans (h1 x hx) hlt)
      exact cb_ge_lt hk fun e => hne (Subtype.ext e.symm)
theorem setR_sorted {R : Rw} (h : SortedR R) (k d : Nm) : SortedR (setR R k d) := by
  unfold setR
  split
  · exact List.Pairwise.filter _ h
  · exact insR_sorted h
theorem look_cons (r : Nm × Nm) (R : Rw) (x : List UInt8) : look (r :: R) x = if r.1.1 = x then some r.2.1 else look R x := by
  unfold look
  rw [List.find?_cons]
  by_cases e : r.1.1 = x
  · simp [e]
  · simp [e]
theorem look_nil (x : List UInt8) : look [] x = none := rfl
theorem look_drop (k : Nm) (x : List UInt8) : ∀ R : Rw, look (R.filter fun p => decide (p.1 ≠ k)) x = if x = k.1 then none else look R x
  | [] => by simp [look_nil]
  | r :: R => by
    rw [List.filter_cons]
    by_cases e : r.1 = k
    · rw [if_neg (by simpa using e), look_drop k x R, look_cons, e]
      by_cases e2 : x = k.1
      · rw [if_pos e2, if_pos e2]
      · rw [if_neg e2, if_neg e2, if_neg fun q => e2 q.symm]
    · rw [if_pos (by simpa using e), look_cons, look_drop k x R, look_cons]
      have e1 : r.1.1 ≠ k.1 := fun q => e (Subtype.ext q)
      by_cases e2 : x = k.1
      · rw [if_pos e2, if_pos e2, if_neg (by rw [e2]; exact e1)]
      · rw [if_neg e2, if_neg e2]
theorem look_ins (k d : Nm) (x : List UInt8) : ∀ R : Rw, look (insR k d R) x = if x = k.1 then some d.1 else look R x
  | [] => by
    show look [(k, d)] x = _
    rw [look_cons]
    by_cases e : x = k.1
    · rw [if_pos e, if_pos e.symm]
    · rw [if_neg e, if_neg fun q => e q.symm]
  | r :: R => by
    unfold insR
    split
    · rename_i hlt
      rw [look_cons, look_ins k d x R, look_cons]
      have e1 : r.1.1 ≠ k.1 := fun q => by rw [q] at hlt; exact cb_irrefl _ hlt
      by_cases e2 : x = k.1
      · rw [if_pos e2, if_pos e2, if_neg (by rw [e2]; exact e1)]
      · rw [if_neg e2, if_neg e2]
    · rw [look_cons, look_drop]
      by_cases e2 : x = k.1
      · rw [if_pos e2.symm, if_pos e2]
      · rw [if_neg (fun q => e2 q.symm), if_neg e2, if_neg e2]
theorem look_set (R : Rw) (k d : Nm) : look (setR R k d) = upd (look R) k.1 (if d.1 = Z32 then none else some d.1) := by
  funext x
  unfold setR upd
  split
  · rw [look_drop]
  · rw [look_ins]
theorem look_mem {R : Rw} (h : SortedR R) {k d : Nm} (hm : (k, d) ∈ R) : look R k.1 = some d.1 := by
  induction R with
  | nil => cases hm
  | cons r R ih =>
    obtain ⟨h1, h2⟩ := List.pairwise_cons.1 h
    rw [look_cons]
    rcases List.mem_cons.1 hm with e | hm
    · rw [← e, if_pos rfl]
    · rw [if_neg fun q => ?_, ih h2 hm]
      have := h1 _ hm
      rw [q] at this
      exact cb_irrefl _ this
theorem look_some {R : Rw} {x d : List UInt8} (h : look R x = some d) : ∃ p ∈ R, p.1.1 = x ∧ p.2.1 = d := by
  unfold look at h
  obtain ⟨p, hp, hd⟩ := Option.map_eq_some_iff.1 h
  exact ⟨p, List.mem_of_find?_eq_some hp, by simpa using List.find?_some hp, hd⟩
theorem sorted_nodup {R : Rw} (h : SortedR R) : (R.map fun p => p.1).Nodup := by
  unfold List.Nodup
  rw [List.pairwise_map]
  exact h.imp fun {p q} hlt e => by rw [e] at hlt; exact cb_irrefl _ hlt
/-- The names of a leaf, in order, are those of the rows. -/
theorem leafOf_rows {R : Rw} (h : SortedR R) (a : Nat) : LeafOf (look R) (a : Int) ((inLeaf R a).map fun p => p.1) := by
  have hs : SortedR (inLeaf R a) := List.Pairwise.filter _ h
  refine ⟨sorted_nodup hs, fun x => ⟨fun hx => ?_, fun hx => ?_⟩, ?_⟩
  · obtain ⟨p, hp, rfl⟩ := List.mem_map.1 hx
    obtain ⟨hp1, hp2⟩ := List.mem_filter.1 hp
    rw [look_mem h hp1]
    exact ⟨by simp, by have : leafOf p.1 = a := by simpa using hp2
                       omega⟩
  · obtain ⟨h1, h2⟩ := hx
    cases hl : look R x.1 with
    | none => exact absurd hl h1
    | some d =>
      obtain ⟨p, hp, e1, _⟩ := look_some hl
      have e : p.1 = x := Subtype.ext e1
      refine List.mem_map.2 ⟨p, List.mem_filter.2 ⟨hp, ?_⟩, e⟩
      rw [e]
      simpa using (by omega : leafOf x = a)
  · rw [List.pairwise_map]
    exact hs.imp fun {p q} hlt hgt => by
      have := cb_trans hlt hgt
      exact cb_irrefl _ this
theorem leafOf_uniq {M : List UInt8 → Option (List UInt8)} {a : Int} {L L' : List Nm} (h : LeafOf M a L) (h' : LeafOf M a L') : L = L' := by
  have hp : L.Perm L' := (List.perm_ext_iff_of_nodup h.1 h'.1).2 fun x => (h.2.1 x).trans (h'.2.1 x).symm
  refine List.Perm.eq_of_pairwise (le := fun p q => ¬ Lib.compareBytes q.1 p.1 < 0) ?_ h.2.2 h'.2.2 hp
  intro p q _ _ h1 h2
  by_cases e : p = q
  · exact e
  · exact absurd (cb_ge_lt h1 fun q => e (Subtype.ext q)) h2
theorem joinM_rows {R : Rw} (h : SortedR R) (a : Nat) : joinM (look R) ((inLeaf R a).map fun p => p.1) = joinR (inLeaf R a) := by
  unfold joinM joinR
  have : ∀ S : Rw, (∀ p ∈ S, p ∈ R) → ((S.map fun p => p.1).flatMap fun x => x.1 ++ (look R x.1).getD Z32) = S.flatMap fun p => p.1.1 ++ p.2.1 := by
    intro S
    induction S with
    | nil => intro _; rfl
    | cons p S ih =>
      intro hS
      rw [List.map_cons, List.flatMap_cons, List.flatMap_cons, ih fun q hq => hS q (List.mem_cons_of_mem _ hq), look_mem h (hS p (List.mem_cons_self ..))]
      rfl
  exact this _ fun p hp => (List.mem_filter.1 hp).1
theorem leafL_rows {R : Rw} (h : SortedR R) {a : Nat} {L : List Nm} (hL : LeafOf (look R) (a : Int) L) : leafL (look R) L = leafR R a := by
  rw [leafOf_uniq hL (leafOf_rows h a)]
  unfold leafL leafR
  rw [List.length_map, joinM_rows h]
theorem inLeaf_drop (k : Nm) {c : Nat} (hc : leafOf k ≠ c) (R : Rw) : inLeaf (R.filter fun p => decide (p.1 ≠ k)) c = inLeaf R c := by
  unfold inLeaf
  rw [List.filter_filter]
  refine List.filter_congr fun p _ => ?_
  by_cases e : leafOf p.1 = c
  · have : p.1 ≠ k := fun q => hc (by rw [← q]; exact e)
    simp [e, this]
  · simp [e]
theorem inLeaf_ins (k d : Nm) {c : Nat} (hc : leafOf k ≠ c) : ∀ R : Rw, inLeaf (insR k d R) c = inLeaf R c
  | [] => by
    show inLeaf [(k, d)] c = inLeaf [] c
    unfold inLeaf
    rw [List.filter_cons, if_neg (by simpa using hc)]
  | r :: R => by
    unfold insR
    split
    · have ih := inLeaf_ins k d hc R
      unfold inLeaf at ih ⊢
      rw [List.filter_cons, List.filter_cons, ih]
    · have ih := inLeaf_drop k hc (r :: R)
      unfold inLeaf at ih ⊢
      rw [List.filter_cons, if_neg (by simpa using hc), ih]
/-- A name that turns leaves the other leaves as they are. -/
theorem inLeaf_set (R : Rw) (k d : Nm) {c : Nat} (hc : leafOf k ≠ c) : inLeaf (setR R k d) c = inLeaf R c := by
  unfold setR
  split
  · exact inLeaf_drop k hc R
  · exact inLeaf_ins k d hc R
theorem aboveL_congr {D E : Nat → List UInt8} (h : ∀ i, i < 4 → D i = E i) : aboveL D = aboveL E := by
  have h1 : anyD D 4 = anyD E 4 := by
    unfold anyD
    have : ∀ l : List Nat, (∀ i ∈ l, i < 4) → (l.any fun j => D j != Z32) = l.any fun j => E j != Z32 := by
      intro l
      induction l with
      | nil => intro _; rfl
      | cons x l ih => intro hl; rw [List.any_cons, List.any_cons, ih fun i hi => hl i (List.mem_cons_of_mem _ hi), h x (hl x (List.mem_cons_self ..))]
    exact this _ fun i hi => by simpa using hi
  have h2 : joinD D 4 = joinD E 4 := by
    unfold joinD
    have : ∀ l : List Nat, (∀ i ∈ l, i < 4) → l.flatMap D = l.flatMap E := by
      intro l
      induction l with
      | nil => intro _; rfl
      | cons x l ih => intro hl; rw [List.flatMap_cons, List.flatMap_cons, ih fun i hi => hl i (List.mem_cons_of_mem _ hi), h x (hl x (List.mem_cons_self ..))]
    exact this _ fun i hi => by simpa using hi
  unfold aboveL
  rw [h1, h2]
theorem nodeR_congr {R S : Rw} : ∀ (h a : Nat), (∀ c, a * 4 ^ h ≤ c → c < (a + 1) * 4 ^ h → leafR R c = leafR S c) → nodeR R h a = nodeR S h a
  | 0, a, hc => hc a (by simp) (by simp)
  | h + 1, a, hc => by
    refine aboveL_congr fun i hi => nodeR_congr h _ fun c h1 h2 => hc c ?_ ?_
    · refine Nat.le_trans ?_ h1
      rw [Nat.pow_succ, ← Nat.mul_assoc, Nat.mul_right_comm]
      exact Nat.mul_le_mul_right _ (by omega)
    · refine Nat.lt_of_lt_of_le h2 ?_
      rw [Nat.pow_succ, ← Nat.mul_assoc, Nat.mul_right_comm]
      exact Nat.mul_le_mul_right _ (by omega)
theorem leafR_set (R : Rw) (k d : Nm) {c : Nat} (hc : leafOf k ≠ c) : leafR (setR R k d) c = leafR R c := by
  unfold leafR
  rw [inLeaf_set R k d hc]
/-- A node off the path of a name. -/
theorem nodeR_off (R : Rw) (k d : Nm) {h a : Nat} (hc : leafOf k / 4 ^ h ≠ a) : nodeR (setR R k d) h a = nodeR R h a := by
  refine nodeR_congr h a fun c h1 h2 => leafR_set R k d fun e => hc ?_
  subst e
  have hp : 0 < 4 ^ h := Nat.pow_pos (by omega)
  rw [Nat.div_eq_iff hp]
  rw [Nat.add_mul] at h2
  omega
end Go.Proofs.YthpgldfjcancjaaDoor
