/- The ring, over lists: sorted points, gone round from a key on, name the replicas in the order of their nearest points. No condition. -/
import Derived.Test.YtmcnnjcbgbdeeaaDoorKitA
namespace Go.Proofs.YtmcnnjcbgbdeeaaDoor
/-- Each once, in the order of the first time. -/
def dedup (l : List Nat) : List Nat := l.foldl (fun out x => if x ∈ out then out else out ++ [x]) []
theorem dedup_snoc (l : List Nat) (x : Nat) : dedup (l ++ [x]) = if x ∈ dedup l then dedup l else dedup l ++ [x] := by
  unfold dedup
  rw [List.foldl_append]
  rfl
theorem snoc_ind {α : Type} {p : List α → Prop} (h0 : p []) (h1 : ∀ l x, p l → p (l ++ [x])) (l : List α) : p l := by
  have key : ∀ l : List α, p l.reverse := by
    intro l
    induction l with
    | nil => exact h0
    | cons x l ih => rw [List.reverse_cons]; exact h1 _ _ ih
  have := key l.reverse
  rwa [List.reverse_reverse] at this
theorem mem_dedup (l : List Nat) : ∀ x, x ∈ dedup l ↔ x ∈ l := by
  induction l using snoc_ind with
  | h0 => intro x; simp [dedup]
  | h1 l y ih =>
    intro x
    rw [dedup_snoc]
    split
    · rename_i h
      rw [ih, List.mem_append, List.mem_singleton]
      constructor
      · exact .inl
      · rintro (h2 | rfl)
        · exact h2
        · exact (ih _).1 h
    · rw [List.mem_append, List.mem_append, ih]
theorem dedup_first (l : List Nat) : (dedup l).Pairwise fun x y => l.idxOf x < l.idxOf y := by
  induction l using snoc_ind with
  | h0 => simp [dedup]
  | h1 l y ih =>
    have step : (dedup l).Pairwise fun x z => (l ++ [y]).idxOf x < (l ++ [y]).idxOf z := by
      refine ih.imp_of_mem ?_
      intro a b ha hb h
      rw [List.idxOf_append, List.idxOf_append, if_pos ((mem_dedup l a).1 ha), if_pos ((mem_dedup l b).1 hb)]
      exact h
    rw [dedup_snoc]
    split
    · exact step
    · rename_i h
      rw [List.pairwise_append]
      refine ⟨step, by simp, fun a ha b hb => ?_⟩
      rw [List.mem_singleton.1 hb]
      have hy : y ∉ l := fun q => h ((mem_dedup l y).2 q)
      have hal := (mem_dedup l a).1 ha
      rw [List.idxOf_append, List.idxOf_append, if_pos hal, if_neg hy]
      have := List.idxOf_lt_length_of_mem hal
      omega
theorem dedup_length (l : List Nat) : (dedup l).length ≤ l.length := by
  induction l using snoc_ind with
  | h0 => simp [dedup]
  | h1 l y ih =>
    rw [dedup_snoc, List.length_append, List.length_singleton]
    split
    · omega
    · rw [List.length_append, List.length_singleton]; omega
/-- Before: a nearer one, or as near with a lower number. -/
def before (near : Nat → Nat) (x y : Nat) : Prop := near x < near y ∨ near x = near y ∧ x < y
/-- R: points as (distance, replica), rising. -/
theorem dedup_near {R : List (Nat × Nat)} (hR : R.Pairwise fun p q => p.1 < q.1 ∨ p.1 = q.1 ∧ p.2 ≤ q.2) {near : Nat → Nat} (hn : ∀ p ∈ R, near p.2 ≤ p.1) (hm : ∀ x ∈ R.map (·.2), ∃ p ∈ R, p.2 = x ∧ p.1 = near x) :
    (dedup (R.map (·.2))).Pairwise (before near) := by
  have first : ∀ x ∈ R.map (·.2), ∃ p, R[(R.map (·.2)).idxOf x]? = some p ∧ p.2 = x ∧ p.1 = near x := by
    intro x hx
    have hlt := List.idxOf_lt_length_of_mem hx
    have hg := List.getElem_idxOf hlt
    have hlt' : (R.map (·.2)).idxOf x < R.length := by simpa using hlt
    have hx2 : (R[(R.map (·.2)).idxOf x]'hlt').2 = x := by
      have h := hg
      rwa [List.getElem_map] at h
    refine ⟨R[(R.map (·.2)).idxOf x]'hlt', List.getElem?_eq_getElem hlt', hx2, ?_⟩
    obtain ⟨p, hp, hp2, hp1⟩ := hm x hx
    obtain ⟨j, hj, hjp⟩ := List.getElem_of_mem hp
    have h1 := hn _ (List.getElem_mem hlt')
    rw [hx2] at h1
    rcases Nat.lt_or_ge j ((R.map (·.2)).idxOf x) with hji | hji
    · exfalso
      have h3 := List.not_of_lt_findIdx (p := (· == x)) (xs := R.map (·.2)) (i := j) (by rw [List.idxOf] at hji; exact hji)
      simp [hjp, hp2] at h3
    · rcases Nat.lt_or_eq_of_le hji with h | h
      · have h4 := List.pairwise_iff_getElem.1 hR _ j hlt' hj h
        rw [hjp] at h4
        omega
      · subst h
        rw [hjp]; exact hp1
  refine (dedup_first _).imp_of_mem ?_
  intro x y hx hy h
  obtain ⟨p, hp, hp2, hp1⟩ := first x ((mem_dedup _ x).1 hx)
  obtain ⟨q, hq, hq2, hq1⟩ := first y ((mem_dedup _ y).1 hy)
  obtain ⟨l1, e1⟩ := List.getElem?_eq_some_iff.1 hp
  obtain ⟨l2, e2⟩ := List.getElem?_eq_some_iff.1 hq
  have h5 := List.pairwise_iff_getElem.1 hR _ _ l1 l2 h
  rw [e1, e2, hp1, hq1, hp2, hq2] at h5
  rcases h5 with h5 | ⟨h5, h6⟩
  · exact .inl h5
  · refine .inr ⟨h5, ?_⟩
    rcases Nat.lt_or_eq_of_le h6 with h7 | h7
    · exact h7
    · subst h7; omega
theorem before_asymm {near : Nat → Nat} {x y : Nat} (h : before near x y) (k : before near y x) : False := by
  unfold before at h k
  omega
/-- Two rows that rise, of the same numbers, are one. -/
theorem rising_eq {near : Nat → Nat} : ∀ {a b : List Nat}, a.Pairwise (before near) → b.Pairwise (before near) → (∀ x, x ∈ a ↔ x ∈ b) → a = b
  | [], [], _, _, _ => rfl
  | [], y :: b, _, _, h => by have := (h y).2 (by simp); simp at this
  | x :: a, [], _, _, h => by have := (h x).1 (by simp); simp at this
  | x :: a, y :: b, ha, hb, h => by
    rw [List.pairwise_cons] at ha hb
    have hxy : x = y := by
      have h1 : x ∈ y :: b := (h x).1 (by simp)
      have h2 : y ∈ x :: a := (h y).2 (by simp)
      rcases List.mem_cons.1 h1 with h1 | h1
      · exact h1
      rcases List.mem_cons.1 h2 with h2 | h2
      · exact h2.symm
      exact (before_asymm (ha.1 y h2) (hb.1 x h1)).elim
    subst hxy
    have key : ∀ z, z ∈ a ↔ z ∈ b := by
      intro z
      constructor
      · intro hz
        rcases List.mem_cons.1 ((h z).1 (List.mem_cons_of_mem _ hz)) with h1 | h1
        · subst h1; exact (before_asymm (ha.1 z hz) (ha.1 z hz)).elim
        · exact h1
      · intro hz
        rcases List.mem_cons.1 ((h z).2 (List.mem_cons_of_mem _ hz)) with h1 | h1
        · subst h1; exact (before_asymm (hb.1 z hz) (hb.1 z hz)).elim
        · exact h1
    rw [rising_eq ha.2 hb.2 key]
/-- One more, put in where it belongs among those with lower numbers. -/
def putIn (near : Nat → Nat) (l : List Nat) (r : Nat) : List Nat := l.filter (fun x => near x ≤ near r) ++ r :: l.filter (fun x => ¬ near x ≤ near r)
theorem mem_putIn (near : Nat → Nat) (l : List Nat) (r x : Nat) : x ∈ putIn near l r ↔ x = r ∨ x ∈ l := by
  unfold putIn
  simp only [List.mem_append, List.mem_filter, List.mem_cons, decide_eq_true_eq]
  constructor
  · rintro (h | h | h)
    · exact .inr h.1
    · exact .inl h
    · exact .inr h.1
  · rintro (h | h)
    · exact .inr (.inl h)
    · by_cases hn : near x ≤ near r
      · exact .inl ⟨h, hn⟩
      · exact .inr (.inr ⟨h, hn⟩)
theorem putIn_rises {near : Nat → Nat} {l : List Nat} {r : Nat} (h : l.Pairwise (before near)) (hr : ∀ x ∈ l, x < r) : (putIn near l r).Pairwise (before near) := by
  unfold putIn
  rw [List.pairwise_append, List.pairwise_cons]
  refine ⟨h.filter _, ⟨fun x hx => ?_, h.filter _⟩, fun x hx y hy => ?_⟩
  · have := (List.mem_filter.1 hx).2
    simp only [decide_eq_true_eq] at this
    exact .inl (by omega)
  · have h1 := (List.mem_filter.1 hx)
    simp only [decide_eq_true_eq] at h1
    have h2 := hr x h1.1
    rcases List.mem_cons.1 hy with rfl | hy
    · unfold before; omega
    · have h3 := (List.mem_filter.1 hy).2
      simp only [decide_eq_true_eq] at h3
      exact .inl (by omega)
/-- What the document answers: replicas by their nearest points. -/
def nearL (near : Nat → Nat) (n : Nat) : List Nat := (List.range n).foldl (putIn near) []
theorem nearL_succ (near : Nat → Nat) (n : Nat) : nearL near (n + 1) = putIn near (nearL near n) n := by
  unfold nearL
  rw [List.range_succ, List.foldl_append]
  rfl
theorem mem_nearL (near : Nat → Nat) (n x : Nat) : x ∈ nearL near n ↔ x < n := by
  induction n with
  | zero => simp [nearL]
  | succ n ih => rw [nearL_succ, mem_putIn, ih]; omega
theorem nearL_rises (near : Nat → Nat) (n : Nat) : (nearL near n).Pairwise (before near) := by
  induction n with
  | zero => simp [nearL]
  | succ n ih =>
    rw [nearL_succ]
    exact putIn_rises ih fun x hx => (mem_nearL near n x).1 hx
/-- The walk is the document's. -/
theorem walk_near {R : List (Nat × Nat)} (hR : R.Pairwise fun p q => p.1 < q.1 ∨ p.1 = q.1 ∧ p.2 ≤ q.2) {near : Nat → Nat} {n : Nat} (hn : ∀ p ∈ R, near p.2 ≤ p.1) (hm : ∀ x, x < n → ∃ p ∈ R, p.2 = x ∧ p.1 = near x) (hl : ∀ p ∈ R, p.2 < n) :
    dedup (R.map (·.2)) = nearL near n := by
  refine rising_eq (dedup_near hR hn fun x hx => ?_) (nearL_rises near n) fun x => ?_
  · obtain ⟨p, hp, rfl⟩ := List.mem_map.1 hx
    exact hm _ (hl p hp)
  · rw [mem_dedup, mem_nearL, List.mem_map]
    constructor
    · rintro ⟨p, hp, rfl⟩
      exact hl p hp
    · intro hx
      obtain ⟨p, hp, h1, _⟩ := hm x hx
      exact ⟨p, hp, h1⟩
/-- How far behind a key a place lies, going round. -/
def gap (key at_ : Nat) : Nat := (at_ + 18446744073709551616 - key) % 18446744073709551616
theorem gap_ge {key a : Nat} (h : key ≤ a) (ha : a < 18446744073709551616) : gap key a = a - key := by
  unfold gap
  rw [show a + 18446744073709551616 - key = (a - key) + 18446744073709551616 by omega, Nat.add_mod_right, Nat.mod_eq_of_lt (by omega)]
theorem gap_lt {key a : Nat} (h : a < key) : gap key a = a + 18446744073709551616 - key := by
  unfold gap
  rw [Nat.mod_eq_of_lt (by omega)]
theorem rotate_rises {P : List (Nat × Nat)} (hP : P.Pairwise fun p q => p.1 < q.1 ∨ p.1 = q.1 ∧ p.2 ≤ q.2) {key : Nat} (hk : key < 18446744073709551616) (hat : ∀ p ∈ P, p.1 < 18446744073709551616) {f : Nat} (h1 : ∀ p ∈ P.take f, p.1 < key) (h2 : ∀ p ∈ P.drop f, key ≤ p.1) :
    ((P.drop f ++ P.take f).map fun p => (gap key p.1, p.2)).Pairwise fun p q => p.1 < q.1 ∨ p.1 = q.1 ∧ p.2 ≤ q.2 := by
  rw [List.pairwise_map, List.pairwise_append]
  have hs : (P.take f ++ P.drop f).Pairwise fun p q => p.1 < q.1 ∨ p.1 = q.1 ∧ p.2 ≤ q.2 := by rw [List.take_append_drop]; exact hP
  rw [List.pairwise_append] at hs
  refine ⟨hs.2.1.imp_of_mem fun {p q} hp hq h => ?_, hs.1.imp_of_mem fun {p q} hp hq h => ?_, fun p hp q hq => ?_⟩
  · have a1 := h2 p hp
    have a2 := h2 q hq
    simp only
    rw [gap_ge a1 (hat p (List.mem_of_mem_drop hp)), gap_ge a2 (hat q (List.mem_of_mem_drop hq))]
    omega
  · have a1 := h1 p hp
    have a2 := h1 q hq
    simp only
    rw [gap_lt a1, gap_lt a2]
    omega
  · have a1 := h2 p hp
    have a2 := h1 q hq
    have a3 := hat p (List.mem_of_mem_drop hp)
    simp only
    rw [gap_ge a1 a3, gap_lt a2]
    omega
/-- The nearest of so many points. -/
def nearOf (at_ : Nat → Nat → Nat) (key points r : Nat) : Nat := (List.range points).foldl (fun b p => min b (gap key (at_ r p))) 18446744073709551615
theorem nearOf_succ (at_ : Nat → Nat → Nat) (key points r : Nat) : nearOf at_ key (points + 1) r = min (nearOf at_ key points r) (gap key (at_ r points)) := by
  unfold nearOf
  rw [List.range_succ, List.foldl_append]
  rfl
theorem nearOf_le (at_ : Nat → Nat → Nat) (key points r : Nat) : ∀ p, p < points → nearOf at_ key points r ≤ gap key (at_ r p) := by
  induction points with
  | zero => intro p h; omega
  | succ n ih =>
    intro p h
    rw [nearOf_succ]
    rcases Nat.lt_or_eq_of_le (Nat.le_of_lt_succ h) with h1 | h1
    · have := ih p h1; omega
    · subst h1; omega
theorem nearOf_is (at_ : Nat → Nat → Nat) (key points r : Nat) : points ≠ 0 → ∃ p, p < points ∧ nearOf at_ key points r = gap key (at_ r p) := by
  induction points with
  | zero => intro h; exact absurd rfl h
  | succ n ih =>
    intro _
    rw [nearOf_succ]
    have hg : gap key (at_ r n) < 18446744073709551616 := Nat.mod_lt _ (by omega)
    by_cases h0 : n = 0
    · subst h0
      refine ⟨0, by omega, ?_⟩
      show min 18446744073709551615 _ = _
      omega
    · obtain ⟨p, hp, he⟩ := ih h0
      by_cases hle : nearOf at_ key n r ≤ gap key (at_ r n)
      · exact ⟨p, by omega, by rw [← he]; omega⟩
      · exact ⟨n, by omega, by omega⟩
/-- The document's loop puts one in where it belongs. -/
theorem putIn_at {near : Nat → Nat} {l : List Nat} {r j : Nat} (h1 : ∀ x ∈ l.drop j, near r < near x) (h2 : ∀ x ∈ l.take j, near x ≤ near r) : putIn near l r = l.take j ++ r :: l.drop j := by
  have e : l = l.take j ++ l.drop j := (List.take_append_drop j l).symm
  unfold putIn
  have f1 : l.filter (fun x => decide (near x ≤ near r)) = l.take j := by
    conv => lhs; rw [e]
    rw [List.filter_append, List.filter_eq_self.2 (fun x hx => by simpa using h2 x hx), List.filter_eq_nil_iff.2 (fun x hx => by have := h1 x hx; simp; omega), List.append_nil]
  have f2 : l.filter (fun x => decide (¬ near x ≤ near r)) = l.drop j := by
    conv => lhs; rw [e]
    rw [List.filter_append, List.filter_eq_nil_iff.2 (fun x hx => by have := h2 x hx; simp; omega), List.filter_eq_self.2 (fun x hx => by have := h1 x hx; simp; omega), List.nil_append]
  rw [f1, f2]
theorem nearL_less (near : Nat → Nat) (n : Nat) : (nearL near (n + 1)).filter (fun x => decide (x ≠ n)) = nearL near n := by
  refine rising_eq ((nearL_rises near (n + 1)).filter _) (nearL_rises near n) fun x => ?_
  rw [List.mem_filter, mem_nearL, mem_nearL]
  simp only [ne_eq, decide_not, Bool.not_eq_true', decide_eq_false_iff_not]
  omega
theorem before_nodup {near : Nat → Nat} {l : List Nat} (h : l.Pairwise (before near)) : l.Nodup :=
  h.imp fun {a b} h e => by subst e; exact before_asymm h h
theorem nearL_nodup (near : Nat → Nat) (n : Nat) : (nearL near n).Nodup := before_nodup (nearL_rises near n)
theorem nearL_length (near : Nat → Nat) (n : Nat) : (nearL near n).length = n := by
  induction n with
  | zero => simp [nearL]
  | succ n ih =>
    have h := putIn_at (near := near) (l := nearL near n) (r := n) (j := 0)
    rw [nearL_succ]
    unfold putIn
    rw [List.length_append, List.length_cons]
    have key : ∀ l : List Nat, (l.filter fun x => decide (near x ≤ near n)).length + (l.filter fun x => decide (¬ near x ≤ near n)).length = l.length := by
      intro l
      induction l with
      | nil => rfl
      | cons x l ihl =>
        by_cases hx : near x ≤ near n
        · simp only [List.filter_cons, hx, decide_true, if_true, not_true, decide_false, List.length_cons]
          simp only [Bool.false_eq_true, if_false]
          omega
        · simp only [List.filter_cons, hx, decide_false, not_false_iff, decide_true, if_true, List.length_cons]
          simp only [Bool.false_eq_true, if_false]
          omega
    have := key (nearL near n)
    omega
/-- Who stands in for whom: the first ones, and those that may stand in. -/
def standG (up : Nat → Bool) : List Nat → List Nat → List (Nat × Nat)
  | [], _ => []
  | x :: r, o => if up x then (x, x) :: standG up r o else match o with
    | [] => standG up r []
    | y :: o' => (y, x) :: standG up r o'
theorem standG_mem {up : Nat → Bool} : ∀ {a o : List Nat}, (∀ y ∈ o, up y = true) → ∀ p ∈ standG up a o, up p.1 = true ∧ (p.1 ∈ a ∨ p.1 ∈ o)
  | [], _, _, p, hp => by simp [standG] at hp
  | x :: r, o, ho, p, hp => by
    unfold standG at hp
    split at hp
    · rename_i hx
      rcases List.mem_cons.1 hp with rfl | hp
      · exact ⟨hx, .inl (by simp)⟩
      · obtain ⟨h1, h2⟩ := standG_mem ho p hp
        exact ⟨h1, h2.imp (fun h => by simp [h]) id⟩
    · split at hp
      · obtain ⟨h1, h2⟩ := standG_mem (o := []) (fun y h => by simp at h) p hp
        exact ⟨h1, h2.imp (fun h => by simp [h]) (fun h => by simp at h)⟩
      · rename_i y o' 
        rcases List.mem_cons.1 hp with rfl | hp
        · exact ⟨ho y (by simp), .inr (by simp)⟩
        · obtain ⟨h1, h2⟩ := standG_mem (fun z hz => ho z (by simp [hz])) p hp
          exact ⟨h1, h2.imp (fun h => by simp [h]) (fun h => by simp [h])⟩
theorem standG_nodup {up : Nat → Bool} : ∀ {a o : List Nat}, (∀ y ∈ o, up y = true) → (a ++ o).Nodup → ((standG up a o).map (·.1)).Nodup
  | [], _, _, _ => by simp [standG]
  | x :: r, o, ho, hn => by
    rw [List.cons_append, List.nodup_cons] at hn
    unfold standG
    split
    · rw [List.map_cons, List.nodup_cons]
      refine ⟨fun h => ?_, standG_nodup ho hn.2⟩
      obtain ⟨p, hp, e⟩ := List.mem_map.1 h
      have := (standG_mem ho p hp).2
      simp only at e
      rw [e] at this
      exact hn.1 (List.mem_append.2 this)
    · split
      · exact standG_nodup (o := []) (fun y h => by simp at h) (by simpa using hn.2)
      · rename_i y o'
        have hn2 := hn.2
        have hsub : (r ++ o').Nodup := hn2.sublist (List.Sublist.append_left (List.sublist_cons_self y o') r)
        rw [List.map_cons, List.nodup_cons]
        refine ⟨fun h => ?_, standG_nodup (fun z hz => ho z (by simp [hz])) hsub⟩
        obtain ⟨p, hp, e⟩ := List.mem_map.1 h
        have h3 := (standG_mem (fun z hz => ho z (by simp [hz])) p hp).2
        simp only at e
        rw [e] at h3
        rw [List.nodup_append] at hn2
        rcases h3 with h3 | h3
        · exact hn2.2.2 y h3 y (by simp) rfl
        · have := hn2.2.1
          rw [List.nodup_cons] at this
          exact this.1 h3
end Go.Proofs.YtmcnnjcbgbdeeaaDoor
