/- The plain law of Go's stable sort beyond one block: swapRange, rotate, symMerge. No condition. -/
import Derived.Sort.LotA
namespace Go.Proofs.YteckblffpidigaaGreatDoor
open Go.Sort
variable {α : Type} [Inhabited α]
/-- swapRange. -/
def swapR (d : Array α) (a b : Nat) : Nat → Array α
  | 0 => d
  | n + 1 => swp (swapR d a b n) (a + n) (b + n)
theorem swapR_size (d : Array α) (a b n : Nat) : (swapR d a b n).size = d.size := by
  induction n with
  | zero => rfl
  | succ n ih => rw [swapR, swp_size, ih]
theorem swapR_get (d : Array α) (a b : Nat) : ∀ (n : Nat), a + n ≤ b → b + n ≤ d.size → ∀ x, (swapR d a b n)[x]! = if a ≤ x ∧ x < a + n then d[x - a + b]! else if b ≤ x ∧ x < b + n then d[x - b + a]! else d[x]! := by
  intro n
  induction n with
  | zero =>
    intro _ _ x
    rw [if_neg (by omega), if_neg (by omega)]
    rfl
  | succ n ih =>
    intro h1 h2 x
    rw [swapR, swp_get _ (by rw [swapR_size]; omega) (by rw [swapR_size]; omega), ih (by omega) (by omega), ih (by omega) (by omega), ih (by omega) (by omega)]
    by_cases hb : x = b + n
    · subst hb
      rw [if_pos rfl, if_neg (by omega), if_neg (by omega), if_neg (by omega), if_pos (by omega)]
      congr 1
      omega
    · rw [if_neg hb]
      by_cases ha : x = a + n
      · subst ha
        rw [if_pos rfl, if_neg (by omega), if_neg (by omega), if_pos (by omega)]
        congr 1
        omega
      · rw [if_neg ha]
        by_cases c1 : a ≤ x ∧ x < a + n
        · rw [if_pos c1, if_pos (by omega)]
        · rw [if_neg c1, if_neg (show ¬ (a ≤ x ∧ x < a + (n + 1)) by omega)]
          by_cases c2 : b ≤ x ∧ x < b + n
          · rw [if_pos c2, if_pos (by omega)]
          · rw [if_neg c2, if_neg (by omega)]
theorem swapR_perm (d : Array α) (a b lo hi : Nat) : ∀ (n : Nat), lo ≤ a → a + n ≤ b → b + n ≤ hi → hi ≤ d.size → PermIn lo hi d (swapR d a b n) := by
  intro n
  induction n with
  | zero => intro _ _ _ _; exact permIn_refl d lo hi
  | succ n ih =>
    intro h0 h1 h2 h3
    exact permIn_trans _ _ _ lo hi (ih h0 (by omega) (by omega) h3) (swp_permIn _ lo hi (a + n) (b + n) (by omega) (by omega) (by omega) (by omega) (by rw [swapR_size]; exact h3))
/-- rotate: [m, b) stands ahead of [a, m). -/
structure Rot (a m b : Nat) (d F : Array α) : Prop where
  perm : PermIn a b d F
  get : ∀ x, F[x]! = if a ≤ x ∧ x < a + (b - m) then d[x + (m - a)]! else if a + (b - m) ≤ x ∧ x < b then d[x - (b - m)]! else d[x]!
theorem Rot.last {m i : Nat} {d : Array α} (hi : i ≤ m) (hb : m + i ≤ d.size) : Rot (m - i) m (m + i) d (swapR d (m - i) m i) := by
  refine ⟨swapR_perm d (m - i) m (m - i) (m + i) i (Nat.le_refl _) (by omega) (Nat.le_refl _) hb, fun x => ?_⟩
  rw [swapR_get d (m - i) m i (by omega) hb]
  have e : m + i - m = i := by omega
  rw [e]
  by_cases c1 : m - i ≤ x ∧ x < m - i + i
  · rw [if_pos c1, if_pos c1]
    congr 1
    omega
  · rw [if_neg c1, if_neg c1]
    by_cases c2 : m ≤ x ∧ x < m + i
    · rw [if_pos c2, if_pos (by omega)]
      congr 1
      omega
    · rw [if_neg c2, if_neg (by omega)]
theorem Rot.left {m i j : Nat} {d F : Array α} (hi : i ≤ m) (hj : 0 < j) (hji : j < i) (hb : m + j ≤ d.size) (h : Rot (m - (i - j)) m (m + j) (swapR d (m - i) m j) F) : Rot (m - i) m (m + j) d F := by
  have hs := swapR_size d (m - i) m j
  refine ⟨permIn_trans _ _ _ _ _ (swapR_perm d (m - i) m (m - i) (m + j) j (Nat.le_refl _) (by omega) (Nat.le_refl _) hb) (permIn_mono _ _ (m - (i - j)) (m + j) (m - i) (m + j) (by omega) (Nat.le_refl _) (by omega) h.perm), fun x => ?_⟩
  have e1 : m + j - m = j := by omega
  have hg := h.get x
  rw [e1] at hg
  rw [hg, e1, swapR_get d (m - i) m j (by omega) hb, swapR_get d (m - i) m j (by omega) hb, swapR_get d (m - i) m j (by omega) hb]
  by_cases c1 : x < m - i
  · rw [if_neg (by omega), if_neg (by omega), if_neg (by omega), if_neg (by omega), if_neg (by omega), if_neg (by omega)]
  by_cases c2 : x < m - i + j
  · rw [if_neg (by omega), if_neg (by omega), if_pos (by omega), if_pos (by omega)]
    congr 1
    omega
  by_cases c3 : x < m - (i - j) + j
  · rw [if_pos (by omega)]
    by_cases c4 : x + (m - (m - (i - j))) < m
    · exfalso
      omega
    · rw [if_neg (by omega), if_pos (by omega), if_neg (by omega), if_pos (by omega)]
      congr 1
      omega
  by_cases c5 : x < m + j
  · rw [if_neg (by omega), if_pos (by omega), if_neg (by omega), if_neg (by omega), if_neg (by omega), if_pos (by omega)]
  · rw [if_neg (by omega), if_neg (by omega), if_neg (by omega), if_neg (by omega), if_neg (by omega), if_neg (by omega)]
theorem Rot.right {m i j : Nat} {d F : Array α} (hi : i ≤ m) (hj : 0 < i) (hji : i < j) (hb : m + j ≤ d.size) (h : Rot (m - i) m (m + (j - i)) (swapR d (m - i) (m + j - i) i) F) : Rot (m - i) m (m + j) d F := by
  have hs := swapR_size d (m - i) (m + j - i) i
  refine ⟨permIn_trans _ _ _ _ _ (swapR_perm d (m - i) (m + j - i) (m - i) (m + j) i (Nat.le_refl _) (by omega) (by omega) hb) (permIn_mono _ _ (m - i) (m + (j - i)) (m - i) (m + j) (Nat.le_refl _) (by omega) (by omega) h.perm), fun x => ?_⟩
  have e1 : m + (j - i) - m = j - i := by omega
  have e2 : m + j - m = j := by omega
  have hg := h.get x
  rw [e1] at hg
  have G := swapR_get d (m - i) (m + j - i) i (by omega) (by omega)
  rw [hg, e2, G, G, G]
  by_cases c1 : x < m - i
  · rw [if_neg (by omega), if_neg (by omega), if_neg (by omega), if_neg (by omega), if_neg (by omega), if_neg (by omega)]
  by_cases c2 : x < m - i + (j - i)
  · rw [if_pos (by omega), if_neg (by omega)]
    by_cases c3 : m + j - i ≤ x + (m - (m - i)) ∧ x + (m - (m - i)) < m + j - i + i
    · exfalso
      omega
    · rw [if_neg c3, if_pos (by omega)]
  by_cases c4 : x < m + (j - i)
  · rw [if_neg (by omega), if_pos (by omega), if_pos (by omega), if_pos (by omega)]
    congr 1
    omega
  by_cases c5 : x < m + j
  · rw [if_neg (by omega), if_neg (by omega), if_neg (by omega), if_pos (by omega), if_neg (by omega), if_pos (by omega)]
    congr 1
    omega
  · rw [if_neg (by omega), if_neg (by omega), if_neg (by omega), if_neg (by omega), if_neg (by omega), if_neg (by omega)]
theorem Rot.same {a m b : Nat} (d : Array α) (h1 : a ≤ m) (h2 : m ≤ b) (h : a = m ∨ m = b) : Rot a m b d d := by
  refine ⟨permIn_refl _ _ _, fun x => ?_⟩
  rcases h with rfl | rfl
  · by_cases c1 : a ≤ x ∧ x < a + (b - a)
    · rw [if_pos c1, Nat.sub_self, Nat.add_zero]
    · rw [if_neg c1, if_neg (by omega)]
  · rw [if_neg (by omega)]
    by_cases c1 : a + (m - m) ≤ x ∧ x < m
    · rw [if_pos c1, Nat.sub_self, Nat.sub_zero]
    · rw [if_neg c1]
variable {lt : α → α → Bool}
theorem SWO.le_of (hS : SWO lt) {lo hi : Nat} {d : Array α} (h : SortedIn lt lo hi d) {p q : Nat} (hp : lo ≤ p) (hpq : p ≤ q) (hq : q < hi) : lt d[q]! d[p]! = false := by
  rcases Nat.lt_or_eq_of_le hpq with h1 | h1
  · exact h p q hp h1 hq
  · subst h1
    exact hS.irrefl _
/-- Where symMerge stands when it has found where to cut: s in the left part, e in the right one. -/
structure SymAt (lt : α → α → Bool) (a m b mid s e : Nat) (d : Array α) : Prop where
  sum : s + e = mid + m
  as : a ≤ s
  sm : s ≤ m
  me : m ≤ e
  eb : e ≤ b
  low : s = a ∨ e = b ∨ lt d[e]! d[s - 1]! = false
  high : s = m ∨ e = m ∨ lt d[e - 1]! d[s]! = true
theorem SymAt.halves {a m b mid s e : Nat} {d d1 : Array α} (hS : SWO lt) (h : SymAt lt a m b mid s e d) (hl : SortedIn lt a m d) (hr : SortedIn lt m b d) (hR : Rot s m e d d1) :
    SortedIn lt a s d1 ∧ SortedIn lt s mid d1 ∧ SortedIn lt mid e d1 ∧ SortedIn lt e b d1 ∧ (∀ p q, a ≤ p → p < mid → mid ≤ q → q < b → lt d1[q]! d1[p]! = false) := by
  obtain ⟨h1, h2, h3, h4, h5, h6, h7⟩ := h
  have g1 : ∀ x, x < s → d1[x]! = d[x]! := fun x hx => by rw [hR.get, if_neg (by omega), if_neg (by omega)]
  have g2 : ∀ x, s ≤ x → x < mid → d1[x]! = d[x + (m - s)]! := fun x hx hx2 => by rw [hR.get, if_pos (by omega)]
  have g3 : ∀ x, mid ≤ x → x < e → d1[x]! = d[x - (e - m)]! := fun x hx hx2 => by rw [hR.get, if_neg (by omega), if_pos (by omega)]
  have g4 : ∀ x, e ≤ x → d1[x]! = d[x]! := fun x hx => by rw [hR.get, if_neg (by omega), if_neg (by omega)]
  refine ⟨fun i j hi hij hj => ?_, fun i j hi hij hj => ?_, fun i j hi hij hj => ?_, fun i j hi hij hj => ?_, fun p q hp hpm hq hqb => ?_⟩
  · rw [g1 i (by omega), g1 j (by omega)]
    exact hl i j hi hij (by omega)
  · rw [g2 i (by omega) (by omega), g2 j (by omega) (by omega)]
    exact hr _ _ (by omega) (by omega) (by omega)
  · rw [g3 i (by omega) (by omega), g3 j (by omega) (by omega)]
    exact hl _ _ (by omega) (by omega) (by omega)
  · rw [g4 i (by omega), g4 j (by omega)]
    exact hr _ _ (by omega) (by omega) (by omega)
  · by_cases hps : p < s
    · rw [g1 p hps]
      by_cases hqe : q < e
      · rw [g3 q hq hqe]
        exact hl _ _ hp (by omega) (by omega)
      · rw [g4 q (by omega)]
        rcases h6 with h6 | h6 | h6
        · omega
        · omega
        · exact hS.ntrans _ _ _ (SWO.le_of hS hr (p := e) (q := q) (by omega) (by omega) hqb) (hS.ntrans _ _ _ h6 (SWO.le_of hS hl (p := p) (q := s - 1) hp (by omega) (by omega)))
    · rw [g2 p (by omega) hpm]
      by_cases hqe : q < e
      · rw [g3 q hq hqe]
        rcases h7 with h7 | h7 | h7
        · omega
        · omega
        · exact hS.ntrans _ _ _ (SWO.le_of hS hl (p := s) (q := q - (e - m)) (by omega) (by omega) (by omega)) (hS.ntrans _ _ _ (hS.asymmA h7) (SWO.le_of hS hr (p := p + (m - s)) (q := e - 1) (by omega) (by omega) (by omega)))
      · rw [g4 q (by omega)]
        exact hr _ _ (by omega) (by omega) (by omega)
theorem sym_join {a mid b : Nat} {d1 d2 d3 : Array α} (h1 : a ≤ mid) (h2 : mid ≤ b) (hb : b ≤ d1.size) (hc : ∀ p q, a ≤ p → p < mid → mid ≤ q → q < b → lt d1[q]! d1[p]! = false) (hp2 : PermIn a mid d1 d2) (hs2 : SortedIn lt a mid d2) (hp3 : PermIn mid b d2 d3) (hs3 : SortedIn lt mid b d3) :
    PermIn a b d1 d3 ∧ SortedIn lt a b d3 := by
  refine ⟨permIn_trans _ _ _ _ _ (permIn_mono _ _ a mid a b (Nat.le_refl _) h2 hb hp2) (permIn_mono _ _ mid b a b h1 (Nat.le_refl _) (by rw [hp2.1]; exact hb) hp3), fun i j hi hij hj => ?_⟩
  by_cases hjm : j < mid
  · rw [hp3.2.1 i (by omega), hp3.2.1 j (by omega)]
    exact hs2 i j hi hij hjm
  by_cases him : mid ≤ i
  · exact hs3 i j him hij hj
  have c1 : ∀ q, mid ≤ q → q < b → lt d2[q]! d2[i]! = false := fun q hq hqb => by
    rw [hp2.2.1 q (by omega)]
    exact permIn_all d1 d2 a mid (fun x => lt d1[q]! x = false) (by omega) hp2 (fun p hp hpm => hc p q hp hpm hq hqb) i hi (by omega)
  rw [hp3.2.1 i (by omega)]
  exact permIn_all d2 d3 mid b (fun y => lt y d2[i]! = false) (by rw [hp2.1]; exact hb) hp3 c1 j (by omega) hj
/-- What symMerge does. -/
def SymQ (lt : α → α → Bool) (a b : Nat) (d F : Array α) : Prop := PermIn a b d F ∧ SortedIn lt a b F
theorem SymQ.all {a mid b m s e : Nat} {d d1 d2 d3 : Array α} (hS : SWO lt) (h : SymAt lt a m b mid s e d) (hl : SortedIn lt a m d) (hr : SortedIn lt m b d) (hR : Rot s m e d d1) (h1 : a ≤ mid) (h2 : mid ≤ b) (hb : b ≤ d.size) (q2 : SymQ lt a mid d1 d2) (q3 : SymQ lt mid b d2 d3) : SymQ lt a b d d3 := by
  have hh := h.halves hS hl hr hR
  have hj := sym_join h1 h2 (by rw [hR.perm.1]; exact hb) hh.2.2.2.2 q2.1 q2.2 q3.1 q3.2
  exact ⟨permIn_trans _ _ _ _ _ (permIn_mono _ _ s e a b h.as h.eb hb hR.perm) hj.1, hj.2⟩
/-- One element moved up: from a to i - 1, all between one place down. -/
theorem sym_one {a i m b : Nat} {d F : Array α} (hS : SWO lt) (hm : m = a + 1) (hi : m ≤ i) (hib : i ≤ b) (hr : SortedIn lt m b d) (hlo : ∀ k, m ≤ k → k < i → lt d[k]! d[a]! = true) (hhi : ∀ k, i ≤ k → k < b → lt d[k]! d[a]! = false)
    (hg : ∀ x, F[x]! = if a ≤ x ∧ x + 1 < i then d[x + 1]! else if x + 1 = i then d[a]! else d[x]!) : SortedIn lt a b F := by
  intro p q hp hpq hq
  rw [hg, hg]
  by_cases c1 : p + 1 < i
  · rw [if_pos (show a ≤ p ∧ p + 1 < i by omega)]
    by_cases c2 : q + 1 < i
    · rw [if_pos (by omega)]
      exact hr _ _ (by omega) (by omega) (by omega)
    · rw [if_neg (by omega)]
      by_cases c3 : q + 1 = i
      · rw [if_pos c3]
        exact hS.asymmA (hlo (p + 1) (by omega) (by omega))
      · rw [if_neg c3]
        exact hr _ _ (by omega) (by omega) (by omega)
  · rw [if_neg (show ¬ (a ≤ p ∧ p + 1 < i) by omega), if_neg (show ¬ (a ≤ q ∧ q + 1 < i) by omega), if_neg (show ¬ q + 1 = i by omega)]
    by_cases c3 : p + 1 = i
    · rw [if_pos c3]
      exact hhi q (by omega) hq
    · rw [if_neg c3]
      exact hr _ _ (by omega) hpq hq
/-- One element moved down: from m to i. -/
theorem sym_other {a i m b : Nat} {d F : Array α} (hS : SWO lt) (hm : b = m + 1) (hi : a ≤ i) (him : i ≤ m) (hl : SortedIn lt a m d) (hlo : ∀ k, a ≤ k → k < i → lt d[m]! d[k]! = false) (hhi : ∀ k, i ≤ k → k < m → lt d[m]! d[k]! = true)
    (hg : ∀ x, F[x]! = if x = i then d[m]! else if i < x ∧ x ≤ m then d[x - 1]! else d[x]!) : SortedIn lt a b F := by
  intro p q hp hpq hq
  rw [hg, hg]
  by_cases c1 : p = i
  · rw [if_pos c1, if_neg (show ¬ q = i by omega), if_pos (show i < q ∧ q ≤ m by omega)]
    exact hS.asymmA (hhi (q - 1) (by omega) (by omega))
  · rw [if_neg c1]
    by_cases c2 : p < i
    · rw [if_neg (show ¬ (i < p ∧ p ≤ m) by omega)]
      by_cases c3 : q = i
      · rw [if_pos c3]
        exact hlo p hp c2
      · rw [if_neg c3]
        by_cases c4 : i < q ∧ q ≤ m
        · rw [if_pos c4]
          by_cases c5 : p = q - 1
          · omega
          · exact hl _ _ (by omega) (by omega) (by omega)
        · rw [if_neg c4]
          exact hl _ _ (by omega) (by omega) (by omega)
    · rw [if_pos (show i < p ∧ p ≤ m by omega), if_neg (show ¬ q = i by omega), if_pos (show i < q ∧ q ≤ m by omega)]
      exact hl _ _ (by omega) (by omega) (by omega)
theorem SymAt.midL {a m b mid s e : Nat} {d : Array α} (h : SymAt lt a m b mid s e d) : s ≤ mid ∧ mid ≤ e := by
  obtain ⟨h1, h2, h3, h4, h5, _, _⟩ := h
  omega
theorem symLeft_skip {a m b mid s e : Nat} {d d1 : Array α} (hS : SWO lt) (h : SymAt lt a m b mid s e d) (hl : SortedIn lt a m d) (hr : SortedIn lt m b d) (hR : Rot s m e d d1) (hn : ¬ (a < s ∧ s < mid)) : SymQ lt a mid d1 d1 := by
  have hh := h.halves hS hl hr hR
  have hm := h.midL
  have ha := h.as
  refine ⟨permIn_refl _ _ _, ?_⟩
  by_cases c : a = s
  · rw [c]; exact hh.2.1
  · have : s = mid := by omega
    rw [← this]; exact hh.1
theorem sorted_keep {a b lo hi : Nat} {d d' : Array α} (h : SortedIn lt lo hi d) (hp : PermIn a b d d') (ho : hi ≤ a ∨ b ≤ lo) : SortedIn lt lo hi d' := fun i j hi1 hij hj => by
  rw [hp.2.1 i (by omega), hp.2.1 j (by omega)]
  exact h i j hi1 hij hj
theorem symRight_skip {a m b mid s e : Nat} {d d1 d2 : Array α} (hS : SWO lt) (h : SymAt lt a m b mid s e d) (hl : SortedIn lt a m d) (hr : SortedIn lt m b d) (hR : Rot s m e d d1) (hp : PermIn a mid d1 d2) (hn : ¬ (mid < e ∧ e < b)) : SymQ lt mid b d2 d2 := by
  have hh := h.halves hS hl hr hR
  have hm := h.midL
  have hb := h.eb
  refine ⟨permIn_refl _ _ _, ?_⟩
  by_cases c : e = b
  · rw [← c]; exact sorted_keep hh.2.2.1 hp (.inr (Nat.le_refl _))
  · have : e = mid := by omega
    rw [← this]; exact sorted_keep hh.2.2.2.1 hp (.inr (by omega))
end Go.Proofs.YteckblffpidigaaGreatDoor
