/- Texts of one proof, laid as one: part 12. No condition. -/
import Derived.Sort.LotA
import Derived.Shelf.SlSortCmp.KitK
import Derived.Shelf.SlSortCmp.WholeK
import Derived.Sort.WalkB2
import Derived.Sort.WalkB12
import Derived.Deep.LoopGhost
import Derived.Test.YtjpphldojbfpfaaGreatDoorZf10
namespace Go.Proofs.YtjpphldojbfpfaaGreatDoor
open Go.Sort
variable {α : Type} [Inhabited α]
def swapR (d : Array α) (a b : Nat) : Nat → Array α
  | 0 => d
  | n + 1 => swp (swapR d a b n) (a + n) (b + n)
theorem swapR_size (d : Array α) (a b n : Nat) : (swapR d a b n).size = d.size := by
  induction n with
  | zero => rfl
  | succ n ih => rw [swapR, swp_size, ih]
theorem swapR_get (d : Array α) (a b : Nat) : ∀ (n : Nat), a + n ≤ b → b + n ≤ d.size → ∀ x, (swapR d a b n)[x]! = if a ≤ x ∧ x < a + n then d[x - a + b]! else if b ≤ x ∧ x < b + n then d[x - b + a]! else d[x]! := by
  intro n
  induction n with
  | zero =>
    intro _ _ x; rw [if_neg (by omega), if_neg (by omega)]; rfl
  | succ n ih =>
    intro h1 h2 x; rw [swapR, swp_get _ (by rw [swapR_size]; omega) (by rw [swapR_size]; omega), ih (by omega) (by omega), ih (by omega) (by omega), ih (by omega) (by omega)]
    by_cases hb : x = b + n
    · subst hb; rw [if_pos rfl, if_neg (by omega), if_neg (by omega), if_neg (by omega), if_pos (by omega)]; congr 1
      omega
    · rw [if_neg hb]
      by_cases ha : x = a + n
      · subst ha; rw [if_pos rfl, if_neg (by omega), if_neg (by omega), if_pos (by omega)]; congr 1
        omega
      · rw [if_neg ha]
        by_cases c1 : a ≤ x ∧ x < a + n
        · rw [if_pos c1, if_pos (by omega)]
        · rw [if_neg c1, if_neg (show ¬ (a ≤ x ∧ x < a + (n + 1)) by omega)]
          by_cases c2 : b ≤ x ∧ x < b + n
          · rw [if_pos c2, if_pos (by omega)]
          · rw [if_neg c2, if_neg (by omega)]
theorem swapR_perm (d : Array α) (a b lo hi : Nat) : ∀ (n : Nat), lo ≤ a → a + n ≤ b → b + n ≤ hi → hi ≤ d.size → PermIn lo hi d (swapR d a b n) := by
  intro n
  induction n with
  | zero => intro _ _ _ _; exact permIn_refl d lo hi
  | succ n ih =>
    intro h0 h1 h2 h3; exact permIn_trans _ _ _ lo hi (ih h0 (by omega) (by omega) h3) (swp_permIn _ lo hi (a + n) (b + n) (by omega) (by omega) (by omega) (by omega) (by rw [swapR_size]; exact h3))
structure Rot (a m b : Nat) (d F : Array α) : Prop where
  perm : PermIn a b d F
  get : ∀ x, F[x]! = if a ≤ x ∧ x < a + (b - m) then d[x + (m - a)]! else if a + (b - m) ≤ x ∧ x < b then d[x - (b - m)]! else d[x]!
theorem Rot.last {m i : Nat} {d : Array α} (hi : i ≤ m) (hb : m + i ≤ d.size) : Rot (m - i) m (m + i) d (swapR d (m - i) m i) := by
  refine ⟨swapR_perm d (m - i) m (m - i) (m + i) i (Nat.le_refl _) (by omega) (Nat.le_refl _) hb, fun x => ?_⟩; rw [swapR_get d (m - i) m i (by omega) hb]; have e : m + i - m = i := by omega
  rw [e]
  by_cases c1 : m - i ≤ x ∧ x < m - i + i
  · rw [if_pos c1, if_pos c1]; congr 1
    omega
  · rw [if_neg c1, if_neg c1]
    by_cases c2 : m ≤ x ∧ x < m + i
    · rw [if_pos c2, if_pos (by omega)]; congr 1
      omega
    · rw [if_neg c2, if_neg (by omega)]
theorem Rot.left {m i j : Nat} {d F : Array α} (hi : i ≤ m) (hj : 0 < j) (hji : j < i) (hb : m + j ≤ d.size) (h : Rot (m - (i - j)) m (m + j) (swapR d (m - i) m j) F) : Rot (m - i) m (m + j) d F := by
  have hs := swapR_size d (m - i) m j; refine ⟨permIn_trans _ _ _ _ _ (swapR_perm d (m - i) m (m - i) (m + j) j (Nat.le_refl _) (by omega) (Nat.le_refl _) hb) (permIn_mono _ _ (m - (i - j)) (m + j) (m - i) (m + j) (by omega) (Nat.le_refl _) (by omega) h.perm), fun x => ?_⟩; have e1 : m + j - m = j := by omega
  have hg := h.get x; rw [e1] at hg; rw [hg, e1, swapR_get d (m - i) m j (by omega) hb, swapR_get d (m - i) m j (by omega) hb, swapR_get d (m - i) m j (by omega) hb]
  by_cases c1 : x < m - i
  · rw [if_neg (by omega), if_neg (by omega), if_neg (by omega), if_neg (by omega), if_neg (by omega), if_neg (by omega)]
  by_cases c2 : x < m - i + j
  · rw [if_neg (by omega), if_neg (by omega), if_pos (by omega), if_pos (by omega)]; congr 1
    omega
  by_cases c3 : x < m - (i - j) + j
  · rw [if_pos (by omega)]
    by_cases c4 : x + (m - (m - (i - j))) < m
    · exfalso
      omega
    · rw [if_neg (by omega), if_pos (by omega), if_neg (by omega), if_pos (by omega)]; congr 1
      omega
  by_cases c5 : x < m + j
  · rw [if_neg (by omega), if_pos (by omega), if_neg (by omega), if_neg (by omega), if_neg (by omega), if_pos (by omega)]
  · rw [if_neg (by omega), if_neg (by omega), if_neg (by omega), if_neg (by omega), if_neg (by omega), if_neg (by omega)]
theorem Rot.right {m i j : Nat} {d F : Array α} (hi : i ≤ m) (hj : 0 < i) (hji : i < j) (hb : m + j ≤ d.size) (h : Rot (m - i) m (m + (j - i)) (swapR d (m - i) (m + j - i) i) F) : Rot (m - i) m (m + j) d F := by
  have hs := swapR_size d (m - i) (m + j - i) i; refine ⟨permIn_trans _ _ _ _ _ (swapR_perm d (m - i) (m + j - i) (m - i) (m + j) i (Nat.le_refl _) (by omega) (by omega) hb) (permIn_mono _ _ (m - i) (m + (j - i)) (m - i) (m + j) (Nat.le_refl _) (by omega) (by omega) h.perm), fun x => ?_⟩; have e1 : m + (j - i) - m = j - i := by omega
  have e2 : m + j - m = j := by omega
  have hg := h.get x; rw [e1] at hg; have G := swapR_get d (m - i) (m + j - i) i (by omega) (by omega); rw [hg, e2, G, G, G]
  by_cases c1 : x < m - i
  · rw [if_neg (by omega), if_neg (by omega), if_neg (by omega), if_neg (by omega), if_neg (by omega), if_neg (by omega)]
  by_cases c2 : x < m - i + (j - i)
  · rw [if_pos (by omega), if_neg (by omega)]
    by_cases c3 : m + j - i ≤ x + (m - (m - i)) ∧ x + (m - (m - i)) < m + j - i + i
    · exfalso
      omega
    · rw [if_neg c3, if_pos (by omega)]
  by_cases c4 : x < m + (j - i)
  · rw [if_neg (by omega), if_pos (by omega), if_pos (by omega), if_pos (by omega)]; congr 1
    omega
  by_cases c5 : x < m + j
  · rw [if_neg (by omega), if_neg (by omega), if_neg (by omega), if_pos (by omega), if_neg (by omega), if_pos (by omega)]; congr 1
    omega
  · rw [if_neg (by omega), if_neg (by omega), if_neg (by omega), if_neg (by omega), if_neg (by omega), if_neg (by omega)]
theorem Rot.same {a m b : Nat} (d : Array α) (h1 : a ≤ m) (h2 : m ≤ b) (h : a = m ∨ m = b) : Rot a m b d d := by
  refine ⟨permIn_refl _ _ _, fun x => ?_⟩; rcases h with rfl | rfl
  · by_cases c1 : a ≤ x ∧ x < a + (b - a)
    · rw [if_pos c1, Nat.sub_self, Nat.add_zero]
    · rw [if_neg c1, if_neg (by omega)]
  · rw [if_neg (by omega)]
    by_cases c1 : a + (m - m) ≤ x ∧ x < m
    · rw [if_pos c1, Nat.sub_self, Nat.sub_zero]
    · rw [if_neg c1]
variable {lt : α → α → Bool}
theorem SWO.le_of (hS : SWO lt) {lo hi : Nat} {d : Array α} (h : SortedIn lt lo hi d) {p q : Nat} (hp : lo ≤ p) (hpq : p ≤ q) (hq : q < hi) : lt d[q]! d[p]! = false := by
  rcases Nat.lt_or_eq_of_le hpq with h1 | h1
  · exact h p q hp h1 hq
  · subst h1; exact hS.irrefl _
structure SymAt (lt : α → α → Bool) (a m b mid s e : Nat) (d : Array α) : Prop where
  sum : s + e = mid + m
  sa : a ≤ s
  sm : s ≤ m
  me : m ≤ e
  eb : e ≤ b
  low : s = a ∨ e = b ∨ lt d[e]! d[s - 1]! = false
  high : s = m ∨ e = m ∨ lt d[e - 1]! d[s]! = true
theorem SymAt.halves {a m b mid s e : Nat} {d d1 : Array α} (hS : SWO lt) (h : SymAt lt a m b mid s e d) (hl : SortedIn lt a m d) (hr : SortedIn lt m b d) (hR : Rot s m e d d1) :
    SortedIn lt a s d1 ∧ SortedIn lt s mid d1 ∧ SortedIn lt mid e d1 ∧ SortedIn lt e b d1 ∧ (∀ p q, a ≤ p → p < mid → mid ≤ q → q < b → lt d1[q]! d1[p]! = false) := by
  obtain ⟨h1, h2, h3, h4, h5, h6, h7⟩ := h; have g1 : ∀ x, x < s → d1[x]! = d[x]! := fun x hx => by rw [hR.get, if_neg (by omega), if_neg (by omega)]
  have g2 : ∀ x, s ≤ x → x < mid → d1[x]! = d[x + (m - s)]! := fun x hx hx2 => by rw [hR.get, if_pos (by omega)]
  have g3 : ∀ x, mid ≤ x → x < e → d1[x]! = d[x - (e - m)]! := fun x hx hx2 => by rw [hR.get, if_neg (by omega), if_pos (by omega)]
  have g4 : ∀ x, e ≤ x → d1[x]! = d[x]! := fun x hx => by rw [hR.get, if_neg (by omega), if_neg (by omega)]
  refine ⟨fun i j hi hij hj => ?_, fun i j hi hij hj => ?_, fun i j hi hij hj => ?_, fun i j hi hij hj => ?_, fun p q hp hpm hq hqb => ?_⟩
  · rw [g1 i (by omega), g1 j (by omega)]; exact hl i j hi hij (by omega)
  · rw [g2 i (by omega) (by omega), g2 j (by omega) (by omega)]; exact hr _ _ (by omega) (by omega) (by omega)
  · rw [g3 i (by omega) (by omega), g3 j (by omega) (by omega)]; exact hl _ _ (by omega) (by omega) (by omega)
  · rw [g4 i (by omega), g4 j (by omega)]; exact hr _ _ (by omega) (by omega) (by omega)
  · by_cases hps : p < s
    · rw [g1 p hps]
      by_cases hqe : q < e
      · rw [g3 q hq hqe]; exact hl _ _ hp (by omega) (by omega)
      · rw [g4 q (by omega)]; rcases h6 with h6 | h6 | h6
        · omega
        · omega
        · exact hS.ntrans _ _ _ (SWO.le_of hS hr (p := e) (q := q) (by omega) (by omega) hqb) (hS.ntrans _ _ _ h6 (SWO.le_of hS hl (p := p) (q := s - 1) hp (by omega) (by omega)))
    · rw [g2 p (by omega) hpm]
      by_cases hqe : q < e
      · rw [g3 q hq hqe]; rcases h7 with h7 | h7 | h7
        · omega
        · omega
        · exact hS.ntrans _ _ _ (SWO.le_of hS hl (p := s) (q := q - (e - m)) (by omega) (by omega) (by omega)) (hS.ntrans _ _ _ (hS.asymmA h7) (SWO.le_of hS hr (p := p + (m - s)) (q := e - 1) (by omega) (by omega) (by omega)))
      · rw [g4 q (by omega)]; exact hr _ _ (by omega) (by omega) (by omega)
theorem sym_join {a mid b : Nat} {d1 d2 d3 : Array α} (h1 : a ≤ mid) (h2 : mid ≤ b) (hb : b ≤ d1.size) (hc : ∀ p q, a ≤ p → p < mid → mid ≤ q → q < b → lt d1[q]! d1[p]! = false) (hp2 : PermIn a mid d1 d2) (hs2 : SortedIn lt a mid d2) (hp3 : PermIn mid b d2 d3) (hs3 : SortedIn lt mid b d3) :
    PermIn a b d1 d3 ∧ SortedIn lt a b d3 := by
  refine ⟨permIn_trans _ _ _ _ _ (permIn_mono _ _ a mid a b (Nat.le_refl _) h2 hb hp2) (permIn_mono _ _ mid b a b h1 (Nat.le_refl _) (by rw [hp2.1]; exact hb) hp3), fun i j hi hij hj => ?_⟩
  by_cases hjm : j < mid
  · rw [hp3.2.1 i (by omega), hp3.2.1 j (by omega)]; exact hs2 i j hi hij hjm
  by_cases him : mid ≤ i
  · exact hs3 i j him hij hj
  have c1 : ∀ q, mid ≤ q → q < b → lt d2[q]! d2[i]! = false := fun q hq hqb => by
    rw [hp2.2.1 q (by omega)]; exact permIn_all d1 d2 a mid (fun x => lt d1[q]! x = false) (by omega) hp2 (fun p hp hpm => hc p q hp hpm hq hqb) i hi (by omega)
  rw [hp3.2.1 i (by omega)]; exact permIn_all d2 d3 mid b (fun y => lt y d2[i]! = false) (by rw [hp2.1]; exact hb) hp3 c1 j (by omega) hj
def SymQ (lt : α → α → Bool) (a b : Nat) (d F : Array α) : Prop := PermIn a b d F ∧ SortedIn lt a b F
theorem SymQ.all {a mid b m s e : Nat} {d d1 d2 d3 : Array α} (hS : SWO lt) (h : SymAt lt a m b mid s e d) (hl : SortedIn lt a m d) (hr : SortedIn lt m b d) (hR : Rot s m e d d1) (h1 : a ≤ mid) (h2 : mid ≤ b) (hb : b ≤ d.size) (q2 : SymQ lt a mid d1 d2) (q3 : SymQ lt mid b d2 d3) : SymQ lt a b d d3 := by
  have hh := h.halves hS hl hr hR; have hj := sym_join h1 h2 (by rw [hR.perm.1]; exact hb) hh.2.2.2.2 q2.1 q2.2 q3.1 q3.2; exact ⟨permIn_trans _ _ _ _ _ (permIn_mono _ _ s e a b h.sa h.eb hb hR.perm) hj.1, hj.2⟩
theorem sym_one {a i m b : Nat} {d F : Array α} (hS : SWO lt) (hm : m = a + 1) (hi : m ≤ i) (hib : i ≤ b) (hr : SortedIn lt m b d) (hlo : ∀ k, m ≤ k → k < i → lt d[k]! d[a]! = true) (hhi : ∀ k, i ≤ k → k < b → lt d[k]! d[a]! = false)
    (hg : ∀ x, F[x]! = if a ≤ x ∧ x + 1 < i then d[x + 1]! else if x + 1 = i then d[a]! else d[x]!) : SortedIn lt a b F := by
  intro p q hp hpq hq; rw [hg, hg]
  by_cases c1 : p + 1 < i
  · rw [if_pos (show a ≤ p ∧ p + 1 < i by omega)]
    by_cases c2 : q + 1 < i
    · rw [if_pos (by omega)]; exact hr _ _ (by omega) (by omega) (by omega)
    · rw [if_neg (by omega)]
      by_cases c3 : q + 1 = i
      · rw [if_pos c3]; exact hS.asymmA (hlo (p + 1) (by omega) (by omega))
      · rw [if_neg c3]; exact hr _ _ (by omega) (by omega) (by omega)
  · rw [if_neg (show ¬ (a ≤ p ∧ p + 1 < i) by omega), if_neg (show ¬ (a ≤ q ∧ q + 1 < i) by omega), if_neg (show ¬ q + 1 = i by omega)]
    by_cases c3 : p + 1 = i
    · rw [if_pos c3]; exact hhi q (by omega) hq
    · rw [if_neg c3]; exact hr _ _ (by omega) hpq hq
theorem sym_other {a i m b : Nat} {d F : Array α} (hS : SWO lt) (hm : b = m + 1) (hi : a ≤ i) (him : i ≤ m) (hl : SortedIn lt a m d) (hlo : ∀ k, a ≤ k → k < i → lt d[m]! d[k]! = false) (hhi : ∀ k, i ≤ k → k < m → lt d[m]! d[k]! = true)
    (hg : ∀ x, F[x]! = if x = i then d[m]! else if i < x ∧ x ≤ m then d[x - 1]! else d[x]!) : SortedIn lt a b F := by
  intro p q hp hpq hq; rw [hg, hg]
  by_cases c1 : p = i
  · rw [if_pos c1, if_neg (show ¬ q = i by omega), if_pos (show i < q ∧ q ≤ m by omega)]; exact hS.asymmA (hhi (q - 1) (by omega) (by omega))
  · rw [if_neg c1]
    by_cases c2 : p < i
    · rw [if_neg (show ¬ (i < p ∧ p ≤ m) by omega)]
      by_cases c3 : q = i
      · rw [if_pos c3]; exact hlo p hp c2
      · rw [if_neg c3]
        by_cases c4 : i < q ∧ q ≤ m
        · rw [if_pos c4]
          by_cases c5 : p = q - 1
          · omega
          · exact hl _ _ (by omega) (by omega) (by omega)
        · rw [if_neg c4]; exact hl _ _ (by omega) (by omega) (by omega)
    · rw [if_pos (show i < p ∧ p ≤ m by omega), if_neg (show ¬ q = i by omega), if_pos (show i < q ∧ q ≤ m by omega)]; exact hl _ _ (by omega) (by omega) (by omega)
theorem SymAt.midL {a m b mid s e : Nat} {d : Array α} (h : SymAt lt a m b mid s e d) : s ≤ mid ∧ mid ≤ e := by
  obtain ⟨h1, h2, h3, h4, h5, _, _⟩ := h; omega
theorem symLeft_skip {a m b mid s e : Nat} {d d1 : Array α} (hS : SWO lt) (h : SymAt lt a m b mid s e d) (hl : SortedIn lt a m d) (hr : SortedIn lt m b d) (hR : Rot s m e d d1) (hn : ¬ (a < s ∧ s < mid)) : SymQ lt a mid d1 d1 := by
  have hh := h.halves hS hl hr hR; have hm := h.midL; have ha := h.sa; refine ⟨permIn_refl _ _ _, ?_⟩
  by_cases c : a = s
  · rw [c]; exact hh.2.1
  · have : s = mid := by omega
    rw [← this]; exact hh.1
theorem sorted_keep {a b lo hi : Nat} {d d' : Array α} (h : SortedIn lt lo hi d) (hp : PermIn a b d d') (ho : hi ≤ a ∨ b ≤ lo) : SortedIn lt lo hi d' := fun i j hi1 hij hj => by
  rw [hp.2.1 i (by omega), hp.2.1 j (by omega)]; exact h i j hi1 hij hj
theorem symRight_skip {a m b mid s e : Nat} {d d1 d2 : Array α} (hS : SWO lt) (h : SymAt lt a m b mid s e d) (hl : SortedIn lt a m d) (hr : SortedIn lt m b d) (hR : Rot s m e d d1) (hp : PermIn a mid d1 d2) (hn : ¬ (mid < e ∧ e < b)) : SymQ lt mid b d2 d2 := by
  have hh := h.halves hS hl hr hR; have hm := h.midL; have hb := h.eb; refine ⟨permIn_refl _ _ _, ?_⟩
  by_cases c : e = b
  · rw [← c]; exact sorted_keep hh.2.2.1 hp (.inr (Nat.le_refl _))
  · have : e = mid := by omega
    rw [← this]; exact sorted_keep hh.2.2.2.1 hp (.inr (by omega))
end Go.Proofs.YtjpphldojbfpfaaGreatDoor
namespace Go.Proofs.YtjpphldojbfpfaaGreatDoor
open Go.RowKit
structure GoodL (L : List SibV) : Prop where
  few : L.length ≤ 64
  sorted : L.Pairwise fun a b => dLt a.d b.d
  anti : ∀ x ∈ L, seenL L x.d = false
theorem sib_at0 (x : SibV) : (sibC x)[0]? = some (.int .i64 (x.d.1 : Int)) := rfl
theorem sib_at1 (x : SibV) : (sibC x)[1]? = some (.int .i64 (x.d.2 : Int)) := rfl
theorem ordS2_any (x y : SibV) (w : World) : Calls Tryz.prog 62 #[.agg (sibC x).toArray, .agg (sibC y).toArray] w fun e w' => e = .returned (.int .i64 (cfD x.d y.d)) ∧ GG w w' :=
  ordB_any _ _ _ _ _ _ (sib_at0 x) (sib_at1 x) (sib_at0 y) (sib_at1 y) w
theorem ordS_lt {x y : SibV} (h : dLt x.d y.d) (w : World) : Calls Tryz.prog 62 #[.agg (sibC x).toArray, .agg (sibC y).toArray] w fun e w' => ∃ z : Int, e = .returned (.int .i64 z) ∧ z < 0 ∧ Gr w w' :=
  (ordS2_any x y w).mono fun _ _ ⟨he, hG⟩ => ⟨_, he, (cfD_lt x.d y.d).2 h, hG.gr⟩
set_option maxRecDepth 100000 in
set_option maxHeartbeats 4000000 in
theorem check1_any {L : List SibV} {A : Option Addr} {n c g : Nat} {x : SibV} {w : World} (hL : SibsR w A n L) (hx : SOk w x) (hg : w.cell? ⟨g, 0, none⟩ = some (.slice A n c)) (hn : n ≤ 1000000) :
    Calls Tryz.prog 108 #[.agg (sibC x).toArray, .pointer (some ⟨g, 0, none⟩)] w fun e w' => e = .returned (.bool (seenL L x.d)) ∧ Gr w w' := by
  obtain ⟨r, hr⟩ : ∃ r, r = seenL L x.d := ⟨_, rfl⟩; have H3 : Hid (∀ w1, Gr w w1 → Calls Tryz.prog 65 #[.slice A n c, .agg (encD x.d).toArray] w1 fun e w' => e = .returned (.bool r) ∧ Gr w1 w') := Lib.hid (fun w1 h => by rw [hr]; exact seen_any (hL.gr h) hx.right hn); rw [← hr]; obtain ⟨C, hC⟩ : ∃ C, C = sibC x := ⟨_, rfl⟩; have hA0 : Arr (w.alloc (.cells C.toArray 45)) w.heap.size 45 C := Arr.newAt rfl rfl; have hS : SibAt (w.alloc (.cells C.toArray 45)) w.heap.size 0 x := SibAt.of hx.ctx.len (by rw [← hC]; exact Arr.range hA0); rw [← hC]; have hG : Gr w (w.alloc (.cells C.toArray 45)) := Gr.alloc _ _; have hc0 := Gr.cell hG hg; clear hC hx hA0 hr hg hL
  go_enter Tryz.func108, Tryz.ntmps108
  go_upto_region 1 with fail
  change Code.wp _ _ _ _ (w.alloc (.cells C.toArray 45)); generalize w.alloc (.cells C.toArray 45) = w0 at hS hG hc0 ⊢; generalize w.heap.size = g1 at hS ⊢
  go_wp2_with first
    | (refine wpList_loadT rfl 38 (.tmp 5) rfl g1 0 (by kernel_rfl) (encD x.d) hS.dot Tryz.underlying38 rfl (infoDot x.d) ?_)
    | (go_at_call 65; refine (H3.out w0 hG).mono ?_; rintro e w9 ⟨rfl, hG9⟩)
  go_ret
  exact ⟨rfl, hG.trans hG9⟩
def ChkR (n : Nat) (w : World) (k : Value) (wr : World) : Prop := ∃ i : Nat, i ≤ n ∧ k = .int .i64 (i : Int) ∧ Gr w wr
set_option maxRecDepth 100000 in
set_option maxHeartbeats 8000000 in
theorem scheck_any {L : List SibV} {A : Option Addr} {n c : Nat} {w : World} (hL : SibsR w A n L) (hg : GoodL L) :
    Calls Tryz.prog 59 #[.slice A n c] w fun e w' => e = .returned (.int .i64 0) ∧ Gr w w' := by
  have hn64 : n ≤ 64 := by rw [← hL.1]; exact hg.few
  have hni : (n : Int) ≤ 64 := by omega
  have hG : Gr w (w.alloc (.cells #[.slice A n c] 46)) := Gr.alloc _ _; have hA : Arr (w.alloc (.cells #[.slice A n c] 46)) w.heap.size 46 [.slice A n c] := Arr.newAt rfl rfl; have hc1 := hA.cell (i := 0) (v := .slice A n c) rfl; have HL := Lib.hid (hL.gr hG); have HS := Lib.hid hg.sorted; have HLen := Lib.hid hL.1; have HA := Lib.hid hg.anti; clear hL hg hA
  go_enter Tryz.func59, Tryz.ntmps59
  go_upto_region 1 with fail
  change Code.wp _ _ _ _ (w.alloc (.cells #[.slice A n c] 46)); generalize w.alloc (.cells #[.slice A n c] 46) = w0 at hG hc1 HL ⊢; generalize w.heap.size = g1 at hc1 ⊢; go_wp2_with fail
  go_simp
  go_loopw [10] (fun i wr => ChkR n w0 i wr) (fun i _ => n - (intOf i).toNat)
  case atStart => exact ⟨0, Nat.zero_le _, rfl, Gr.refl _⟩
  case round =>
    obtain ⟨k, hk, rfl, hGr⟩ := hrel
    by_cases hlt : k < n
    · have hki : (k : Int) < (n : Int) := by omega
      obtain ⟨x, hx⟩ : ∃ x, L[k]? = some x := ⟨_, List.getElem?_eq_getElem (by rw [HLen.out]; exact hlt)⟩; have HLr := Lib.hid (HL.out.gr hGr); obtain ⟨⟨bA, oA, hA, hr⟩, hs⟩ := HLr.out.2 k x hx; subst hA; have HI := Lib.hid (infoSib hs.ctx.len); have HSo := Lib.hid hs; have HX := Lib.hid hx; have hone := sibC_one x; clear hs hx
      go_upto_region 6 with first
        | (refine wpList_load_mid rfl _ _ rfl bA (oA + k * 20) rfl (sibC x) _ hr Tryz.underlying45 rfl HI.out ?_)
        | (refine wpList_new (w := wr) (t := 45) rfl _ _ _ rfl wr.heap.size (sibC x) rfl rfl rfl (by rw [sibC_length HSo.out.ctx.len]; rfl) HI.out hone ?_; intro w5 hA5 hG5)
      have hrx5 := hG5.range hr; have hGr5 := hGr.trans hG5; have hc15 := Gr.cell hGr5 hc1; have HRi := Lib.hid (fun w1 (h : Gr w5 w1) => sright_any (HSo.out.gr (hG5.trans h))); generalize wr.heap.size = g4 at hA5 ⊢; have hr5 : w5.rangeAt g4 0 (sibC x) := Arr.range hA5; clear hr hGr hG5 hone; cases k with
      | zero =>
        refine wp_region_ssaL (by kernel_rfl) [IsV (.agg (sibC x).toArray), IsV (.bool true), IsV (.bool false), IsV (.bool false), IsV (.int .i64 ((0 : Nat) : Int)), IsV (.bool false), IsV (.bool false), IsV (undef), IsV (undef), IsV (undef), IsV (undef), IsV (undef), IsV (undef), IsV (undef), IsV (undef), IsV (.bool false), IsV (.bool false)] (by kernel_rfl) ?_ ?_ ?_
        · intro φ hφ v w1 w2 h hg; simp only [List.mem_cons, List.not_mem_nil, or_false] at hφ; rcases hφ with rfl | rfl | rfl | rfl | rfl | rfl | rfl | rfl | rfl | rfl | rfl | rfl | rfl | rfl | rfl | rfl | rfl
          all_goals first | exact h | exact RdV.gr h hg | exact NegV.gr h
        · refine ⟨?_, ?_, ?_, ?_, ?_, ?_, ?_, ?_, ?_, ?_, ?_, ?_, ?_, ?_, ?_, ?_, ?_, trivial⟩
          · intro a1 w1 hG hF; have e4 : a1.eval (.tmp 4) = .pointer (some ⟨g4, 0, none⟩) := hF.ol 4 (by kernel_rfl); exact s_wp rfl (wants0 rfl) (wp_load_mid _ _ rfl g4 0 e4 (sibC x) _ (((Gr.drew w5).trans hG).range hr5) Tryz.underlying45 rfl HI.out ⟨_, rfl, rfl, Gr.refl _⟩)
          · intro a1 w1 hG hF; obtain ⟨_, e15, rfl⟩ := hF.dp 0 15 (by kernel_rfl); exact s_call rfl (wants0 rfl) _ rfl _ _ (by simp only [execOp, resolve, invoke, List.map_toArray, List.map_cons, List.map_nil, e15]; go_simp) ((HRi.out w1 ((Gr.drew w5).trans hG)).mono fun e w2 ⟨he, hb⟩ => ⟨_, he, rfl, hb⟩)
          · intro a1 w1 hG hF; obtain ⟨_, e16, rfl⟩ := hF.dp 1 16 (by kernel_rfl); exact s_is rfl (wants0 rfl) _ rfl (by simp only [execOp, e16]; go_simp)
          · intro a1 w1 hG hF; exact s_same rfl (wants0 rfl) (.tmp 17) (.inr rfl) (hF.dp 2 17 (by kernel_rfl))
          · intro a1 w1 hG hF; exact s_old rfl (wantsG hF 3 18 false rfl (by kernel_rfl) rfl) (.tmp 3) (.inr rfl) (.int .i64 ((0 : Nat) : Int)) (hF.ol 3 (by kernel_rfl)) rfl
          · intro a1 w1 hG hF; obtain ⟨_, e19, rfl⟩ := hF.dp 4 19 (by kernel_rfl); exact s_is rfl (wantsG hF 3 18 false rfl (by kernel_rfl) rfl) _ rfl (by simp only [execOp, e19]; go_simp)
          · intro a1 w1 hG hF; exact s_same rfl (wantsG hF 3 18 false rfl (by kernel_rfl) rfl) (.tmp 20) (.inr rfl) (hF.dp 5 20 (by kernel_rfl))
          · intro a1 w1 hG hF; exact s_not rfl (notN hF 6 21 true rfl (by kernel_rfl) rfl) rfl
          · intro a1 w1 hG hF; exact s_not rfl (notN hF 6 21 true rfl (by kernel_rfl) rfl) rfl
          · intro a1 w1 hG hF; exact s_not rfl (notN hF 6 21 true rfl (by kernel_rfl) rfl) rfl
          · intro a1 w1 hG hF; exact s_not rfl (notN hF 6 21 true rfl (by kernel_rfl) rfl) rfl
          · intro a1 w1 hG hF; exact s_not rfl (notN hF 6 21 true rfl (by kernel_rfl) rfl) rfl
          · intro a1 w1 hG hF; exact s_not rfl (notN hF 6 21 true rfl (by kernel_rfl) rfl) rfl
          · intro a1 w1 hG hF; exact s_not rfl (notN hF 6 21 true rfl (by kernel_rfl) rfl) rfl
          · intro a1 w1 hG hF; exact s_not rfl (notN hF 6 21 true rfl (by kernel_rfl) rfl) rfl
          · intro a1 w1 hG hF; obtain ⟨_, e21, rfl⟩ := hF.dp 6 21 (by kernel_rfl); exact s_pickF rfl (wantsG hF 3 18 false rfl (by kernel_rfl) rfl) (.tmp 21) _ _ rfl e21 _ rfl rfl
          · intro a1 w1 hG hF; obtain ⟨_, e18, rfl⟩ := hF.dp 3 18 (by kernel_rfl); obtain ⟨_, e30, rfl⟩ := hF.dp 15 30 (by kernel_rfl); exact s_pickF rfl (wants0 rfl) (.tmp 18) _ (.tmp 30) rfl e18 _ e30 rfl
        · intro vs w2 hG2 hf; have z31 : vs 16 = .bool false := hf.2.2.2.2.2.2.2.2.2.2.2.2.2.2.2.2.1; clear hf; simp only [putAll, Nat.zero_add, Nat.reduceAdd, z31]; have hGe := hGr5.trans ((Gr.drew w5).trans hG2); clear hG2 hGr5; go_simp; go_wp2_with fail
          exact ⟨⟨0 + 1, by omega, by go_num, hGe⟩, by simp [intOf]; omega⟩
      | succ j =>
        obtain ⟨p, hp⟩ : ∃ p, L[j]? = some p := ⟨_, List.getElem?_eq_getElem (by rw [HLen.out]; omega)⟩
        have hpd : dLt p.d x.d := by
          have h1 := List.pairwise_iff_getElem.1 HS.out j (j + 1) (by rw [HLen.out]; omega) (by rw [HLen.out]; omega) (by omega); have e1 := List.getElem?_eq_some_iff.1 hp; have e2 := List.getElem?_eq_some_iff.1 HX.out; rw [e1.2, e2.2] at h1; exact h1
        obtain ⟨⟨bP, oP, heP, hrP⟩, hsP⟩ := HL.out.2 j p hp; injection heP with heP
        injection heP with heP1 heP2
        subst heP1 heP2; have hrP5 := hGr5.range hrP; have hkj : (j : Int) < (n : Int) := by omega
        have HO := Lib.hid (ordS_lt hpd); have HIP := Lib.hid (infoSib hsP.ctx.len); clear hp hpd hrP hsP; refine wp_region_ssaL (by kernel_rfl) [IsV (.agg (sibC x).toArray), IsV (.bool true), IsV (.bool false), IsV (.bool false), IsV (.int .i64 ((j + 1 : Nat) : Int)), IsV (.bool true), IsV (.bool true), IsV (.slice (some ⟨bA, oA, none⟩) n c), IsV (.int .i64 ((j + 1 : Nat) : Int)), IsV (.int .i64 ((j : Nat) : Int)), IsV (.pointer (some ⟨bA, oA + j * 20, none⟩)), IsV (.agg (sibC p).toArray), IsV (.agg (sibC x).toArray), NegV, IsV (.bool false), IsV (.bool false), IsV (.bool false)] (by kernel_rfl) ?_ ?_ ?_
        · intro φ hφ v w1 w2 h hg; simp only [List.mem_cons, List.not_mem_nil, or_false] at hφ; rcases hφ with rfl | rfl | rfl | rfl | rfl | rfl | rfl | rfl | rfl | rfl | rfl | rfl | rfl | rfl | rfl | rfl | rfl
          all_goals first | exact h | exact RdV.gr h hg | exact NegV.gr h
        · refine ⟨?_, ?_, ?_, ?_, ?_, ?_, ?_, ?_, ?_, ?_, ?_, ?_, ?_, ?_, ?_, ?_, ?_, trivial⟩
          · intro a1 w1 hG hF; have e4 : a1.eval (.tmp 4) = .pointer (some ⟨g4, 0, none⟩) := hF.ol 4 (by kernel_rfl); exact s_wp rfl (wants0 rfl) (wp_load_mid _ _ rfl g4 0 e4 (sibC x) _ (((Gr.drew w5).trans hG).range hr5) Tryz.underlying45 rfl HI.out ⟨_, rfl, rfl, Gr.refl _⟩)
          · intro a1 w1 hG hF; obtain ⟨_, e15, rfl⟩ := hF.dp 0 15 (by kernel_rfl); exact s_call rfl (wants0 rfl) _ rfl _ _ (by simp only [execOp, resolve, invoke, List.map_toArray, List.map_cons, List.map_nil, e15]; go_simp) ((HRi.out w1 ((Gr.drew w5).trans hG)).mono fun e w2 ⟨he, hb⟩ => ⟨_, he, rfl, hb⟩)
          · intro a1 w1 hG hF; obtain ⟨_, e16, rfl⟩ := hF.dp 1 16 (by kernel_rfl); exact s_is rfl (wants0 rfl) _ rfl (by simp only [execOp, e16]; go_simp)
          · intro a1 w1 hG hF; exact s_same rfl (wants0 rfl) (.tmp 17) (.inr rfl) (hF.dp 2 17 (by kernel_rfl))
          · intro a1 w1 hG hF; exact s_old rfl (wantsG hF 3 18 false rfl (by kernel_rfl) rfl) (.tmp 3) (.inr rfl) (.int .i64 ((j + 1 : Nat) : Int)) (hF.ol 3 (by kernel_rfl)) rfl
          · intro a1 w1 hG hF; obtain ⟨_, e19, rfl⟩ := hF.dp 4 19 (by kernel_rfl); exact s_is rfl (wantsG hF 3 18 false rfl (by kernel_rfl) rfl) _ rfl (by simp only [execOp, e19]; go_simp; try omega)
          · intro a1 w1 hG hF; exact s_same rfl (wantsG hF 3 18 false rfl (by kernel_rfl) rfl) (.tmp 20) (.inr rfl) (hF.dp 5 20 (by kernel_rfl))
          · intro a1 w1 hG hF; have e1 : a1.eval (.tmp 1) = .pointer (some ⟨g1, 0, none⟩) := hF.ol 1 (by kernel_rfl); exact s_is rfl (wantsG hF 6 21 true rfl (by kernel_rfl) rfl) _ rfl (run_load1B (.inr (.inr (.inr (.inl ⟨_, Tryz.underlying46⟩)))) e1 (Gr.cell ((Gr.drew w5).trans hG) hc15))
          · intro a1 w1 hG hF; exact s_old rfl (wantsG hF 6 21 true rfl (by kernel_rfl) rfl) (.tmp 3) (.inr rfl) (.int .i64 ((j + 1 : Nat) : Int)) (hF.ol 3 (by kernel_rfl)) rfl
          · intro a1 w1 hG hF; obtain ⟨_, e23, rfl⟩ := hF.dp 8 23 (by kernel_rfl); exact s_is rfl (wantsG hF 6 21 true rfl (by kernel_rfl) rfl) _ rfl (run_subN (a := j + 1) (b := 1) e23 rfl (by omega) (by omega))
          · intro a1 w1 hG hF; obtain ⟨_, e22, rfl⟩ := hF.dp 7 22 (by kernel_rfl); obtain ⟨_, e24, rfl⟩ := hF.dp 9 24 (by kernel_rfl); exact s_is rfl (wantsG hF 6 21 true rfl (by kernel_rfl) rfl) _ rfl (by simp only [execOp, e22, e24]; go_simp; try (intro h; omega))
          · intro a1 w1 hG hF; obtain ⟨_, e25, rfl⟩ := hF.dp 10 25 (by kernel_rfl); exact s_wp rfl (wantsG hF 6 21 true rfl (by kernel_rfl) rfl) (wp_load_mid _ _ rfl bA (oA + j * 20) e25 (sibC p) _ (((Gr.drew w5).trans hG).range hrP5) Tryz.underlying45 rfl HIP.out ⟨_, rfl, rfl, Gr.refl _⟩)
          · intro a1 w1 hG hF; have e4 : a1.eval (.tmp 4) = .pointer (some ⟨g4, 0, none⟩) := hF.ol 4 (by kernel_rfl); exact s_wp rfl (wantsG hF 6 21 true rfl (by kernel_rfl) rfl) (wp_load_mid _ _ rfl g4 0 e4 (sibC x) _ (((Gr.drew w5).trans hG).range hr5) Tryz.underlying45 rfl HI.out ⟨_, rfl, rfl, Gr.refl _⟩)
          · intro a1 w1 hG hF; obtain ⟨_, e26, rfl⟩ := hF.dp 11 26 (by kernel_rfl); obtain ⟨_, e27, rfl⟩ := hF.dp 12 27 (by kernel_rfl); exact s_call rfl (wantsG hF 6 21 true rfl (by kernel_rfl) rfl) _ rfl _ _ (by simp only [execOp, resolve, invoke, List.map_toArray, List.map_cons, List.map_nil, e26, e27]; go_simp) ((HO.out w1).mono fun e w2 ⟨z, he, hz, hb⟩ => ⟨_, he, ⟨z, rfl, hz⟩, hb⟩)
          · intro a1 w1 hG hF; obtain ⟨x28, e28, f28⟩ := hF.dp 13 28 (by kernel_rfl); obtain ⟨z, rfl, hz⟩ := f28; exact s_is rfl (wantsG hF 6 21 true rfl (by kernel_rfl) rfl) _ rfl (by simp only [execOp, e28]; go_simp; try omega)
          · intro a1 w1 hG hF; obtain ⟨_, e21, rfl⟩ := hF.dp 6 21 (by kernel_rfl); obtain ⟨_, e29, rfl⟩ := hF.dp 14 29 (by kernel_rfl); exact s_pick rfl (wantsG hF 3 18 false rfl (by kernel_rfl) rfl) (.tmp 21) (.tmp 29) _ rfl e21 _ e29 rfl
          · intro a1 w1 hG hF; obtain ⟨_, e18, rfl⟩ := hF.dp 3 18 (by kernel_rfl); obtain ⟨_, e30, rfl⟩ := hF.dp 15 30 (by kernel_rfl); exact s_pickF rfl (wants0 rfl) (.tmp 18) _ (.tmp 30) rfl e18 _ e30 rfl
        · intro vs w2 hG2 hf; have z31 : vs 16 = .bool false := hf.2.2.2.2.2.2.2.2.2.2.2.2.2.2.2.2.1; clear hf; simp only [putAll, Nat.zero_add, Nat.reduceAdd, z31]; have hGe := hGr5.trans ((Gr.drew w5).trans hG2); clear hG2 hGr5; go_simp; go_wp2_with fail
          exact ⟨⟨j + 1 + 1, by omega, by go_num, hGe⟩, by simp [intOf]; omega⟩
    · have hki : ¬ (k : Int) < (n : Int) := by omega
      have hcr := Gr.cell hGr hc1
      have hany : (L.any fun x => seenL L x.d) = false := by
        rw [List.any_eq_false]; intro x hx; rw [HA.out x hx]; exact Bool.false_ne_true
      have HC : Hid (∀ w1, Gr wr w1 → Calls Tryz.prog 107 #[.slice A n c, .func (.func 108) #[] #[.pointer (some ⟨g1, 0, none⟩)]] w1 fun e w' => e = .returned (.bool false) ∧ Gr w1 w') := Lib.hid (fun w1 h => by
        rw [← hany]; exact containsS_any ((HL.out.gr hGr).gr h) (fun w2 h2 y hy => check1_any (((HL.out.gr hGr).gr h).gr h2) ((((HL.out.gr hGr).gr h).gr h2).ok y hy) (Gr.cell h2 (Gr.cell h hcr)) (by omega)) (enters_of Tryz.func108 (by kernel_rfl) rfl) (by omega))
      have hGw := hG.trans hGr; clear hany hG hGr
      go_wp2_with (go_at_call 107; refine (HC.out wr (Gr.refl _)).mono ?_; rintro e w9 ⟨rfl, hG9⟩)
      go_ret
      exact ⟨rfl, hGw.trans hG9⟩
end Go.Proofs.YtjpphldojbfpfaaGreatDoor
namespace Go.Proofs.YtjpphldojbfpfaaGreatDoor
open Go.Shelf Go.RowKit Go.Lib Go.Sort
variable {α : Type} [Inhabited α]
set_option maxHeartbeats 8000000 in
set_option maxRecDepth 1000000 in
theorem swapRange_any (k : Nat) (zE : ∀ w, (Go.sizeOf 45).run Tryz.prog w = .ok k w) (enc : α → List Value) (blk off cap a b n : Nat) (fv : Value) (d0 d : Array α) (w0 w : World)
    (R : RowK enc k w0 blk off d0) (hs : d0.size = d.size) (S : SWK enc k w0 blk off d w) (hab : a + n ≤ b) (hb : b + n ≤ d.size) (hsz : d.size < 4611686018427387904) :
    Calls Tryz.prog 177 #[.slice (some ⟨blk, off, none⟩) d.size cap, .int .i64 a, .int .i64 b, .int .i64 n, fv] w fun e w' => e = .returned (.tuple #[]) ∧ SWK enc k w0 blk off (swapR d a b n) w' := by
  have mixed : Tryz.prog.follows .mixedOrders = true := by kernel_rfl
  have aE := Tryz.isAgg45; have tS := Tryz.underlying46; have aS := Tryz.isAgg46; have zS := Tryz.sizeOf46; have S0 : Aside (SWK enc k w0 blk off d w) := S; clear S
  go_enter Tryz.func177, Tryz.ntmps177
  go_wp2
  go_loopg [10] n (fun kx s10 wr => ∃ i : Nat, s10 = .int .i64 i ∧ i ≤ n ∧ n - i ≤ kx ∧ Aside (SWK enc k w0 blk off (swapR d a b i) wr))
  case atStart => exact ⟨0, rfl, Nat.zero_le _, by omega, S0⟩
  case round =>
    clear S0; obtain ⟨i, rfl, hin, hkx, S1⟩ := hrel
    by_cases hlt : i < n
    · have hlz : (i : Int) < (n : Int) := by omega
      have hds := swapR_size d a b i; obtain ⟨dk, hdk⟩ : ∃ dk, dk = swapR d a b i := ⟨_, rfl⟩; have HDK : Hid (dk = swapR d a b i) := hdk; rw [← hdk] at S1 hds; clear hdk; go_wp2_with fail
      have ea : ((a : Int) + (i : Int)).toNat = a + i := by omega
      have eb : ((b : Int) + (i : Int)).toNat = b + i := by omega
      have pa : (0 : Int) ≤ (a : Int) + (i : Int) := by omega
      have pb : (0 : Int) ≤ (b : Int) + (i : Int) := by omega
      have ba : (a : Int) + (i : Int) < (d.size : Int) := by omega
      have bb : (b : Int) + (i : Int) < (d.size : Int) := by omega
      have ra : IntKind.i64.wrap ((a : Int) + (i : Int)) = (a : Int) + (i : Int) := by rw [IntKind.wrap_i64]; omega
      have rb : IntKind.i64.wrap ((b : Int) + (i : Int)) = (b : Int) + (i : Int) := by rw [IntKind.wrap_i64]; omega
      have S2 : Aside (SWK enc k w0 blk off (swp dk (a + i) (b + i)) ((wr.drew.setCells blk (off + (a + i) * k) (enc dk[b + i]!)).setCells blk (off + (b + i) * k) (enc dk[a + i]!))) := S1.out.swapped R (a + i) (b + i) (by omega) (by omega); have l44a := S1.out.ld1 R (by omega) Tryz.prog (a + i) (by omega); have l44b := S1.out.ld1 R (by omega) Tryz.prog (b + i) (by omega); have s44a := S1.out.st1 R (by omega) Tryz.prog (a + i) (by omega) dk[b + i]!; have s44b := S1.out.st2 R (by omega) Tryz.prog (a + i) (b + i) (by omega) (by omega) dk[b + i]! dk[a + i]!; have n44a : (enc dk[a + i]!).length = k := R.hk _; have n44b : (enc dk[b + i]!).length = k := R.hk _; generalize enc dk[a + i]! = cI44 at S2 l44a s44b n44a; generalize enc dk[b + i]! = cJ44 at S2 l44b s44a s44b n44b; clear S1; go_wp2_with fail
      go_big_region_o
      clear l44a l44b s44a s44b; generalize (wr.drew.setCells blk (off + (a + i) * k) cJ44).setCells blk (off + (b + i) * k) cI44 = w2 at S2 ⊢
      go_wp2
      go_roundg (n - (i + 1))
      case measure => omega
      case rel =>
        refine ⟨i + 1, by go_num, hlt, Nat.le_refl _, ?_⟩; rw [swapR, ← HDK.out]; exact S2
    · have hnl : ¬ (i : Int) < (n : Int) := by omega
      obtain rfl : i = n := by omega
      go_wp2
      go_end0
      exact ⟨rfl, S1.out⟩
set_option maxHeartbeats 8000000 in
set_option maxRecDepth 1000000 in
theorem rotate_any (k : Nat) (zE : ∀ w, (Go.sizeOf 45).run Tryz.prog w = .ok k w) (enc : α → List Value) (blk off cap a m b : Nat) (fv : Value) (d0 d : Array α) (w0 w : World)
    (R : RowK enc k w0 blk off d0) (hs : d0.size = d.size) (S : SWK enc k w0 blk off d w) (ham : a < m) (hmb : m < b) (hb : b ≤ d.size) (hsz : d.size < 4611686018427387904) :
    Calls Tryz.prog 154 #[.slice (some ⟨blk, off, none⟩) d.size cap, .int .i64 a, .int .i64 m, .int .i64 b, fv] w fun e w' => e = .returned (.tuple #[]) ∧ ∃ F, Rot a m b d F ∧ SWK enc k w0 blk off F w' := by
  have S0 : Aside (SWK enc k w0 blk off d w) := S
  have HC : Hid (∀ (X Y Z : Int) (x y q : Nat) (dk : Array α) (w1 : World), X = (x : Int) → Y = (y : Int) → Z = (q : Int) → dk.size = d.size → x + q ≤ y → y + q ≤ d.size → SWK enc k w0 blk off dk w1 → Calls Tryz.prog 177 #[.slice (some ⟨blk, off, none⟩) d.size cap, .int .i64 X, .int .i64 Y, .int .i64 Z, fv] w1 fun e w' => e = .returned (.tuple #[]) ∧ SWK enc k w0 blk off (swapR dk x y q) w') := fun X Y Z x y q dk w1 e1 e2 e3 h1 h2 h3 h4 => by
    subst e1 e2 e3; rw [← h1]; exact swapRange_any k zE enc blk off cap x y q fv d0 dk w0 w1 R (by omega) h4 h2 (by omega) (by omega)
  clear S
  go_enter Tryz.func154, Tryz.ntmps154
  go_wp2
  go_loopg [10, 11] (b - a) (fun kx s10 s11 wr => ∃ (i j : Nat) (dk : Array α), s10 = .int .i64 i ∧ s11 = .int .i64 j ∧ 0 < i ∧ 0 < j ∧ a + i ≤ m ∧ m + j ≤ b ∧ i + j ≤ kx ∧ dk.size = d.size ∧ Aside (SWK enc k w0 blk off dk wr) ∧ Aside (∀ F, Rot (m - i) m (m + j) dk F → Rot a m b d F))
  case atStart => exact ⟨m - a, b - m, d, by go_num, by go_num, by omega, by omega, by omega, by omega, by omega, rfl, S0, fun F h => by
    rw [show m - (m - a) = a by omega, show m + (b - m) = b by omega] at h; exact h⟩
  case round =>
    clear S0; obtain ⟨i, j, dk, rfl, rfl, hi0, hj0, hi, hj, hkx, hds, S1, H1⟩ := hrel
    by_cases hij : i = j
    · subst hij
      go_wp2_with (go_at_call 177; refine (HC.out _ _ _ (m - i) m i dk _ (by omega) rfl rfl hds (by omega) (by omega) S1.out).mono ?_; rintro e w2 ⟨rfl, S2⟩)
      go_end0
      exact ⟨rfl, _, H1.out _ (Rot.last (by omega) (by omega)), S2⟩
    · have hne : ¬ (i : Int) = (j : Int) := by omega
      by_cases hlt : j < i
      · have hlz : (j : Int) < (i : Int) := by omega
        go_wp2_with (go_at_call 177; refine (HC.out _ _ _ (m - i) m j dk _ (by omega) rfl rfl hds (by omega) (by omega) S1.out).mono ?_; rintro e w2 ⟨rfl, S2⟩)
        go_roundg (i - j + j)
        case measure => omega
        case rel => exact ⟨i - j, j, swapR dk (m - i) m j, by go_num, rfl, by omega, hj0, by omega, hj, Nat.le_refl _, by rw [swapR_size]; exact hds, S2, fun F h => H1.out F (Rot.left (by omega) hj0 hlt (by omega) h)⟩
      · have hlz : ¬ (j : Int) < (i : Int) := by omega
        have hlz2 : (i : Int) < (j : Int) := by omega
        go_wp2_with (go_at_call 177; refine (HC.out _ _ _ (m - i) (m + j - i) i dk _ (by omega) (by omega) rfl hds (by omega) (by omega) S1.out).mono ?_; rintro e w2 ⟨rfl, S2⟩)
        go_roundg (i + (j - i))
        case measure => omega
        case rel => exact ⟨i, j - i, swapR dk (m - i) (m + j - i) i, rfl, by go_num, hi0, by omega, hi, by omega, Nat.le_refl _, by rw [swapR_size]; exact hds, S2, fun F h => H1.out F (Rot.right (by omega) hi0 (by omega) (by omega) h)⟩
end Go.Proofs.YtjpphldojbfpfaaGreatDoor
