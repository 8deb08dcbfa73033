/- The ring's points in memory: while they are made, and behind the sort. No condition. -/
import Derived.Test.YtmcnnjcbgbdeeaaDoorRSort
import Derived.Test.YtmcnnjcbgbdeeaaDoorRRef
import Derived.Test.YtmcnnjcbgbdeeaaDoorAppN
namespace Go.Proofs.YtmcnnjcbgbdeeaaDoor
open Go.RowKit
/-- A replica's points. -/
def ptsOf (r p : Nat) : List (Nat × Nat × Nat) := (List.range p).map fun j => (atP r j, r, j)
/-- The points of so many replicas. -/
def ringL (points r : Nat) : List (Nat × Nat × Nat) := (List.range r).flatMap fun q => ptsOf q points
theorem ptsOf_succ (r p : Nat) : ptsOf r (p + 1) = ptsOf r p ++ [(atP r p, r, p)] := by
  unfold ptsOf
  rw [List.range_succ, List.map_append]
  rfl
theorem ringL_succ (points r : Nat) : ringL points (r + 1) = ringL points r ++ ptsOf r points := by
  unfold ringL
  rw [List.range_succ, List.flatMap_append]
  simp
theorem ptsOf_length (r p : Nat) : (ptsOf r p).length = p := by simp [ptsOf]
theorem ringL_length (points r : Nat) : (ringL points r).length = r * points := by
  induction r with
  | zero => simp [ringL]
  | succ r ih => rw [ringL_succ, List.length_append, ih, ptsOf_length, Nat.add_mul, Nat.one_mul]
theorem mem_ringL {points reps a r p : Nat} : (a, r, p) ∈ ringL points reps ↔ r < reps ∧ p < points ∧ a = atP r p := by
  unfold ringL ptsOf
  simp only [List.mem_flatMap, List.mem_range, List.mem_map, Prod.mk.injEq]
  constructor
  · rintro ⟨q, hq, j, hj, h1, h2, h3⟩
    subst h2 h3
    exact ⟨hq, hj, h1.symm⟩
  · rintro ⟨h1, h2, h3⟩
    exact ⟨r, h1, p, h2, h3.symm, rfl, rfl⟩
theorem flat_get {α : Type} {f : α → List Value} {k : Nat} (hk : ∀ x, (f x).length = k) : ∀ (L : List α) (i j : Nat), j < k → (L.flatMap f)[i * k + j]? = (L[i]?).bind fun x => (f x)[j]?
  | [], i, j, _ => by simp
  | x :: L, 0, j, hj => by
    rw [List.flatMap_cons, Nat.zero_mul, Nat.zero_add, List.getElem?_append_left (by rw [hk]; exact hj)]
    rfl
  | x :: L, i + 1, j, hj => by
    rw [List.flatMap_cons, List.getElem?_append_right (by rw [hk, Nat.add_mul]; omega), hk, show (i + 1) * k + j - k = i * k + j by rw [Nat.add_mul]; omega, flat_get hk L i j hj]
    rfl
theorem encP_length (p : Nat × Nat × Nat) : (encP p).length = 3 := rfl
theorem holds_of_own {w : World} {B g n c : Nat} {L : List (Nat × Nat × Nat)} (hl : L.length = n) (h : w.ownsRow B 53 3 (.slice (some ⟨g, 0, none⟩) n c) n (L.flatMap encP)) : Go.Sort.HoldsK encP 3 w g 0 L.toArray := by
  intro t ht
  rw [Go.Sort.size_flatK] at ht
  have ht' : t < n * 3 := by simpa [hl] using ht
  have hc := h.cells (g := g) rfl
  obtain ⟨cur, hcur⟩ : ∃ cur, w.heap[g]? = some (.cells cur 53 (0, 0)) := by
    rcases h.2 with ⟨e, _⟩ | ⟨g', cap, cur, e1, _, h2, _⟩
    · cases e
    · injection e1 with e1
      injection e1 with e1
      injection e1 with e1
      subst e1
      exact ⟨cur, h2⟩
  refine ⟨?_, frozen_of_row w g _ cur _ hcur⟩
  have hi : t / 3 < L.length := by omega
  have hg : (L.flatMap encP)[t]? = some ((Go.Sort.flatK encP 3 L.toArray)[t]!) := by
    rw [Go.Sort.get_flatK _ _ _ t ht, show t = t / 3 * 3 + t % 3 by omega, flat_get encP_length L (t / 3) (t % 3) (by omega), List.getElem?_eq_getElem hi]
    have e1 : (t / 3 * 3 + t % 3) / 3 = t / 3 := by omega
    have e2 : (t / 3 * 3 + t % 3) % 3 = t % 3 := by omega
    rw [e1, e2]
    have e3 : L.toArray[t / 3]! = L[t / 3] := by simp [hi]
    rw [e3]
    have hm : t % 3 < (encP L[t / 3]).length := by rw [encP_length]; omega
    show (encP L[t / 3])[t % 3]? = _
    rw [List.getElem?_eq_getElem hm, List.getElem!_eq_getElem?_getD, List.getElem?_eq_getElem hm]
    rfl
  have := hc t _ hg
  rw [add_row] at this
  exact this
theorem ptR_of_holds {w : World} {g : Nat} {d : Array (Nat × Nat × Nat)} (h : Go.Sort.HoldsK encP 3 w g 0 d) : PtR w (some ⟨g, 0, none⟩) d.size d.toList := by
  refine ⟨by simp, fun i p hp => ⟨g, 0, rfl, fun j u hu => ?_⟩⟩
  have hi : i < d.size := by
    have := (List.getElem?_eq_some_iff.1 hp).1
    simpa using this
  have hj : j < 3 := by
    have := (List.getElem?_eq_some_iff.1 hu).1
    rwa [encP_length] at this
  have ht : i * 3 + j < d.size * 3 := by omega
  have h1 := (h (i * 3 + j) (by rw [Go.Sort.size_flatK]; exact ht)).1
  rw [Go.Sort.get_flatK _ _ _ _ ht, show (i * 3 + j) / 3 = i by omega, show (i * 3 + j) % 3 = j by omega] at h1
  have hp' : d[i]! = p := by
    have : d[i]? = some p := by simpa using hp
    simp [getElem!_def, this]
  rw [hp', List.getElem!_eq_getElem?_getD, hu] at h1
  rw [show 0 + i * 3 + j = 0 + (i * 3 + j) by omega]
  exact h1
theorem heap_putRow_other {α : Type} [Inhabited α] (enc : α → Value) (w : World) (blk off : Nat) (d : Array α) {k : Nat} (h : k ≠ blk) : (Go.Sort.putRow enc w blk off d).heap[k]? = w.heap[k]? := by
  unfold Go.Sort.putRow Go.Sort.mapBlock
  show (w.heap.modify blk _)[k]? = _
  rw [Array.getElem?_modify, if_neg (fun e => h e.symm)]
theorem sortWorld_other {w : World} {g m : Nat} {d : Array (Nat × Nat × Nat)} {os : Array Obj} {k : Nat} (hk : k < w.heap.size) (h : k ≠ g) : (sortWorldK encP 3 w g 0 m d os).heap[k]? = w.heap[k]? := by
  unfold sortWorldK
  rw [Go.Sort.heap_grow_old _ _ (by unfold Go.Sort.putRowK; rw [Go.Sort.size_putRow]; exact hk)]
  unfold Go.Sort.putRowK
  rw [heap_putRow_other _ _ _ _ _ h]
  rfl
theorem sortWorld_below {w : World} {B g m : Nat} {d : Array (Nat × Nat × Nat)} {os : Array Obj} (hB : B ≤ g) (hg : g < w.heap.size) : Below B w (sortWorldK encP 3 w g 0 m d os) :=
  ⟨rfl, rfl, rfl, by unfold sortWorldK Go.Sort.putRowK; rw [Go.Sort.size_grow, Go.Sort.size_putRow]; exact Nat.le_add_right _ _, fun k hk => sortWorld_other (by omega) (by omega)⟩
theorem get_bang {d : Array (Nat × Nat × Nat)} {i : Nat} (h : i < d.size) : d[i]! = d.toList[i]'(by simpa using h) := by simp [h]
theorem sorted_list {d d' : Array (Nat × Nat × Nat)} (h1 : Go.Sort.PermIn 0 d.size d d') (h2 : Go.Sort.SortedIn (ltOf cfP) 0 d.size d') :
    d'.size = d.size ∧ (∀ x, x ∈ d'.toList ↔ x ∈ d.toList) ∧ d'.toList.Pairwise fun p q => p.1 < q.1 ∨ p.1 = q.1 ∧ p.2.1 ≤ q.2.1 := by
  obtain ⟨hs, _, hp⟩ := h1
  refine ⟨hs, fun x => ?_, ?_⟩
  · have e1 : d'.extract 0 d.size = d' := by rw [← hs]; simp
    have e2 : d.extract 0 d.size = d := by simp
    rw [e1, e2] at hp
    exact hp.mem_iff
  · rw [List.pairwise_iff_getElem]
    intro i j hi hj hij
    have hi' : i < d'.size := by simpa using hi
    have hj' : j < d'.size := by simpa using hj
    have := h2 i j (Nat.zero_le _) hij (by omega)
    rw [ltP, get_bang hi', get_bang hj', decide_eq_false_iff_not] at this
    omega
/-- A ring in memory. -/
def RingAt (w : World) (gR reps points : Nat) : Prop := ∃ (A : Option Addr) (c : Nat) (L : List (Nat × Nat × Nat)), Arr w gR 49 [.int .i64 (reps : Int), .slice A (reps * points) c] ∧ PtR w A (reps * points) L ∧
  (L.Pairwise fun p q => p.1 < q.1 ∨ p.1 = q.1 ∧ p.2.1 ≤ q.2.1) ∧ ∀ a r p, (a, r, p) ∈ L ↔ r < reps ∧ p < points ∧ a = atP r p
theorem RingAt.gr {w w' : World} {gR reps points : Nat} (h : RingAt w gR reps points) (hG : Gr w w') : RingAt w' gR reps points := by
  obtain ⟨A, c, L, h1, h2, h3, h4⟩ := h
  exact ⟨A, c, L, h1.gr hG, h2.gr hG, h3, h4⟩
/-- What Walk tells of it: the document's order. -/
def WalkAt (reps points t : Nat) (w : World) (e : Ending) (w' : World) : Prop := ∃ u, e = .returned u ∧ w'.ownsRow w.heap.size 3 1 u reps ((nearL (nearOf atP t points) reps).map fun x : Nat => Value.int .i64 (x : Int)) ∧ Gr w w'
theorem beNat_lt8 (l : List UInt8) (h : l.length ≤ 8) : beNat l < 18446744073709551616 := by
  have h1 := beNat_lt l
  have h2 : (256 : Nat) ^ l.length ≤ 256 ^ 8 := Nat.pow_le_pow_right (by decide) h
  have h3 : (256 : Nat) ^ 8 = 18446744073709551616 := by decide
  omega
theorem atP_lt (r p : Nat) : atP r p < 18446744073709551616 := by
  unfold atP
  exact beNat_lt8 _ (by rw [List.length_take]; omega)
theorem walkAt_any {w : World} {gR reps points : Nat} (h : RingAt w gR reps points) (h1 : 1 ≤ reps) (h2 : reps ≤ 8) (h3 : 1 ≤ points) (h4 : points ≤ 64) (K : List UInt8) (hK : K.length = 32) :
    Calls Tryd.prog 9 #[.pointer (some ⟨gR, 0, none⟩), .agg (u8s K).toArray] w fun e w' => WalkAt reps points (beNat (K.take 8)) w e w' := by
  obtain ⟨A, c, L, hA, hP, hs, hm⟩ := h
  have hn1 : 1 ≤ reps * points := Nat.mul_le_mul h1 h3
  have hn2 : reps * points ≤ 512 := Nat.mul_le_mul h2 h4
  refine (walk_any hA hP hn1 hn2 (hs.imp fun {a b} h => by omega) K hK).mono ?_
  rintro e w' ⟨f, u, W, hf, hi, hW, he, ho, hG⟩
  have hR := ring_walk (at_ := atP) (reps := reps) (points := points) (key := beNat (K.take 8)) (f := f) (L := L) atP_lt (beNat_lt8 _ (by rw [List.length_take]; omega)) (by omega) hm hs hi
  rw [hR] at hW
  rw [hW, nearL_length] at ho
  exact ⟨u, he, ho, hG⟩
end Go.Proofs.YtmcnnjcbgbdeeaaDoor
