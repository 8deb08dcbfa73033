/- The plain law of places that meet. No condition. -/
import Derived.Test.YteckblffpidigaaGreatDoorKitT
import Derived.Test.YteckblffpidigaaGreatDoorMtSeenP
import Derived.Test.YteckblffpidigaaGreatDoorMtMerge
import Derived.Test.YteckblffpidigaaGreatDoorMtSame
namespace Go.Proofs.YteckblffpidigaaGreatDoor
def keyW (x : SibV) : WrM := (x.d, x.c)
theorem cov_keys {L : List SibV} {d : DotM} : covW (L.map keyW) d ↔ covS L d := by
  constructor
  · rintro ⟨p, hp, h⟩
    obtain ⟨x, hx, rfl⟩ := List.mem_map.1 hp
    exact ⟨x, hx, h⟩
  · rintro ⟨x, hx, h⟩
    exact ⟨keyW x, List.mem_map.2 ⟨x, hx, rfl⟩, h⟩
theorem seen_keys {L : List SibV} {d : DotM} : seenL L d = false ↔ ¬ seenW (L.map keyW) d := by
  unfold seenL seenW
  rw [Bool.eq_false_iff, ne_eq, List.any_eq_true]
  constructor
  · rintro h ⟨p, hp, hd⟩
    obtain ⟨x, hx, rfl⟩ := List.mem_map.1 hp
    exact h ⟨x, hx, decide_eq_true hd⟩
  · rintro h ⟨x, hx, hd⟩
    exact h ⟨keyW x, List.mem_map.2 ⟨x, hx, rfl⟩, of_decide_eq_true hd⟩
/-- A place's siblings, with regard to all writes. -/
structure PlaceP (W : List WrM) (L : List SibV) : Prop where
  set : SetW W (L.map keyW)
  bare : ∀ x ∈ L, x.body = []
/-- The writes so far: whose, and how many. -/
structure WritesP (W : List WrM) (nx : Nat → Nat) (k : Nat) : Prop where
  hist : HistW W
  len : W.length ≤ k
  num : ∀ x ∈ W, 1 ≤ x.1.1 ∧ x.1.1 ≤ 3 ∧ x.1.2 ≤ nx x.1.1
  few : ∀ j, nx j ≤ k
theorem WritesP.nil : WritesP [] (fun _ => 0) 0 := ⟨HistW.nil, Nat.le_refl _, by simp, fun _ => Nat.le_refl _⟩
theorem WritesP.later {W : List WrM} {nx : Nat → Nat} {k : Nat} (h : WritesP W nx k) : WritesP W nx (k + 1) := ⟨h.hist, Nat.le_succ_of_le h.len, h.num, fun j => Nat.le_succ_of_le (h.few j)⟩
theorem PlaceP.wide {W : List WrM} {L : List SibV} (h : PlaceP W L) (z : WrM) : PlaceP (W ++ [z]) L := ⟨h.set.wide z, h.bare⟩
theorem PlaceP.nil (W : List WrM) : PlaceP W [] := ⟨SetW.nil W, by simp⟩
theorem PlaceP.len {W : List WrM} {L : List SibV} (h : PlaceP W L) : L.length ≤ W.length := by
  have := h.set.len
  simpa using this
/-- What the next write may have seen. -/
structure PastP (W : List WrM) (c : CtxM) : Prop where
  ok : OkC c
  old : ∀ d, rightD d → hasC c d → ∃ x ∈ W, x.1 = d
  trans : ∀ y ∈ W, hasC c y.1 → ∀ d, rightD d → hasC y.2 d → hasC c d
theorem not_has0 {d : DotM} (hd : rightD d) : ¬ hasC ctx0 d := by
  unfold hasC upOf ctx0
  have : (List.replicate 16 0).getD (d.1 - 1) 0 = 0 := by
    rw [List.getD_eq_getElem?_getD, List.getElem?_replicate]
    split <;> rfl
  simp only [this]
  rintro (h | h)
  · have := hd.2.2.1
    omega
  · cases h
theorem PastP.none {W : List WrM} (h : HistW W) : PastP W ctx0 :=
  ⟨ctx0_ok, fun _ hd h2 => absurd h2 (not_has0 hd), fun y hy h2 => absurd h2 (not_has0 (h.right y hy))⟩
theorem PastP.seen {W : List WrM} {L : List SibV} {c : CtxM} (h : HistW W) (hL : PlaceP W L) (ho : OkC c) (hc : ∀ d, rightD d → (hasC c d ↔ covS L d)) : PastP W c := by
  obtain ⟨h1, h2⟩ := past_set h hL.set (fun d hd => (hc d hd).trans cov_keys.symm)
  exact ⟨ho, h1, h2⟩
def nxSet (nx : Nat → Nat) (c : Nat) : Nat → Nat := fun j => if j = c then nx c + 1 else nx j
theorem WritesP.add {W : List WrM} {nx : Nat → Nat} {k c : Nat} {p : CtxM} (h : WritesP W nx k) (hk : k < 24) (hc : 1 ≤ c ∧ c ≤ 3) (hp : PastP W p) :
    rightD (c, nx c + 1) ∧ ¬ hasC p (c, nx c + 1) ∧ WritesP (W ++ [((c, nx c + 1), p)]) (nxSet nx c) (k + 1) := by
  have hf := h.few c
  have hr : rightD (c, nx c + 1) := ⟨hc.1, by have := hc.2; simp only; omega, by simp only; omega, by simp only; omega⟩
  have hn : ∀ x ∈ W, x.1 ≠ (c, nx c + 1) := fun x hx e => by
    have h1 := (h.num x hx).2.2
    rw [e] at h1
    simp only at h1
    omega
  refine ⟨hr, fun hh => ?_, ?_, ?_, ?_, ?_⟩
  · obtain ⟨x, hx, e⟩ := hp.old _ hr hh
    exact hn x hx e
  · exact h.hist.add hr hp.ok hn hp.old hp.trans
  · rw [List.length_append]
    have := h.len
    simp only [List.length_singleton]
    omega
  · intro x hx
    rcases List.mem_append.1 hx with h1 | h1
    · obtain ⟨a1, a2, a3⟩ := h.num x h1
      refine ⟨a1, a2, ?_⟩
      unfold nxSet
      split
      · rename_i e
        rw [e] at a3
        omega
      · exact a3
    · have : x = ((c, nx c + 1), p) := by simpa using h1
      subst this
      refine ⟨hc.1, hc.2, ?_⟩
      unfold nxSet
      simp
  · intro j
    unfold nxSet
    split
    · omega
    · have := h.few j
      omega
theorem PlaceP.good {W : List WrM} {L : List SibV} (h : PlaceP W L) (hW : W.length ≤ 64) : GoodL L := by
  refine ⟨Nat.le_trans h.len hW, ?_, fun x hx => ?_⟩
  · have := h.set.sorted
    rw [List.pairwise_map] at this
    exact this
  · rw [seen_keys]
    rintro ⟨p, hp, hd⟩
    exact h.set.anti (keyW x) (List.mem_map.2 ⟨x, hx, rfl⟩) p hp hd
theorem merge_keys {L1 L2 L : List SibV} (h : MergeOf L1 L2 L) : MergeW (L1.map keyW) (L2.map keyW) (L.map keyW) := by
  refine ⟨?_, fun p hp => ?_, fun p hp h1 h2 => ?_⟩
  · rw [List.pairwise_map]
    exact h.sorted
  · obtain ⟨x, hx, rfl⟩ := List.mem_map.1 hp
    obtain ⟨⟨y, hy, hl⟩, h1, h2⟩ := h.mem x hx
    have e : keyW y = keyW x := by unfold keyW; rw [hl.1, hl.2.1]
    refine ⟨?_, seen_keys.1 h1, seen_keys.1 h2⟩
    rw [← e]
    exact hy.imp (fun q => List.mem_map.2 ⟨y, q, rfl⟩) (fun q => List.mem_map.2 ⟨y, q, rfl⟩)
  · obtain ⟨y, hy, e⟩ : ∃ y, (y ∈ L1 ∨ y ∈ L2) ∧ keyW y = p := by
      rcases hp with q | q
      · obtain ⟨y, hy, e⟩ := List.mem_map.1 q
        exact ⟨y, .inl hy, e⟩
      · obtain ⟨y, hy, e⟩ := List.mem_map.1 q
        exact ⟨y, .inr hy, e⟩
    subst e
    obtain ⟨x, hx, hd⟩ := h.all y hy (seen_keys.2 h1) (seen_keys.2 h2)
    exact ⟨keyW x, List.mem_map.2 ⟨x, hx, rfl⟩, hd⟩
theorem place_merge {W : List WrM} {L1 L2 L : List SibV} (h : HistW W) (h1 : PlaceP W L1) (h2 : PlaceP W L2) (hM : MergeOf L1 L2 L) : PlaceP W L ∧ ∀ d, rightD d → (covS L d ↔ covS L1 d ∨ covS L2 d) := by
  obtain ⟨hs, hc⟩ := merge_set h h1.set h2.set (merge_keys hM)
  refine ⟨⟨hs, fun x hx => ?_⟩, fun d hd => ?_⟩
  · obtain ⟨⟨y, hy, hl⟩, _⟩ := hM.mem x hx
    rw [← hl.2.2]
    exact hy.elim (h1.bare y) (h2.bare y)
  · rw [← cov_keys, ← cov_keys, ← cov_keys]
    exact hc d hd
theorem place_one {W : List WrM} {s : SibV} (h : HistW (W ++ [keyW s])) (hb : s.body = []) : PlaceP (W ++ [keyW s]) [s] := ⟨set_one h, fun x hx => by
  rw [List.mem_singleton] at hx
  rw [hx, hb]⟩
theorem cov_one {s : SibV} : covS [s] s.d := ⟨s, List.mem_singleton.2 rfl, .inl rfl⟩
def FullP (W : List WrM) (L : List SibV) : Prop := ∀ x ∈ W, covS L x.1
theorem full_keys {W : List WrM} {L1 L2 : List SibV} (h : HistW W) (h1 : PlaceP W L1) (h2 : PlaceP W L2) (f1 : FullP W L1) (f2 : FullP W L2) : L2.map keyV = L1.map keyV := by
  have e : L2.map keyW = L1.map keyW := full_same h h2.set h1.set (fun x hx => cov_keys.2 (f2 x hx)) (fun x hx => cov_keys.2 (f1 x hx))
  have hv : ∀ L : List SibV, (∀ x ∈ L, x.body = []) → L.map keyV = (L.map keyW).map fun p => (p.1, p.2, ([] : List UInt8)) := by
    intro L hL
    rw [List.map_map]
    apply List.map_congr_left
    intro x hx
    unfold keyV keyW
    simp only [Function.comp]
    rw [hL x hx]
  rw [hv L2 h2.bare, hv L1 h1.bare, e]
theorem full_lastD {W : List WrM} {L : List SibV} (h : HistW W) (h1 : PlaceP W L) (f1 : FullP W L) {z : WrM} (hz : W[W.length - 1]? = some z) : ∃ x ∈ L, x.d = z.1 := by
  obtain ⟨x, hx, e⟩ := List.mem_map.1 (full_last h h1.set (fun x hx => cov_keys.2 (f1 x hx)) hz)
  exact ⟨x, hx, congrArg (fun p => p.1) e⟩
theorem rest_in {W : List WrM} {L : List SibV} (h : HistW W) (h1 : PlaceP W L) : ∀ d ∈ restL L, d ∈ W.map (·.1) := by
  intro d hd
  unfold restL at hd
  obtain ⟨x, hx, h2⟩ := List.mem_flatMap.1 hd
  have hxW := h1.set.mem (keyW x) (List.mem_map.2 ⟨x, hx, rfl⟩)
  rcases List.mem_cons.1 h2 with e | h3
  · rw [e]
    exact List.mem_map.2 ⟨keyW x, hxW, rfl⟩
  · obtain ⟨i, hi⟩ := List.getElem?_of_mem hxW
    have hr := ((h.ok _ hxW).right d h3).1
    obtain ⟨j, y, _, hy, e⟩ := h.past i _ hi d hr (.inr h3)
    exact List.mem_map.2 ⟨y, List.mem_of_getElem? hy, e⟩
end Go.Proofs.YteckblffpidigaaGreatDoor
