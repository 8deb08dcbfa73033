/- Rows of writes in memory; slices.SortFunc at them. No condition. -/
import Derived.Test.YteckblffpidigaaGreatDoorMtSortG
import Derived.Test.YteckblffpidigaaGreatDoorMtOrd
import Derived.Test.YteckblffpidigaaGreatDoorDotSort
namespace Go.Proofs.YteckblffpidigaaGreatDoor
open Go.RowKit
def encD (d : DotM) : List Value := [.int .i64 (d.1 : Int), .int .i64 (d.2 : Int)]
theorem encD_length (d : DotM) : (encD d).length = 2 := rfl
theorem encD_one (d : DotM) : ∀ v ∈ encD d, v.oneCell' = true := by
  intro v hv
  simp only [encD, List.mem_cons, List.not_mem_nil, or_false] at hv
  rcases hv with rfl | rfl <;> rfl
/-- Writes in memory. -/
def DotsR (w : World) (A : Option Addr) (n : Nat) (L : List DotM) : Prop := L.length = n ∧ ∀ i d, L[i]? = some d → ∃ b o, A = some ⟨b, o, none⟩ ∧ w.rangeAt b (o + i * 2) (encD d)
theorem DotsR.gr {w w' : World} {A : Option Addr} {n : Nat} {L : List DotM} (h : DotsR w A n L) (hG : Gr w w') : DotsR w' A n L :=
  ⟨h.1, fun i x hx => by
    obtain ⟨b, o, e, hr⟩ := h.2 i x hx
    exact ⟨b, o, e, fun j u hu => (Below.cell hG (lt_of_cell (hr j u hu))).trans (hr j u hu)⟩⟩
theorem DotsR.nil (w : World) (A : Option Addr) : DotsR w A 0 [] := ⟨rfl, fun i d h => by simp at h⟩
theorem flat_at {α : Type} {enc : α → List Value} {k : Nat} (hk : ∀ x, (enc x).length = k) {L : List α} {i j : Nat} {x : α} {u : Value} (hx : L[i]? = some x) (hu : (enc x)[j]? = some u) : (L.flatMap enc)[i * k + j]? = some u := by
  have hj : j < k := by
    have := (List.getElem?_eq_some_iff.1 hu).1
    rwa [hk] at this
  rw [flat_get hk L i j hj, hx]
  exact hu
theorem dots_own {w : World} {B : Nat} {e : TypeId} {A : Option Addr} {n c : Nat} {L : List DotM} (h : w.ownsRow B e 2 (.slice A n c) n (L.flatMap encD)) (hl : L.length = n) : DotsR w A n L := by
  refine ⟨hl, fun i x hx => ?_⟩
  have hi := (List.getElem?_eq_some_iff.1 hx).1
  rcases h.2 with ⟨_, e2⟩ | ⟨g, cap, cur, e1, _⟩
  · omega
  · injection e1 with e1
    subst e1
    refine ⟨g, 0, rfl, fun j u hu => ?_⟩
    have := h.cells (g := g) rfl (i * 2 + j) u (flat_at encD_length hx hu)
    rw [add_row] at this
    rw [Nat.zero_add]
    rw [Nat.zero_add] at this
    exact this
/-- Which write comes first? -/
def cfD (p q : DotM) : Int := or2 (cmpZ (p.1 : Int) (q.1 : Int)) (cmpZ (p.2 : Int) (q.2 : Int))
theorem cfD_lt (p q : DotM) : cfD p q < 0 ↔ dLt p q := by
  obtain ⟨a, b⟩ := p
  obtain ⟨x, y⟩ := q
  unfold cfD or2 cmpZ dLt
  simp only
  rcases Nat.lt_trichotomy a x with h1 | h1 | h1 <;> rcases Nat.lt_trichotomy b y with h2 | h2 | h2 <;>
    (have i1 : (a : Int) < x ↔ a < x := Int.ofNat_lt) <;> (have i2 : (x : Int) < a ↔ x < a := Int.ofNat_lt) <;> (have i3 : (b : Int) < y ↔ b < y := Int.ofNat_lt) <;> (have i4 : (y : Int) < b ↔ y < b := Int.ofNat_lt) <;>
    simp only [i1, i2, i3, i4] <;> (repeat' split) <;> omega
theorem ltD (p q : DotM) : ltOf cfD p q = decide (dLt p q) := by
  unfold ltOf
  exact decide_eq_decide.2 (cfD_lt p q)
theorem swoD : Go.Sort.SWO (ltOf cfD) where
  irrefl x := by rw [ltD]; exact decide_eq_false (dLt_irrefl x)
  trans x y z h1 h2 := by rw [ltD] at *; simp only [decide_eq_true_eq] at *; exact dLt_trans h1 h2
  ntrans x y z h1 h2 := by
    rw [ltD] at *
    simp only [decide_eq_false_iff_not] at *
    unfold dLt at *
    omega
/-- What the sort leaves. -/
def DotsQ (L : List DotM) (g n B : Nat) (w : World) (e : Ending) (w' : World) : Prop := e = .returned (.tuple #[]) ∧ ∃ L' : List DotM, L'.Perm L ∧ (L'.Pairwise fun p q => ¬ dLt q p) ∧ DotsR w' (some ⟨g, 0, none⟩) n L' ∧ Below B w w' ∧ ∀ i, i < w.heap.size → i ≠ g → w'.heap[i]? = w.heap[i]?
theorem cmpLays_dord (blk off size : Nat) (w : World) : CmpLays Tryz.prog 90 #[] encD 2 cfD blk off size w :=
  fun _ _ _ _ x y => (ordD_any (x.1 : Int) (x.2 : Int) (y.1 : Int) (y.2 : Int) _).mono fun _ _ ⟨he, hw⟩ => ⟨he, hw⟩
set_option maxRecDepth 100000 in
theorem sort_dord {w : World} {B g n c : Nat} {L : List DotM} (hl : L.length = n) (hn : n ≤ 1000000) (hB : B ≤ g) (h : w.ownsRow B 39 2 (.slice (some ⟨g, 0, none⟩) n c) n (L.flatMap encD)) :
    Calls Tryz.prog 32 #[.slice (some ⟨g, 0, none⟩) n c, .func (.func 90) #[] #[]] w fun e w' => DotsQ L g n B w e w' := by
  have hH := holds_of_ownG encD_length (by omega) hl h
  have hgl : g < w.heap.size := own_lt h _ rfl
  obtain ⟨d, hd⟩ : ∃ d, d = L.toArray := ⟨_, rfl⟩
  have hds : d.size = n := by rw [hd]; simpa using hl
  have hdl : d.toList = L := by rw [hd]
  rw [← hd] at hH
  have eg : ∀ args w, (callFunc 90 args).run Tryz.prog w = .ok (.enter 90 args) w := enters_of Tryz.func90 (by kernel_rfl) rfl
  have hcon := AnyQ.slices_SortFunc DotSort 2 Tryz.isAgg39 Tryz.sizeOf39 encD encD_length (fun x v hv => encD_one x v hv) cfD swoD 90 #[] g 0 c d w eg (cmpLays_dord g 0 d.size w) hH hgl (by omega)
  change Calls Tryz.prog 32 _ _ _ at hcon
  rw [hds] at hcon
  refine hcon.mono ?_
  rintro e w' ⟨rfl, d', m, os, ⟨hs', _, hp⟩, hS, rfl⟩
  have hH' := holdsK_sortWorldK_c (enc := encD) (k := 2) (w := w) (blk := g) (off := 0) (d := d) (dk := d') (m := m) (os := os) (hH := hH) (hblk := hgl) (hs := hs')
  have hperm : d'.toList.Perm L := by
    have e1 : d'.extract 0 n = d' := by rw [← hds, ← hs']; simp
    have e2 : d.extract 0 n = d := by rw [← hds]; simp
    rw [e1, e2, hdl] at hp
    exact hp
  refine ⟨rfl, d'.toList, hperm, ?_, ⟨by simp [hs', hds], fun i x hx => ⟨g, 0, rfl, fun j u hu => by rw [Nat.zero_add]; exact cells_of_holds encD_length hH' hx hu⟩⟩, sortG_below hB hgl, fun i hi hne => sortG_other hi hne⟩
  rw [List.pairwise_iff_getElem]
  intro i j hi hj hij
  have hi' : i < d'.size := by simpa using hi
  have hj' : j < d'.size := by simpa using hj
  have := hS i j (Nat.zero_le _) hij (by omega)
  rw [ltD, decide_eq_false_iff_not] at this
  have g1 : d'[i]! = d'.toList[i] := by simp [hi']
  have g2 : d'[j]! = d'.toList[j] := by simp [hj']
  rw [g1, g2] at this
  exact this
theorem cmpLays_seen (blk off size : Nat) (w : World) : CmpLays Tryz.prog 33 #[] encD 2 cfD blk off size w :=
  fun _ _ _ _ x y => (ordS_any (x.1 : Int) (x.2 : Int) (y.1 : Int) (y.2 : Int) _).mono fun _ _ ⟨he, hw⟩ => ⟨he, hw⟩
set_option maxRecDepth 100000 in
theorem sort_seen {w : World} {B g n c : Nat} {L : List DotM} (hl : L.length = n) (hn : n ≤ 1000000) (hB : B ≤ g) (h : w.ownsRow B 39 2 (.slice (some ⟨g, 0, none⟩) n c) n (L.flatMap encD)) :
    Calls Tryz.prog 32 #[.slice (some ⟨g, 0, none⟩) n c, .func (.func 33) #[] #[]] w fun e w' => DotsQ L g n B w e w' := by
  have hH := holds_of_ownG encD_length (by omega) hl h
  have hgl : g < w.heap.size := own_lt h _ rfl
  obtain ⟨d, hd⟩ : ∃ d, d = L.toArray := ⟨_, rfl⟩
  have hds : d.size = n := by rw [hd]; simpa using hl
  have hdl : d.toList = L := by rw [hd]
  rw [← hd] at hH
  have eg : ∀ args w, (callFunc 33 args).run Tryz.prog w = .ok (.enter 33 args) w := enters_of Tryz.func33 (by kernel_rfl) rfl
  have hcon := AnyQ.slices_SortFunc DotSort 2 Tryz.isAgg39 Tryz.sizeOf39 encD encD_length (fun x v hv => encD_one x v hv) cfD swoD 33 #[] g 0 c d w eg (cmpLays_seen g 0 d.size w) hH hgl (by omega)
  change Calls Tryz.prog 32 _ _ _ at hcon
  rw [hds] at hcon
  refine hcon.mono ?_
  rintro e w' ⟨rfl, d', m, os, ⟨hs', _, hp⟩, hS, rfl⟩
  have hH' := holdsK_sortWorldK_c (enc := encD) (k := 2) (w := w) (blk := g) (off := 0) (d := d) (dk := d') (m := m) (os := os) (hH := hH) (hblk := hgl) (hs := hs')
  have hperm : d'.toList.Perm L := by
    have e1 : d'.extract 0 n = d' := by rw [← hds, ← hs']; simp
    have e2 : d.extract 0 n = d := by rw [← hds]; simp
    rw [e1, e2, hdl] at hp
    exact hp
  refine ⟨rfl, d'.toList, hperm, ?_, ⟨by simp [hs', hds], fun i x hx => ⟨g, 0, rfl, fun j u hu => by rw [Nat.zero_add]; exact cells_of_holds encD_length hH' hx hu⟩⟩, sortG_below hB hgl, fun i hi hne => sortG_other hi hne⟩
  rw [List.pairwise_iff_getElem]
  intro i j hi hj hij
  have hi' : i < d'.size := by simpa using hi
  have hj' : j < d'.size := by simpa using hj
  have := hS i j (Nat.zero_le _) hij (by omega)
  rw [ltD, decide_eq_false_iff_not] at this
  have g1 : d'[i]! = d'.toList[i] := by simp [hi']
  have g2 : d'[j]! = d'.toList[j] := by simp [hj']
  rw [g1, g2] at this
  exact this
end Go.Proofs.YteckblffpidigaaGreatDoor
