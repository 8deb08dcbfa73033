/- slices.SortFunc at the ring's points: sorted by place, replica, number. No condition. -/
import Derived.Test.YtmcnnjcbgbdeeaaDoorRLess
import Derived.Test.YtmcnnjcbgbdeeaaDoorRingPlain
namespace Go.Proofs.YtmcnnjcbgbdeeaaDoor
open Go.RowKit Go.Sort Go.Shelf Go.Lib
/-- Which point comes first? -/
def cfP (p q : Nat × Nat × Nat) : Int := or3 (cmpZ p.1 q.1) (cmpZ p.2.1 q.2.1) (cmpZ p.2.2 q.2.2)
theorem cfP_lt (p q : Nat × Nat × Nat) : cfP p q < 0 ↔ p.1 < q.1 ∨ p.1 = q.1 ∧ (p.2.1 < q.2.1 ∨ p.2.1 = q.2.1 ∧ p.2.2 < q.2.2) := by
  obtain ⟨a, b, c⟩ := p
  obtain ⟨x, y, z⟩ := q
  unfold cfP or3 cmpZ
  simp only
  rcases Nat.lt_trichotomy a x with h1 | h1 | h1 <;> rcases Nat.lt_trichotomy b y with h2 | h2 | h2 <;> rcases Nat.lt_trichotomy c z with h3 | h3 | h3 <;>
    (have i1 : (a : Int) < x ↔ a < x := Int.ofNat_lt) <;> (have i2 : (x : Int) < a ↔ x < a := Int.ofNat_lt) <;> (have i3 : (b : Int) < y ↔ b < y := Int.ofNat_lt) <;> (have i4 : (y : Int) < b ↔ y < b := Int.ofNat_lt) <;> (have i5 : (c : Int) < z ↔ c < z := Int.ofNat_lt) <;> (have i6 : (z : Int) < c ↔ z < c := Int.ofNat_lt) <;>
    simp only [i1, i2, i3, i4, i5, i6] <;> (repeat' split) <;> omega
theorem ltP (p q : Nat × Nat × Nat) : ltOf cfP p q = decide (p.1 < q.1 ∨ p.1 = q.1 ∧ (p.2.1 < q.2.1 ∨ p.2.1 = q.2.1 ∧ p.2.2 < q.2.2)) := by
  unfold ltOf
  exact decide_eq_decide.2 (cfP_lt p q)
theorem swoP : SWO (ltOf cfP) where
  irrefl x := by rw [ltP]; simp
  trans x y z h1 h2 := by rw [ltP] at *; simp only [decide_eq_true_eq] at *; omega
  ntrans x y z h1 h2 := by rw [ltP] at *; simp only [decide_eq_false_iff_not] at *; omega
theorem cmpLaysP (blk off size : Nat) (w : World) : CmpLays Tryd.prog 19 #[] encP 3 cfP blk off size w :=
  fun _ _ _ _ x y => (less_any (x.1 : Int) (x.2.1 : Int) (x.2.2 : Int) (y.1 : Int) (y.2.1 : Int) (y.2.2 : Int) _).mono fun _ _ ⟨he, hw⟩ => ⟨he, hw⟩
theorem sort_pts (blk off cap : Nat) (d : Array (Nat × Nat × Nat)) (w : World) (hH : HoldsK encP 3 w blk off d) (hblk : blk < w.heap.size) (hsz : d.size < 4611686018427387904) :
    Calls Tryd.prog 18 #[.slice (some ⟨blk, off, none⟩) d.size cap, .func (.func 19) #[] #[]] w fun e w' => e = .returned (.tuple #[]) ∧ ∃ d' n os, PermIn 0 d.size d d' ∧ SortedIn (ltOf cfP) 0 d.size d' ∧ w' = sortWorldK encP 3 w blk off n d' os := by
  have eg : ∀ args w, (callFunc 19 args).run Tryd.prog w = .ok (.enter 19 args) w := enters_of Tryd.func19 (by kernel_rfl) rfl
  have hcon := AnyQ.slices_SortFunc RingSort 3 Tryd.isAgg53 Tryd.sizeOf53 encP (fun _ => rfl) (fun x v hv => by
    simp only [encP, List.mem_cons, List.not_mem_nil, or_false] at hv
    rcases hv with rfl | rfl | rfl <;> rfl) cfP swoP 19 #[] blk off cap d w eg (cmpLaysP blk off d.size w) hH hblk hsz
  change Calls Tryd.prog 18 _ _ _ at hcon
  exact hcon
end Go.Proofs.YtmcnnjcbgbdeeaaDoor
