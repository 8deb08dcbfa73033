/- slices.SortFunc at names of 32 bytes: sorted byte by byte. No condition. -/
import Derived.Test.YthpgldfjcancjaaDoorMkCmp
import Derived.Test.YthpgldfjcancjaaDoorKitN
import Derived.Test.YthpgldfjcancjaaDoorKitM
namespace Go.Proofs.YthpgldfjcancjaaDoor
open Go.RowKit
def cfN (x y : Nm) : Int := Lib.compareBytes x.1 y.1
theorem swoN : Go.Sort.SWO (ltOf cfN) where
  irrefl x := by
    unfold ltOf cfN
    rw [cb_refl]
    rfl
  trans x y z h1 h2 := by
    unfold ltOf cfN at *
    simp only [decide_eq_true_eq] at *
    exact cb_trans h1 h2
  ntrans x y z h1 h2 := by
    unfold ltOf cfN at *
    simp only [decide_eq_false_iff_not] at *
    intro h3
    have a1 := cb_anti x.1 y.1
    have a2 := cb_anti y.1 z.1
    rcases Int.lt_or_le (Lib.compareBytes z.1 y.1) 0 with h4 | h4
    · exact h1 (cb_trans h3 h4)
    · have e : y.1 = z.1 := cb_zero (by omega)
      rw [← e] at h3
      exact h1 h3
theorem cmpLaysN (blk off size : Nat) (w : World) : CmpLays Tryd.prog 30 #[] encN 32 cfN blk off size w :=
  fun _ _ _ _ x y => (order_any x.1 y.1 x.2 y.2 _).mono fun _ _ ⟨he, hw⟩ => ⟨he, hw⟩
/-- Names in memory. -/
def NmR (w : World) (A : Option Addr) (n : Nat) (L : List Nm) : Prop := L.length = n ∧ ∀ i x, L[i]? = some x → ∃ b, A = some ⟨b, 0, none⟩ ∧ w.rangeAt b (i * 32) (encN x)
theorem NmR.gr {w w' : World} {A : Option Addr} {n : Nat} {L : List Nm} (h : NmR w A n L) (hG : Gr w w') : NmR w' A n L :=
  ⟨h.1, fun i x hx => by
    obtain ⟨b, e, hr⟩ := h.2 i x hx
    exact ⟨b, e, fun j u hu => (Below.cell hG (lt_of_cell (hr j u hu))).trans (hr j u hu)⟩⟩
section
variable {α : Type} [Inhabited α] {enc : α → List Value} {k : Nat}
theorem holds_of_ownG (hk : ∀ x, (enc x).length = k) (hk0 : 0 < k) {w : World} {B g n c : Nat} {e : TypeId} {L : List α} (hl : L.length = n) (h : w.ownsRow B e k (.slice (some ⟨g, 0, none⟩) n c) n (L.flatMap enc)) : Go.Sort.HoldsK enc k w g 0 L.toArray := by
  intro t ht
  rw [Go.Sort.size_flatK] at ht
  have ht' : t < n * k := by simpa [hl] using ht
  have hc := h.cells (g := g) rfl
  obtain ⟨cur, hcur⟩ : ∃ cur, w.heap[g]? = some (.cells cur e (0, 0)) := by
    rcases h.2 with ⟨e, _⟩ | ⟨g', cap, cur, e1, _, h2, _⟩
    · cases e
    · injection e1 with e1
      injection e1 with e1
      injection e1 with e1
      subst e1
      exact ⟨cur, h2⟩
  refine ⟨?_, frozen_of_row w g _ cur _ hcur⟩
  have hi : t / k < L.length := by rw [hl]; exact (Nat.div_lt_iff_lt_mul hk0).2 ht'
  have hj : t % k < k := Nat.mod_lt _ hk0
  have hg : (L.flatMap enc)[t]? = some ((Go.Sort.flatK enc k L.toArray)[t]!) := by
    rw [Go.Sort.get_flatK _ _ _ t ht]
    have e0 : t = t / k * k + t % k := by rw [Nat.mul_comm]; exact (Nat.div_add_mod t k).symm
    conv => lhs; rw [e0]
    rw [flat_get hk L (t / k) (t % k) hj, List.getElem?_eq_getElem hi]
    have e3 : L.toArray[t / k]! = L[t / k] := by simp [hi]
    rw [e3]
    have hm : t % k < (enc L[t / k]).length := by rw [hk]; exact hj
    show (enc L[t / k])[t % k]? = _
    rw [List.getElem?_eq_getElem hm, List.getElem!_eq_getElem?_getD, List.getElem?_eq_getElem hm]
    rfl
  have := hc t _ hg
  rw [add_row] at this
  exact this
theorem cells_of_holds (hk : ∀ x, (enc x).length = k) {w : World} {g : Nat} {d : Array α} (h : Go.Sort.HoldsK enc k w g 0 d) {i j : Nat} {x : α} {u : Value} (hx : d.toList[i]? = some x) (hu : (enc x)[j]? = some u) : w.cell? ⟨g, i * k + j, none⟩ = some u := by
  have hi : i < d.size := by
    have := (List.getElem?_eq_some_iff.1 hx).1
    simpa using this
  have hj : j < k := by
    have := (List.getElem?_eq_some_iff.1 hu).1
    rwa [hk] at this
  have ht : i * k + j < d.size * k := by
    have := Nat.mul_le_mul_right k (show i + 1 ≤ d.size by omega)
    rw [Nat.add_mul] at this
    omega
  have h1 := (h (i * k + j) (by rw [Go.Sort.size_flatK]; exact ht)).1
  rw [Go.Sort.get_flatK _ _ _ _ ht, Nat.mul_comm i k, Nat.mul_add_div (by omega), Nat.div_eq_of_lt hj, Nat.add_zero, Nat.mul_add_mod, Nat.mod_eq_of_lt hj] at h1
  have hp' : d[i]! = x := by
    have : d[i]? = some x := by simpa using hx
    simp [getElem!_def, this]
  rw [hp', List.getElem!_eq_getElem?_getD, hu, Nat.zero_add, Nat.mul_comm k i] at h1
  exact h1
theorem heap_putRow_oth (f : α → Value) (w : World) (blk off : Nat) (d : Array α) {k : Nat} (h : k ≠ blk) : (Go.Sort.putRow f w blk off d).heap[k]? = w.heap[k]? := by
  unfold Go.Sort.putRow Go.Sort.mapBlock
  show (w.heap.modify blk _)[k]? = _
  rw [Array.getElem?_modify, if_neg (fun e => h e.symm)]
theorem sortG_other {w : World} {g m : Nat} {d : Array α} {os : Array Obj} {i : Nat} (hi : i < w.heap.size) (h : i ≠ g) : (sortWorldK enc k w g 0 m d os).heap[i]? = w.heap[i]? := by
  unfold sortWorldK
  rw [Go.Sort.heap_grow_old _ _ (by unfold Go.Sort.putRowK; rw [Go.Sort.size_putRow]; exact hi)]
  unfold Go.Sort.putRowK
  rw [heap_putRow_oth _ _ _ _ _ h]
  rfl
theorem sortG_below {w : World} {B g m : Nat} {d : Array α} {os : Array Obj} (hB : B ≤ g) (hg : g < w.heap.size) : Below B w (sortWorldK enc k w g 0 m d os) :=
  ⟨rfl, rfl, rfl, by unfold sortWorldK Go.Sort.putRowK; rw [Go.Sort.size_grow, Go.Sort.size_putRow]; exact Nat.le_add_right _ _, fun i hi => sortG_other (by omega) (by omega)⟩
end
/-- What the sort leaves. -/
def SortedQ (L : List Nm) (g n B : Nat) (w : World) (e : Ending) (w' : World) : Prop := e = .returned (.tuple #[]) ∧ ∃ L' : List Nm, (∀ x, x ∈ L' ↔ x ∈ L) ∧ (L'.Pairwise fun p q => ¬ Lib.compareBytes q.1 p.1 < 0) ∧ NmR w' (some ⟨g, 0, none⟩) n L' ∧ L'.Perm L ∧ Below B w w' ∧ ∀ i, i < w.heap.size → i ≠ g → w'.heap[i]? = w.heap[i]?
set_option maxRecDepth 100000 in
theorem sort_names {w : World} {B g n c : Nat} {L : List Nm} (hl : L.length = n) (hn : n ≤ 1000000) (hB : B ≤ g) (h : w.ownsRow B 51 32 (.slice (some ⟨g, 0, none⟩) n c) n (L.flatMap encN)) :
    Calls Tryd.prog 29 #[.slice (some ⟨g, 0, none⟩) n c, .func (.func 30) #[] #[]] w fun e w' => SortedQ L g n B w e w' := by
  have hH := holds_of_ownG encN_length (by omega) hl h
  have hgl : g < w.heap.size := own_lt h _ rfl
  obtain ⟨d, hd⟩ : ∃ d, d = L.toArray := ⟨_, rfl⟩
  have hds : d.size = n := by rw [hd]; simpa using hl
  have hdl : d.toList = L := by rw [hd]
  rw [← hd] at hH
  have eg : ∀ args w, (callFunc 30 args).run Tryd.prog w = .ok (.enter 30 args) w := enters_of Tryd.func30 (by kernel_rfl) rfl
  have hcon := AnyQ.slices_SortFunc BlindSort 32 Tryd.isAgg51 Tryd.sizeOf51 encN encN_length (fun x v hv => u8s_oneCell _ v hv) cfN swoN 30 #[] g 0 c d w eg (cmpLaysN g 0 d.size w) hH hgl (by omega)
  change Calls Tryd.prog 29 _ _ _ at hcon
  rw [hds] at hcon
  refine hcon.mono ?_
  rintro e w' ⟨rfl, d', m, os, ⟨hs', _, hp⟩, hS, rfl⟩
  have hH' := holdsK_sortWorldK_c (enc := encN) (k := 32) (w := w) (blk := g) (off := 0) (d := d) (dk := d') (m := m) (os := os) (hH := hH) (hblk := hgl) (hs := hs')
  have hperm : d'.toList.Perm L := by
    have e1 : d'.extract 0 n = d' := by rw [← hds, ← hs']; simp
    have e2 : d.extract 0 n = d := by rw [← hds]; simp
    rw [e1, e2, hdl] at hp
    exact hp
  refine ⟨rfl, d'.toList, fun x => hperm.mem_iff, ?_, ⟨by simp [hs', hds], fun i x hx => ⟨g, rfl, fun j u hu => cells_of_holds encN_length hH' hx hu⟩⟩, hperm, sortG_below hB hgl, fun i hi hne => sortG_other hi hne⟩
  rw [List.pairwise_iff_getElem]
  intro i j hi hj hij
  have hi' : i < d'.size := by simpa using hi
  have hj' : j < d'.size := by simpa using hj
  have := hS i j (Nat.zero_le _) hij (by omega)
  unfold ltOf cfN at this
  rw [decide_eq_false_iff_not] at this
  have g1 : d'[i]! = d'.toList[i] := by simp [hi']
  have g2 : d'[j]! = d'.toList[j] := by simp [hj']
  rw [g1, g2] at this
  exact this
end Go.Proofs.YthpgldfjcancjaaDoor
