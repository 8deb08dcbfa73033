/- A row of acts, handed in, opened. No condition. -/
import Derived.Deep.Slices
import Derived.Test.YtnmhfomnlnlflaaDoorOpenAct
import Derived.Test.YtnmhfomnlnlflaaDoorKitB
namespace Go.Proofs.YtnmhfomnlnlflaaDoor
open Go.ChangeShapes Go.WideShapes Go.ChangeAt Go.RowKit
/-- A row of acts in memory. -/
def Acts (w : World) (A : Option Addr) (n : Nat) : Prop := ∀ i, i < n → ∃ b o cs, A = some ⟨b, o, none⟩ ∧ ActQ w cs ∧ ∀ j u, cs[j]? = some u → w.cell? ⟨b, o + i * 8 + j, none⟩ = some u
theorem spot_none {w : World} {a : Addr} {u : Value} (h : w.cell? a = some u) : a.spot = none := by
  unfold World.cell? at h
  split at h
  · cases hs : a.spot with
    | none => rfl
    | some q => simp [hs] at h
  · simp at h
theorem actQ_length {w : World} {cs : List Value} (h : ActQ w cs) : cs.length = 8 := by
  obtain ⟨_, _, _, _, _, _, _, _, _, _, _, _, _, _, rfl, _⟩ := h
  rfl
section
variable {H : Type} {enc : TypeId × Value → H} {w : World} {base : Nat} {held : Bool}
set_option maxRecDepth 100000 in
theorem open_acts {r : Reach} {b0 : Nat} {v : Value} {d : DataW H} {p : List MemPlace} (hv : Value.okWide Tryd.prog w r b0 23 v) (h : DataW.Trod enc Tryd.prog w base (fun _ => true) held 23 v d p) :
    ∃ A n c, v = .slice A n c ∧ n ≤ c ∧ Acts w A n := by
  have c8 : Tryd.prog.cellsOf 29 = 8 := by kernel_rfl
  obtain ⟨A, n, c, rfl⟩ := okWide_slice Tryd.underlying23 hv
  obtain ⟨fuel, hf⟩ := h
  rcases Deep.open_slice Tryd.underlying23 hf with ⟨hcs, _⟩ | ⟨x, l, c', m, k, D, Pl, hcs, _, hl, _, hmm, _, hr⟩
  · simp [Value.cells] at hcs
    obtain ⟨rfl, rfl, rfl⟩ := hcs
    exact ⟨none, 0, 0, rfl, Nat.le_refl _, fun i hi => absurd hi (by omega)⟩
  · simp [Value.cells] at hcs
    obtain ⟨rfl, rfl, rfl⟩ := hcs
    simp only [if_true] at hmm
    subst hmm
    refine ⟨_, _, _, rfl, hl, fun i hi => ?_⟩
    obtain ⟨cs, h1, h2⟩ := hr i (by omega)
    rw [c8] at h1
    obtain ⟨_, h3, h4⟩ := World.cells?_some h1
    have hq := open_act_cells h2
    have hs : x.spot = none := by
      obtain ⟨cs0, g1, _⟩ := hr 0 (by omega)
      rw [c8] at g1
      obtain ⟨_, g3, g4⟩ := World.cells?_some g1
      have g0 := g4 0 (by omega)
      rw [List.getElem?_eq_getElem (by omega), Nat.zero_mul, add_zero_, add_zero_] at g0
      exact spot_none g0
    obtain ⟨b, o, s⟩ := x
    simp only at hs
    subst hs
    refine ⟨b, o, cs, rfl, hq, fun j u hu => ?_⟩
    have hj : j < 8 := by
      have := (List.getElem?_eq_some_iff.1 hu).1
      omega
    have h6 := h4 j hj
    rw [hu] at h6
    rw [← h6]
    congr 1
    rw [Deep.add_add, add_row, Nat.add_assoc]
end
theorem Acts.below {w w' : World} {A : Option Addr} {n : Nat} (h : Acts w A n) (hB : Below w.heap.size w w') : Acts w' A n := by
  intro i hi
  obtain ⟨b, o, cs, e, hq, hc⟩ := h i hi
  refine ⟨b, o, cs, e, ?_, fun j u hu => Gr.cell hB (hc j u hu)⟩
  obtain ⟨zw, ze, zc, zk, A, n, c, l, D, m, d, l2, zh, y, rfl, hnc, hmd, hr, hb⟩ := hq
  exact ⟨zw, ze, zc, zk, A, n, c, l, D, m, d, l2, zh, y, rfl, hnc, hmd, Gr.rd hB hr, Gr.rd hB hb⟩
end Go.Proofs.YtnmhfomnlnlflaaDoor
