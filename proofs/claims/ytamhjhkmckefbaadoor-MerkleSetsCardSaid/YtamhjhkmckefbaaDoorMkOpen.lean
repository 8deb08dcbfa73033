/- An act of the law, and a row of them, handed in, opened. No condition. -/
import Derived.Deep.Slices
import Derived.Test.YtamhjhkmckefbaaDoorKitM
import Derived.Test.YtamhjhkmckefbaaDoorMkAct
namespace Go.Proofs.YtamhjhkmckefbaaDoor
open Go.ChangeShapes Go.WideShapes Go.ChangeAt Go.RowKit
theorem open_int_cells {H : Type} {enc : TypeId × Value → H} {P : Program} {w : World} {base : Nat} {held : Bool} {spare : Nat → Bool} {t : TypeId} {k : IntKind} {fuel : Nat} {cs : List Value} {x : DataW H × List MemPlace} (ht : P.underlying t = some (.int k)) (hf : DataW.trod enc P w base spare held fuel t cs = some x) : ∃ z, cs = [.int k z] := by
  cases fuel with
  | zero => simp [DataW.trod] at hf
  | succ n =>
    unfold DataW.trod at hf
    rw [ht] at hf
    split at hf <;> simp_all
/-- A row of acts in memory. -/
def Acts (w : World) (A : Option Addr) (n : Nat) (f : Nat → ActM) : Prop := ∀ i, i < n → ∃ b o, A = some ⟨b, o, none⟩ ∧ w.rangeAt b (o + i * 34) (actC (f i))
theorem Acts.gr {w w' : World} {A : Option Addr} {n : Nat} {f : Nat → ActM} (h : Acts w A n f) (hG : Gr w w') : Acts w' A n f := fun i hi => by
  obtain ⟨b, o, e, hr⟩ := h i hi
  exact ⟨b, o, e, hG.range hr⟩
theorem spot_none {w : World} {a : Addr} {u : Value} (h : w.cell? a = some u) : a.spot = none := by
  unfold World.cell? at h
  split at h
  · cases hs : a.spot with
    | none => rfl
    | some q => simp [hs] at h
  · simp at h
section
variable {H : Type} {enc : TypeId × Value → H} {w : World} {base : Nat} {held : Bool}
set_option maxRecDepth 100000 in
set_option maxHeartbeats 1000000 in
theorem open_act_cells {fuel : Nat} {cs : List Value} {x : DataW H × List MemPlace} (hf : DataW.trod enc Tryd.prog w base (fun _ => true) held fuel 41 cs = some x) : ∃ a : ActM, cs = actC a := by
  obtain ⟨xs, n, _, _, hl, hxl, hel⟩ := DataW.trod_struct Tryd.underlying41 hf
  have hc8 : Tryd.prog.cellsOf 41 = 34 := by kernel_rfl
  have hci : Tryd.prog.cellsOf 3 = 1 := by kernel_rfl
  have hcb : Tryd.prog.cellsOf 30 = 32 := by kernel_rfl
  have hcu : Tryd.prog.cellsOf 5 = 1 := by kernel_rfl
  rw [hc8] at hl
  have hxl : xs.length = 3 := by simpa using hxl
  match xs, hxl with
  | [y0, y1, y2], _ =>
    have h0 : DataW.trod enc Tryd.prog w base (fun _ => true) held n 3 ((cs.drop 0).take (Tryd.prog.cellsOf 3)) = some y0 := hel 0 _ rfl
    rw [hci] at h0
    have h1 : DataW.trod enc Tryd.prog w base (fun _ => true) held n 3 ((cs.drop 1).take (Tryd.prog.cellsOf 3)) = some y1 := hel 1 _ rfl
    rw [hci] at h1
    have h2 : DataW.trod enc Tryd.prog w base (fun _ => true) held n 30 ((cs.drop 2).take (Tryd.prog.cellsOf 30)) = some y2 := hel 2 _ rfl
    rw [hcb] at h2
    obtain ⟨zk, e0⟩ := open_int_cells Tryd.underlying3 h0
    obtain ⟨zd, e1⟩ := open_int_cells Tryd.underlying3 h1
    obtain ⟨l, hl32, e2⟩ := open_cells Tryd.underlying30 Tryd.underlying5 hcu h2 (by simp [hl])
    refine ⟨⟨zk, zd, ⟨l, hl32⟩⟩, ?_⟩
    have h7 : cs = (cs.drop 0).take 1 ++ ((cs.drop 1).take 1 ++ (cs.drop 2).take 32) := by
      rw [List.take_of_length_le (l := cs.drop 2) (by simp [hl])]
      match cs, hl with
      | a :: b :: cs, _ => rfl
    rw [h7, e0, e1, e2]
    rfl
set_option maxRecDepth 100000 in
theorem open_act {r : Reach} {b0 : Nat} {v : Value} {d : DataW H} {p : List MemPlace} (hv : Value.okWide Tryd.prog w r b0 41 v) (h : DataW.Trod enc Tryd.prog w base (fun _ => true) held 41 v d p) :
    ∃ a : ActM, v = .agg (actC a).toArray := by
  obtain ⟨cs, rfl, _⟩ := okWide_struct Tryd.underlying41 hv
  obtain ⟨fuel, hf⟩ := h
  obtain ⟨a, ha⟩ := open_act_cells hf
  exact ⟨a, by rw [← ha]; simp [Value.cells]⟩
set_option maxRecDepth 100000 in
theorem open_acts {r : Reach} {b0 : Nat} {v : Value} {d : DataW H} {p : List MemPlace} (hv : Value.okWide Tryd.prog w r b0 22 v) (h : DataW.Trod enc Tryd.prog w base (fun _ => true) held 22 v d p) :
    ∃ A n c f, v = .slice A n c ∧ n ≤ c ∧ Acts w A n f := by
  have c8 : Tryd.prog.cellsOf 41 = 34 := by kernel_rfl
  obtain ⟨A, n, c, rfl⟩ := okWide_slice Tryd.underlying22 hv
  obtain ⟨fuel, hf⟩ := h
  rcases Deep.open_slice Tryd.underlying22 hf with ⟨hcs, _⟩ | ⟨x, l, c', m, k, D, Pl, hcs, _, hl, _, hmm, _, hr⟩
  · simp [Value.cells] at hcs
    obtain ⟨rfl, rfl, rfl⟩ := hcs
    exact ⟨none, 0, 0, fun _ => ⟨0, 0, ⟨Z32, rfl⟩⟩, rfl, Nat.le_refl _, fun i hi => absurd hi (by omega)⟩
  · simp [Value.cells] at hcs
    obtain ⟨rfl, rfl, rfl⟩ := hcs
    simp only [if_true] at hmm
    subst hmm
    have key : ∀ i, ∃ a : ActM, i < n → ∃ b o, x = ⟨b, o, none⟩ ∧ w.rangeAt b (o + i * 34) (actC a) := fun i => by
      by_cases hi : i < n
      · obtain ⟨cs, h1, h2⟩ := hr i (by omega)
        rw [c8] at h1
        obtain ⟨_, h3, h4⟩ := World.cells?_some h1
        obtain ⟨a, ha⟩ := open_act_cells h2
        have hs : x.spot = none := by
          obtain ⟨cs0, g1, q2⟩ := hr 0 (by omega)
          rw [c8] at g1
          obtain ⟨_, g3, g4⟩ := World.cells?_some g1
          obtain ⟨a0, ha0⟩ := open_act_cells q2
          have g0 := g4 0 (by omega)
          rw [Nat.zero_mul, add_zero_, add_zero_, ha0] at g0
          exact spot_none (u := .int .i64 a0.key) g0
        obtain ⟨b, o, s⟩ := x
        simp only at hs
        subst hs
        refine ⟨a, fun _ => ⟨b, o, rfl, fun j u hu => ?_⟩⟩
        have hj : j < 34 := by
          have := (List.getElem?_eq_some_iff.1 hu).1
          rwa [actC_length] at this
        have h6 := h4 j hj
        rw [ha, hu] at h6
        rw [← h6]
        congr 1
        rw [Deep.add_add, add_row, Nat.add_assoc]
      · exact ⟨⟨0, 0, ⟨Z32, rfl⟩⟩, fun h => absurd h hi⟩
    refine ⟨_, _, _, fun i => Classical.choose (key i), rfl, hl, fun i hi => ?_⟩
    obtain ⟨b, o, e, h7⟩ := Classical.choose_spec (key i) hi
    exact ⟨b, o, by rw [e], h7⟩
end
end Go.Proofs.YtamhjhkmckefbaaDoor
