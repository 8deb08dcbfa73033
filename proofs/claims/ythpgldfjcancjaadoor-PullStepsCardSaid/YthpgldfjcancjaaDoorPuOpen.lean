/- A row of the law's rows (three numbers each), handed in, opened. No condition. -/
import Derived.Deep.Slices
import Derived.Test.YthpgldfjcancjaaDoorKitM
import Derived.Test.YthpgldfjcancjaaDoorPuTrees
namespace Go.Proofs.YthpgldfjcancjaaDoor
open Go.ChangeShapes Go.WideShapes Go.ChangeAt Go.RowKit
theorem open_int_cells {H : Type} {enc : TypeId × Value → H} {P : Program} {w : World} {base : Nat} {held : Bool} {spare : Nat → Bool} {t : TypeId} {k : IntKind} {fuel : Nat} {cs : List Value} {x : DataW H × List MemPlace} (ht : P.underlying t = some (.int k)) (hf : DataW.trod enc P w base spare held fuel t cs = some x) : ∃ z, cs = [.int k z] := by
  cases fuel with
  | zero => simp [DataW.trod] at hf
  | succ n =>
    unfold DataW.trod at hf
    rw [ht] at hf
    split at hf <;> simp_all
theorem spot_none {w : World} {a : Addr} {u : Value} (h : w.cell? a = some u) : a.spot = none := by
  unfold World.cell? at h
  split at h
  · cases hs : a.spot with
    | none => rfl
    | some q => simp [hs] at h
  · simp at h
theorem rowMC_length (a : RowM) : (rowMC a).length = 3 := rfl
section
variable {H : Type} {enc : TypeId × Value → H} {w : World} {base : Nat} {held : Bool}
set_option maxRecDepth 100000 in
set_option maxHeartbeats 1000000 in
theorem open_row_cells {fuel : Nat} {cs : List Value} {x : DataW H × List MemPlace} (hf : DataW.trod enc Tryd.prog w base (fun _ => true) held fuel 60 cs = some x) : ∃ a : RowM, cs = rowMC a := by
  obtain ⟨xs, n, _, _, hl, hxl, hel⟩ := DataW.trod_struct Tryd.underlying60 hf
  have hc8 : Tryd.prog.cellsOf 60 = 3 := by kernel_rfl
  have hci : Tryd.prog.cellsOf 3 = 1 := by kernel_rfl
  rw [hc8] at hl
  have hxl : xs.length = 3 := by simpa using hxl
  match xs, hxl with
  | [y0, y1, y2], _ =>
    have h0 : DataW.trod enc Tryd.prog w base (fun _ => true) held n 3 ((cs.drop 0).take (Tryd.prog.cellsOf 3)) = some y0 := hel 0 _ rfl
    rw [hci] at h0
    have h1 : DataW.trod enc Tryd.prog w base (fun _ => true) held n 3 ((cs.drop 1).take (Tryd.prog.cellsOf 3)) = some y1 := hel 1 _ rfl
    rw [hci] at h1
    have h2 : DataW.trod enc Tryd.prog w base (fun _ => true) held n 3 ((cs.drop 2).take (Tryd.prog.cellsOf 3)) = some y2 := hel 2 _ rfl
    rw [hci] at h2
    obtain ⟨zk, e0⟩ := open_int_cells Tryd.underlying3 h0
    obtain ⟨zd, e1⟩ := open_int_cells Tryd.underlying3 h1
    obtain ⟨ze, e2⟩ := open_int_cells Tryd.underlying3 h2
    refine ⟨⟨zk, zd, ze⟩, ?_⟩
    match cs, hl with
    | [a, b, c], _ =>
      have q0 : [a] = [Value.int .i64 zk] := e0
      have q1 : [b] = [Value.int .i64 zd] := e1
      have q2 : [c] = [Value.int .i64 ze] := e2
      injection q0 with q0
      injection q1 with q1
      injection q2 with q2
      rw [q0, q1, q2]
      rfl
set_option maxRecDepth 100000 in
theorem open_rows3 {r : Reach} {b0 : Nat} {v : Value} {d : DataW H} {p : List MemPlace} (hv : Value.okWide Tryd.prog w r b0 22 v) (h : DataW.Trod enc Tryd.prog w base (fun _ => true) held 22 v d p) :
    ∃ A n c f, v = .slice A n c ∧ n ≤ c ∧ Rows3 w A n f := by
  have c8 : Tryd.prog.cellsOf 60 = 3 := by kernel_rfl
  obtain ⟨A, n, c, rfl⟩ := okWide_slice Tryd.underlying22 hv
  obtain ⟨fuel, hf⟩ := h
  rcases Deep.open_slice Tryd.underlying22 hf with ⟨hcs, _⟩ | ⟨x, l, c', m, k, D, Pl, hcs, _, hl, _, hmm, _, hr⟩
  · simp [Value.cells] at hcs
    obtain ⟨rfl, rfl, rfl⟩ := hcs
    exact ⟨none, 0, 0, fun _ => ⟨0, 0, 0⟩, rfl, Nat.le_refl _, fun i hi => absurd hi (by omega)⟩
  · simp [Value.cells] at hcs
    obtain ⟨rfl, rfl, rfl⟩ := hcs
    simp only [if_true] at hmm
    subst hmm
    have key : ∀ i, ∃ a : RowM, i < n → ∃ b o, x = ⟨b, o, none⟩ ∧ w.rangeAt b (o + i * 3) (rowMC a) := fun i => by
      by_cases hi : i < n
      · obtain ⟨cs, h1, h2⟩ := hr i (by omega)
        rw [c8] at h1
        obtain ⟨_, h3, h4⟩ := World.cells?_some h1
        obtain ⟨a, ha⟩ := open_row_cells h2
        have hs : x.spot = none := by
          obtain ⟨cs0, g1, q2⟩ := hr 0 (by omega)
          rw [c8] at g1
          obtain ⟨_, g3, g4⟩ := World.cells?_some g1
          obtain ⟨a0, ha0⟩ := open_row_cells q2
          have g0 := g4 0 (by omega)
          rw [Nat.zero_mul, add_zero_, add_zero_, ha0] at g0
          exact spot_none (u := .int .i64 a0.key) g0
        obtain ⟨b, o, s⟩ := x
        simp only at hs
        subst hs
        refine ⟨a, fun _ => ⟨b, o, rfl, fun j u hu => ?_⟩⟩
        have hj : j < 3 := by
          have := (List.getElem?_eq_some_iff.1 hu).1
          rwa [rowMC_length] at this
        have h6 := h4 j hj
        rw [ha, hu] at h6
        rw [← h6]
        congr 1
        rw [Deep.add_add, add_row, Nat.add_assoc]
      · exact ⟨⟨0, 0, 0⟩, fun h => absurd h hi⟩
    refine ⟨_, _, _, fun i => Classical.choose (key i), rfl, hl, fun i hi => ?_⟩
    obtain ⟨b, o, e, h7⟩ := Classical.choose_spec (key i) hi
    exact ⟨b, o, by rw [e], h7⟩
end
end Go.Proofs.YthpgldfjcancjaaDoor
