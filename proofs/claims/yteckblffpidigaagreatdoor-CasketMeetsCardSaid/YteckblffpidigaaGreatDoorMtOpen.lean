/- Turns of the law, a row of them, handed in, opened. No condition. -/
import Derived.Deep.Slices
import Derived.Test.YteckblffpidigaaGreatDoorKitM
import Derived.Test.YteckblffpidigaaGreatDoorMtLawM
namespace Go.Proofs.YteckblffpidigaaGreatDoor
open Go.ChangeShapes Go.WideShapes Go.ChangeAt Go.RowKit
theorem open_int_cells {H : Type} {enc : TypeId × Value → H} {P : Program} {w : World} {base : Nat} {held : Bool} {spare : Nat → Bool} {t : TypeId} {k : IntKind} {fuel : Nat} {cs : List Value} {x : DataW H × List MemPlace} (ht : P.underlying t = some (.int k)) (hf : DataW.trod enc P w base spare held fuel t cs = some x) : ∃ z, cs = [.int k z] := by
  cases fuel with
  | zero => simp [DataW.trod] at hf
  | succ n =>
    unfold DataW.trod at hf
    rw [ht] at hf
    split at hf <;> simp_all
theorem open_bool_cells {H : Type} {enc : TypeId × Value → H} {P : Program} {w : World} {base : Nat} {held : Bool} {spare : Nat → Bool} {t : TypeId} {fuel : Nat} {cs : List Value} {x : DataW H × List MemPlace} (ht : P.underlying t = some .bool) (hf : DataW.trod enc P w base spare held fuel t cs = some x) : ∃ z, cs = [.bool z] := by
  cases fuel with
  | zero => simp [DataW.trod] at hf
  | succ n =>
    unfold DataW.trod at hf
    rw [ht] at hf
    split at hf <;> simp_all
theorem spot_none {w : World} {a : Addr} {u : Value} (h : w.cell? a = some u) : a.spot = none := by
  unfold World.cell? at h
  split at h
  · cases hs : a.spot with
    | none => rfl
    | some q => simp [hs] at h
  · simp at h
section
variable {H : Type} {enc : TypeId × Value → H} {w : World} {base : Nat} {held : Bool}
set_option maxRecDepth 100000 in
set_option maxHeartbeats 1000000 in
theorem open_turn_cells {fuel : Nat} {cs : List Value} {x : DataW H × List MemPlace} (hf : DataW.trod enc Tryz.prog w base (fun _ => true) held fuel 29 cs = some x) : ∃ a : TrnM, cs = trnC a := by
  obtain ⟨xs, n, _, _, hl, hxl, hel⟩ := DataW.trod_struct Tryz.underlying29 hf
  have hc8 : Tryz.prog.cellsOf 29 = 5 := by kernel_rfl
  have hci : Tryz.prog.cellsOf 3 = 1 := by kernel_rfl
  have hcb : Tryz.prog.cellsOf 4 = 1 := by kernel_rfl
  rw [hc8] at hl
  have hxl : xs.length = 5 := by simpa using hxl
  match xs, hxl with
  | [y0, y1, y2, y3, y4], _ =>
    have h0 : DataW.trod enc Tryz.prog w base (fun _ => true) held n 4 ((cs.drop 0).take (Tryz.prog.cellsOf 4)) = some y0 := hel 0 _ rfl
    rw [hcb] at h0
    have h1 : DataW.trod enc Tryz.prog w base (fun _ => true) held n 3 ((cs.drop 1).take (Tryz.prog.cellsOf 3)) = some y1 := hel 1 _ rfl
    rw [hci] at h1
    have h2 : DataW.trod enc Tryz.prog w base (fun _ => true) held n 3 ((cs.drop 2).take (Tryz.prog.cellsOf 3)) = some y2 := hel 2 _ rfl
    rw [hci] at h2
    have h3 : DataW.trod enc Tryz.prog w base (fun _ => true) held n 3 ((cs.drop 3).take (Tryz.prog.cellsOf 3)) = some y3 := hel 3 _ rfl
    rw [hci] at h3
    have h4 : DataW.trod enc Tryz.prog w base (fun _ => true) held n 4 ((cs.drop 4).take (Tryz.prog.cellsOf 4)) = some y4 := hel 4 _ rfl
    rw [hcb] at h4
    obtain ⟨z0, e0⟩ := open_bool_cells Tryz.underlying4 h0
    obtain ⟨z1, e1⟩ := open_int_cells Tryz.underlying3 h1
    obtain ⟨z2, e2⟩ := open_int_cells Tryz.underlying3 h2
    obtain ⟨z3, e3⟩ := open_int_cells Tryz.underlying3 h3
    obtain ⟨z4, e4⟩ := open_bool_cells Tryz.underlying4 h4
    refine ⟨⟨z0, z1, z2, z3, z4⟩, ?_⟩
    match cs, hl with
    | [a, b, c, d, e], _ =>
      simp at e0 e1 e2 e3 e4
      rw [e0, e1, e2, e3, e4]
      rfl
set_option maxRecDepth 100000 in
theorem open_turns {r : Reach} {b0 : Nat} {v : Value} {d : DataW H} {p : List MemPlace} (hv : Value.okWide Tryz.prog w r b0 22 v) (h : DataW.Trod enc Tryz.prog w base (fun _ => true) held 22 v d p) :
    ∃ A n c f, v = .slice A n c ∧ n ≤ c ∧ TrnRow w A n f := by
  have c8 : Tryz.prog.cellsOf 29 = 5 := by kernel_rfl
  obtain ⟨A, n, c, rfl⟩ := okWide_slice Tryz.underlying22 hv
  obtain ⟨fuel, hf⟩ := h
  rcases Deep.open_slice Tryz.underlying22 hf with ⟨hcs, _⟩ | ⟨x, l, c', m, k, D, Pl, hcs, _, hl, _, hmm, _, hr⟩
  · simp [Value.cells] at hcs
    obtain ⟨rfl, rfl, rfl⟩ := hcs
    exact ⟨none, 0, 0, fun _ => ⟨false, 0, 0, 0, false⟩, rfl, Nat.le_refl _, fun i hi => absurd hi (by omega)⟩
  · simp [Value.cells] at hcs
    obtain ⟨rfl, rfl, rfl⟩ := hcs
    simp only [if_true] at hmm
    subst hmm
    have key : ∀ i, ∃ a : TrnM, i < n → ∃ b o, x = ⟨b, o, none⟩ ∧ w.rangeAt b (o + i * 5) (trnC a) := fun i => by
      by_cases hi : i < n
      · obtain ⟨cs, h1, h2⟩ := hr i (by omega)
        rw [c8] at h1
        obtain ⟨_, h3, h4⟩ := World.cells?_some h1
        obtain ⟨a, ha⟩ := open_turn_cells h2
        have hs : x.spot = none := by
          obtain ⟨cs0, g1, q2⟩ := hr 0 (by omega)
          rw [c8] at g1
          obtain ⟨_, g3, g4⟩ := World.cells?_some g1
          obtain ⟨a0, ha0⟩ := open_turn_cells q2
          have g0 := g4 0 (by omega)
          rw [Nat.zero_mul, add_zero_, add_zero_, ha0] at g0
          exact spot_none (u := .bool a0.take) g0
        obtain ⟨b, o, s⟩ := x
        simp only at hs
        subst hs
        refine ⟨a, fun _ => ⟨b, o, rfl, fun j u hu => ?_⟩⟩
        have hj : j < 5 := (List.getElem?_eq_some_iff.1 hu).1
        have h6 := h4 j hj
        rw [ha, hu] at h6
        rw [← h6]
        congr 1
        rw [Deep.add_add, add_row, Nat.add_assoc]
      · exact ⟨⟨false, 0, 0, 0, false⟩, fun h => absurd h hi⟩
    refine ⟨_, _, _, fun i => Classical.choose (key i), rfl, hl, fun i hi => ?_⟩
    obtain ⟨b, o, e, h7⟩ := Classical.choose_spec (key i) hi
    exact ⟨b, o, by rw [e], h7⟩
end
end Go.Proofs.YteckblffpidigaaGreatDoor
