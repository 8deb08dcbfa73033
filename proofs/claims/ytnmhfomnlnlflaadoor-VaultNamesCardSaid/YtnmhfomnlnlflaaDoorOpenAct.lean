/- An act of the law, opened. No condition. -/
import Derived.Test.YtnmhfomnlnlflaaDoorOpen4
namespace Go.Proofs.YtnmhfomnlnlflaaDoor
open Go.ChangeShapes Go.WideShapes Go.ChangeAt Go.RowKit
/-- An act, as it is handed in. -/
def actC (zw ze zc zk : Int) (A : Option Addr) (n c : Nat) (D : Option Addr) (m d : Nat) (zh : Int) (y : UInt8) : List Value := [.int .i64 zw, .int .i64 ze, .int .i64 zc, .int .i64 zk, .slice A n c, .slice D m d, .int .i64 zh, .int .u8 (y.toNat : Int)]
section
variable {H : Type} {enc : TypeId × Value → H} {P : Program} {w : World} {base : Nat} {held : Bool}
theorem open_int_cells {spare : Nat → Bool} {t : TypeId} {k : IntKind} {fuel : Nat} {cs : List Value} {x : DataW H × List MemPlace} (ht : P.underlying t = some (.int k)) (hf : DataW.trod enc P w base spare held fuel t cs = some x) : ∃ z, cs = [.int k z] ∧ (Lit.int k z).wf = true := by
  cases fuel with
  | zero => simp [DataW.trod] at hf
  | succ n =>
    unfold DataW.trod at hf
    rw [ht] at hf
    split at hf <;> simp_all
end
section
variable {H : Type} {enc : TypeId × Value → H} {w : World} {base : Nat} {held : Bool}
/-- What an act's cells are. -/
def ActQ (w : World) (cs : List Value) : Prop := ∃ (zw ze zc zk : Int) (A : Option Addr) (n c : Nat) (l : List UInt8) (D : Option Addr) (m d : Nat) (l2 : List UInt8) (zh : Int) (y : UInt8), cs = actC zw ze zc zk A n c D m d zh y ∧ n ≤ c ∧ m ≤ d ∧ Rd w A n (u8s l) ∧ Rd w D m (u8s l2)
set_option maxRecDepth 100000 in
set_option maxHeartbeats 1000000 in
theorem open_act_cells {fuel : Nat} {cs : List Value} {x : DataW H × List MemPlace} (hf : DataW.trod enc Tryd.prog w base (fun _ => true) held fuel 29 cs = some x) : ActQ w cs := by
  obtain ⟨xs, n, _, _, hl, hxl, hel⟩ := DataW.trod_struct Tryd.underlying29 hf
  have hc8 : Tryd.prog.cellsOf 29 = 8 := by kernel_rfl
  have hci : Tryd.prog.cellsOf 3 = 1 := by kernel_rfl
  have hcs : Tryd.prog.cellsOf 27 = 1 := by kernel_rfl
  have hcu : Tryd.prog.cellsOf 5 = 1 := by kernel_rfl
  rw [hc8] at hl
  match cs, hl with
  | [v0, v1, v2, v3, v4, v5, v6, v7], _ =>
    have hxl : xs.length = 8 := by simpa using hxl
    match xs, hxl with
    | [y0, y1, y2, y3, y4, y5, y6, y7], _ =>
      have h0 : DataW.trod enc Tryd.prog w base (fun _ => true) held n 3 ((([v0, v1, v2, v3, v4, v5, v6, v7] : List Value).drop 0).take (Tryd.prog.cellsOf 3)) = some y0 := hel 0 _ rfl
      rw [hci] at h0
      have h1 : DataW.trod enc Tryd.prog w base (fun _ => true) held n 3 ((([v0, v1, v2, v3, v4, v5, v6, v7] : List Value).drop 1).take (Tryd.prog.cellsOf 3)) = some y1 := hel 1 _ rfl
      rw [hci] at h1
      have h2 : DataW.trod enc Tryd.prog w base (fun _ => true) held n 3 ((([v0, v1, v2, v3, v4, v5, v6, v7] : List Value).drop 2).take (Tryd.prog.cellsOf 3)) = some y2 := hel 2 _ rfl
      rw [hci] at h2
      have h3 : DataW.trod enc Tryd.prog w base (fun _ => true) held n 3 ((([v0, v1, v2, v3, v4, v5, v6, v7] : List Value).drop 3).take (Tryd.prog.cellsOf 3)) = some y3 := hel 3 _ rfl
      rw [hci] at h3
      have h4 : DataW.trod enc Tryd.prog w base (fun _ => true) held n 27 ((([v0, v1, v2, v3, v4, v5, v6, v7] : List Value).drop 4).take (Tryd.prog.cellsOf 27)) = some y4 := hel 4 _ rfl
      rw [hcs] at h4
      have h5 : DataW.trod enc Tryd.prog w base (fun _ => true) held n 27 ((([v0, v1, v2, v3, v4, v5, v6, v7] : List Value).drop 5).take (Tryd.prog.cellsOf 27)) = some y5 := hel 5 _ rfl
      rw [hcs] at h5
      have h6 : DataW.trod enc Tryd.prog w base (fun _ => true) held n 3 ((([v0, v1, v2, v3, v4, v5, v6, v7] : List Value).drop 6).take (Tryd.prog.cellsOf 3)) = some y6 := hel 6 _ rfl
      rw [hci] at h6
      have h7 : DataW.trod enc Tryd.prog w base (fun _ => true) held n 5 ((([v0, v1, v2, v3, v4, v5, v6, v7] : List Value).drop 7).take (Tryd.prog.cellsOf 5)) = some y7 := hel 7 _ rfl
      rw [hcu] at h7
      obtain ⟨zw, e0, _⟩ := open_int_cells Tryd.underlying3 h0
      obtain ⟨ze, e1, _⟩ := open_int_cells Tryd.underlying3 h1
      obtain ⟨zc, e2, _⟩ := open_int_cells Tryd.underlying3 h2
      obtain ⟨zk, e3, _⟩ := open_int_cells Tryd.underlying3 h3
      obtain ⟨A, n, c, l, e4, hnc, hr⟩ := open_u8s_cells Tryd.underlying27 Tryd.underlying5 hcu h4
      obtain ⟨D, m, d, l2, e5, hmd, hb⟩ := open_u8s_cells Tryd.underlying27 Tryd.underlying5 hcu h5
      obtain ⟨zh, e6, _⟩ := open_int_cells Tryd.underlying3 h6
      obtain ⟨zb, e7, wb⟩ := open_int_cells Tryd.underlying5 h7
      obtain ⟨y, rfl⟩ := u8_of_wf wb
      simp only [List.drop_zero, List.drop_succ_cons, List.take_succ_cons, List.take_zero, List.cons.injEq, and_true] at e0 e1 e2 e3 e4 e5 e6 e7
      subst e0 e1 e2 e3 e4 e5 e6 e7
      exact ⟨zw, ze, zc, zk, A, n, c, l, D, m, d, l2, zh, y, rfl, hnc, hmd, hr, hb⟩
set_option maxRecDepth 100000 in
theorem open_act {r : Reach} {b0 : Nat} {v : Value} {d : DataW H} {p : List MemPlace} (hv : Value.okWide Tryd.prog w r b0 29 v) (h : DataW.Trod enc Tryd.prog w base (fun _ => true) held 29 v d p) :
    ∃ cs, v = .agg (List.toArray cs) ∧ ActQ w cs := by
  obtain ⟨cs, rfl, _⟩ := okWide_struct Tryd.underlying29 hv
  obtain ⟨fuel, hf⟩ := h
  have := open_act_cells hf
  refine ⟨cs.toList, by simp, this⟩
end
end Go.Proofs.YtnmhfomnlnlflaaDoor
