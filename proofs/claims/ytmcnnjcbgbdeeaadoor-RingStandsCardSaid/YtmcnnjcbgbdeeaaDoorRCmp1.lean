/- The walk of the order of the ring's points. No condition. -/
import Derived.Test.YtmcnnjcbgbdeeaaDoorRWalk
import Derived.Test.YtmcnnjcbgbdeeaaDoorSsaG
import Derived.Test.YtmcnnjcbgbdeeaaDoorSsaH
import Derived.Sort.Grow
namespace Go.Proofs.YtmcnnjcbgbdeeaaDoor
open Go.RowKit
/-- Draws and new blocks, nothing else. -/
def GG (w w' : World) : Prop := ∃ (q : Nat) (os : Array Obj), w' = Go.Sort.grow (w.drewN q) os
theorem GG.refl (w : World) : GG w w := ⟨0, #[], by rw [Go.Sort.grow_empty]; rfl⟩
theorem GG.drew (w : World) : GG w w.drew := ⟨1, #[], by rw [Go.Sort.grow_empty]; rfl⟩
theorem GG.alloc (w : World) (o : Obj) : GG w (w.alloc o) := ⟨0, #[o], by rw [Go.Sort.alloc_eq_grow]; rfl⟩
theorem GG.gr {w w' : World} (h : GG w w') : Gr w w' := by
  obtain ⟨q, os, rfl⟩ := h
  refine ⟨rfl, rfl, rfl, by simp [Go.Sort.grow, World.drewN], fun k hk => ?_⟩
  simp only [Go.Sort.grow, World.drewN]
  rw [Array.getElem?_append_left hk]
theorem GG.trans {a b c : World} (h : GG a b) (k : GG b c) : GG a c := by
  obtain ⟨q, os, rfl⟩ := h
  obtain ⟨q2, os2, rfl⟩ := k
  refine ⟨q + q2, os ++ os2, ?_⟩
  simp [Go.Sort.grow, World.drewN, Array.append_assoc, Nat.add_assoc]
section
variable {P : Program} {ops : Array Oper} {Q : Exit → Act → World → Prop} {L : List (Value → World → Prop)} {i : Nat} {o : Oper} {a : Act} {w : World} {G : World → World → Prop}
theorem gg_val (hi : ops[i]? = some o) (hg : o.guard = none) (v : Value) (w' : World) (hrun : (execOp a.eval o).run P w = .ok (.value v) w') (hφ : (L.getD i AnyV) v w') (hG : G w w') : wpOp P ops Q i (fun a' w' => ∃ v, a' = a.put o.dst v ∧ (L.getD i AnyV) v w' ∧ G w w') a w := by
  have hw : Region.wanted o (yielded ops a.tmps) = true := by simp [Region.wanted, hg]
  unfold wpOp
  simp only [hi, hw, if_true, Oper.wp, hrun, Oper.upon]
  exact .inl ⟨v, rfl, hφ, hG⟩
theorem gg_call (hi : ops[i]? = some o) (hg : o.guard = none) (f : FuncId) (args : Array Value) (hrun : (execOp a.eval o).run P w = .ok (.enter f args) w) (v : Value)
    (hc : Calls P f args w fun e w' => e = .returned v ∧ w = w') (hφ : (L.getD i AnyV) v w) (hG : G w w) : wpOp P ops Q i (fun a' w' => ∃ v, a' = a.put o.dst v ∧ (L.getD i AnyV) v w' ∧ G w w') a w :=
  wpOp_callR hi hg f args hrun (hc.mono fun _ _ ⟨he, hw⟩ => ⟨v, he, v, rfl, hw ▸ hφ, hw ▸ hG⟩)
end
/-- The first that is not nought. -/
def or3 (a b c : Int) : Int := if a ≠ 0 then a else if b ≠ 0 then b else c
/-- A row of three numbers. -/
def Row3 (a b c : Int) : Value → World → Prop := fun v w => ∃ g, v = .slice (some ⟨g, 0, none⟩) 3 3 ∧ Arr w g 3 [.int .i64 a, .int .i64 b, .int .i64 c]
theorem Row3.gr {a b c : Int} {v : Value} {w w' : World} (h : Row3 a b c v w) (hG : Gr w w') : Row3 a b c v w' := by
  obtain ⟨g, e, h⟩ := h
  exact ⟨g, e, h.gr hG⟩
/-- How many were noughts. -/
def OrR (a b c : Int) (w : World) (i : Value) (wr : World) : Prop := ∃ k : Nat, k ≤ 3 ∧ i = .int .i64 (k : Int) ∧ (0 < k → a = 0) ∧ (1 < k → b = 0) ∧ (2 < k → c = 0) ∧ w = wr
set_option maxHeartbeats 4000000 in
theorem or_any {g : Nat} {a b c : Int} {w : World} (h : Arr w g 3 [.int .i64 a, .int .i64 b, .int .i64 c]) : Calls Tryd.prog 20 #[.slice (some ⟨g, 0, none⟩) 3 3] w fun e w' => e = .returned (.int .i64 (or3 a b c)) ∧ w = w' := by
  have c0 := h.cell (i := 0) (v := .int .i64 a) rfl
  have c1 := h.cell (i := 1) (v := .int .i64 b) rfl
  have c2 := h.cell (i := 2) (v := .int .i64 c) rfl
  obtain ⟨r, hr⟩ : ∃ r, r = or3 a b c := ⟨_, rfl⟩
  rw [← hr]
  have HR := Lib.hid hr
  clear hr
  go_enter Tryd.func20, Tryd.ntmps20
  go_wp2_with fail
  go_simp
  go_loopw [8] (fun i wr => OrR a b c w i wr) (fun i _ => 3 - (intOf i).toNat)
  case atStart => exact ⟨0, by omega, rfl, fun h => by omega, fun h => by omega, fun h => by omega, rfl⟩
  case round =>
    obtain ⟨k, hk, rfl, ha, hb, hc, rfl⟩ := hrel
    have h4 : k = 0 ∨ k = 1 ∨ k = 2 ∨ k = 3 := by omega
    rcases h4 with rfl | rfl | rfl | rfl
    · by_cases hz : a = 0
      · have hzb : (a == 0) = true := by rw [hz]; rfl
        go_wp2_with fail
        exact ⟨⟨1, by omega, by go_num, fun _ => hz, fun h => by omega, fun h => by omega, rfl⟩, by simp [intOf]⟩
      · have hzb : (a == 0) = false := beq_false_of_ne hz
        have hre : r = a := by rw [HR.out, or3, if_pos hz]
        subst hre
        go_wp2_with fail
        go_ret
        exact ⟨rfl, rfl⟩
    · have ha0 := ha (by omega)
      by_cases hz : b = 0
      · have hzb : (b == 0) = true := by rw [hz]; rfl
        go_wp2_with fail
        exact ⟨⟨2, by omega, by go_num, fun _ => ha0, fun _ => hz, fun h => by omega, rfl⟩, by simp [intOf]⟩
      · have hzb : (b == 0) = false := beq_false_of_ne hz
        have hre : r = b := by rw [HR.out, or3, if_neg (by simpa using ha0), if_pos hz]
        subst hre
        go_wp2_with fail
        go_ret
        exact ⟨rfl, rfl⟩
    · have ha0 := ha (by omega)
      have hb0 := hb (by omega)
      by_cases hz : c = 0
      · have hzb : (c == 0) = true := by rw [hz]; rfl
        go_wp2_with fail
        exact ⟨⟨3, by omega, by go_num, fun _ => ha0, fun _ => hb0, fun _ => hz, rfl⟩, by simp [intOf]⟩
      · have hzb : (c == 0) = false := beq_false_of_ne hz
        have hre : r = c := by rw [HR.out, or3, if_neg (by simpa using ha0), if_neg (by simpa using hb0)]
        subst hre
        go_wp2_with fail
        go_ret
        exact ⟨rfl, rfl⟩
    · have hre : r = 0 := by rw [HR.out, or3, if_neg (by simpa using ha (by omega)), if_neg (by simpa using hb (by omega)), hc (by omega)]
      subst hre
      go_wp2_with fail
      go_ret
      exact ⟨rfl, rfl⟩
end Go.Proofs.YtmcnnjcbgbdeeaaDoor
