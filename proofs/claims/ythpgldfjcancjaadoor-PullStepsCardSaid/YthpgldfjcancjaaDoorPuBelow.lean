/- The walk of pull.below. No condition. -/
import Derived.Test.YthpgldfjcancjaaDoorAppE
import Derived.Test.YthpgldfjcancjaaDoorPuP
import Derived.Test.YthpgldfjcancjaaDoorKitM
import Derived.Deep.Cut
namespace Go.Proofs.YthpgldfjcancjaaDoor
open Go.RowKit
theorem infoInt : (Tryd.prog.info? 3).map (fun i => (i.size, i.bytes, i.zero)) = some (1, 8, some (.int .i64 0)) := by kernel_rfl
theorem infoInt_parts : ∃ i, Tryd.prog.info? 3 = some i ∧ i.zero = some (.int .i64 0) ∧ i.size = 1 ∧ i.bytes = 8 := by
  cases hie : Tryd.prog.info? 3 with
  | none => have := infoInt; rw [hie] at this; cases this
  | some ie =>
    have hq := infoInt
    rw [hie] at hq
    simp only [Option.map_some, Option.some.injEq, Prod.mk.injEq] at hq
    exact ⟨ie, rfl, hq.2.2, hq.1, hq.2.1⟩
def intT : Nat → Obj → Bool := fun _ o => match o with | .cells _ t _ => t == 3 | _ => false
theorem own_arr1 {w : World} {B g : Nat} {x : Nat} (h : Arr w g 3 [.int .i64 (x : Int)]) (hB : B ≤ g) : w.ownsRow B 3 1 (.slice (some ⟨g, 0, none⟩) 1 1) 1 (intV [x]) :=
  ⟨rfl, .inr ⟨g, 1, #[.int .i64 (x : Int)], rfl, hB, h, Nat.le_refl _, by unfold maxLen; omega, rfl, rfl⟩⟩
/-- The four below, told one by one. -/
def fourL (n i : Nat) : List Nat := (List.range i).map fun k => 4 * n + k
theorem fourL_succ (n i : Nat) : fourL n (i + 1) = fourL n i ++ [4 * n + i] := by unfold fourL; rw [List.range_succ, List.map_append]; rfl
def BelowR (n : Nat) (w0 : World) (v k : Value) (w : World) : Prop := ∃ (i : Nat) (A : Option Addr) (c : Nat), i ≤ 4 ∧ v = .slice A i c ∧ k = .int .i64 (i : Int) ∧ w.ownsRow w0.heap.size 3 1 (.slice A i c) i (intV (fourL n i)) ∧ Gr w0 w
theorem BelowR.out {n : Nat} {w0 : World} {v k : Value} {w : World} (h : BelowR n w0 v k w) : ∃ (i : Nat) (A : Option Addr) (c : Nat), i ≤ 4 ∧ v = .slice A i c ∧ k = .int .i64 (i : Int) ∧ w.ownsRow w0.heap.size 3 1 (.slice A i c) i (intV (fourL n i)) ∧ Gr w0 w := h
set_option maxRecDepth 100000 in
set_option maxHeartbeats 8000000 in
theorem below_any (l n : Nat) (hl : l < 5) (hn : n < 256) (w : World) : Calls Tryd.prog 24 #[.int .i64 (l : Int), .int .i64 (n : Int)] w fun e w' => ∃ A m c, e = .returned (.slice A m c) ∧ m = (belowL l n).length ∧ w'.ownsRow w.heap.size 3 1 (.slice A m c) m (intV (belowL l n)) ∧ Gr w w' := by
  obtain ⟨i0, hi0, hz0, hz1, hz2⟩ := infoInt_parts
  by_cases h4 : l = 4
  · subst h4
    go_enter Tryd.func24, Tryd.ntmps24
    go_wp2_with fail
    go_ret
    refine ⟨some ⟨w.heap.size, 0, none⟩, 1, 1, rfl, rfl, own_arr1 (x := n) (Arr.newAt rfl rfl) (Nat.le_refl _), Gr.alloc _ _⟩
  · have hl4 : ((l : Int) == 4) = false := beq_false_of_ne (by omega)
    have hbl : belowL l n = fourL n 4 := by unfold belowL; rw [if_neg h4]; rfl
    have HBL := Lib.hid hbl
    clear h4 hbl
    go_enter Tryd.func24, Tryd.ntmps24
    go_upto_region 5 with fail
    go_loopw [5, 11] (fun v k wr => BelowR n w v k wr) (fun _ k _ => 4 - (intOf k).toNat)
    case atStart => exact ⟨0, none, 0, by omega, rfl, rfl, ⟨rfl, .inl ⟨rfl, rfl⟩⟩, Gr.refl _⟩
    case round =>
      obtain ⟨i, A2, c2, hi, rfl, rfl, ho, hG⟩ := BelowR.out hrel
      clear hrel
      by_cases hlt : i < 4
      · have hci : (i : Int) < 4 := by omega
        have hon := Gr.own (Gr.alloc wr (.cells #[.int .i64 (4 * (n : Int) + (i : Int))] 3)) ho
        have hG2 := hG.trans (Gr.alloc wr (.cells #[.int .i64 (4 * (n : Int) + (i : Int))] 3))
        have hBn := hG2.size
        have hAn : Arr (wr.alloc (.cells #[.int .i64 (4 * (n : Int) + (i : Int))] 3)) wr.heap.size 3 [.int .i64 (4 * (n : Int) + (i : Int))] := Arr.newAt rfl rfl
        have HE : Hid (∀ A3 c3 w6, w6.ownsRow w.heap.size 3 1 (.slice A3 (i + 1) c3) (i + 1) (intV (fourL n i) ++ [.int .i64 (4 * (n : Int) + (i : Int))]) → Gr w w6 → BelowR n w (.slice A3 (i + 1) c3) (.int .i64 ((i : Int) + 1)) w6) := Lib.hid (fun A3 c3 w6 h6 hG6 => by
          refine ⟨i + 1, A3, c3, by omega, rfl, by simp, ?_, hG6⟩
          rw [fourL_succ, intV_append]
          have e : intV [4 * n + i] = [.int .i64 (4 * (n : Int) + (i : Int))] := by simp [intV]
          rw [e]
          exact h6)
        clear hG ho
        go_wp2_with (at_builtin; go_must (refine wpList_appT rfl (.tmp 14) (.tmp 19) 27 rfl w.heap.size 3 i0 (.int .i64 0) 1 8 Tryd.underlying27 hi0 hz0 hz1 hz2 rfl (by omega) rfl hon ⟨wr.heap.size, 0, none⟩ 1 1 [.int .i64 (4 * (n : Int) + (i : Int))] rfl rfl (fun j u h => by rw [add_row, Nat.zero_add]; exact hAn.cell h) (by simp [Value.oneCell']) (by unfold maxLen; omega) (by omega) hBn ?_; intro A3 c3 w6 h6 _ hT6; have hR6 := HE.out A3 c3 w6 h6 (Below.trans hG2 ((hT6 intT (fun _ _ _ => by simp [intT])).below hBn)); clear h6 hT6))
        exact ⟨hR6, by simp only [intOf]; omega⟩
      · obtain rfl : i = 4 := by omega
        go_wp2_with fail
        go_ret
        exact ⟨A2, 4, c2, rfl, by rw [HBL.out]; rfl, by rw [HBL.out]; exact ho, hG⟩
end Go.Proofs.YthpgldfjcancjaaDoor
