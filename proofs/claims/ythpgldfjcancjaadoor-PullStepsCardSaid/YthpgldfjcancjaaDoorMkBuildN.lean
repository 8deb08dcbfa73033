/- A slice of one name built. No condition. -/
import Derived.Test.YthpgldfjcancjaaDoorKitM
import Derived.Test.YthpgldfjcancjaaDoorMkLeaf
import Derived.Great.BuildSlice
namespace Go.Proofs.YthpgldfjcancjaaDoor
open Go.RowKit
theorem infoN32 : (Tryd.prog.info? 51).map (fun i => (i.size, i.bytes, i.zero.map (·.cells.size))) = some (32, 32, some 32) := by kernel_rfl
section
variable {ev : Operand → Value} {d : Option Tmp} {t : TypeId} {p : String} {af : Array Edge} {gd : Option (Nat × Bool)} {w : World} {x : Operand}
set_option maxRecDepth 100000 in
theorem run_buildN {X : List UInt8} (hX : X.length = 32) (h1 : ev x = .agg (u8s X).toArray) :
    (execOp ev ⟨d, .buildSlice 48 1 #[(0, x)], t, p, af, gd⟩).run Tryd.prog w = .ok (.value (.slice (some ⟨w.heap.size, 0, none⟩) 1 1)) (w.alloc (.cells (u8s X).toArray 51)) := by
  cases hie : Tryd.prog.info? 51 with
  | none => have := infoN32; rw [hie] at this; cases this
  | some ie =>
    have hq := infoN32
    rw [hie] at hq
    simp only [Option.map_some, Option.some.injEq, Prod.mk.injEq] at hq
    obtain ⟨q1, _, q3⟩ := hq
    cases hz : ie.zero with
    | none => rw [hz] at q3; cases q3
    | some z =>
      have hf : ∀ C : Array Value, C.size = 32 → Instr.fill (fun i => some (i * ie.size, ie.size)) C [(0, .agg (u8s X).toArray)] = some (u8s X).toArray := by
        intro C hC
        rw [fill_step (fun i => some (i * ie.size, ie.size)) C 0 (.agg (u8s X).toArray) (u8s X) 0 (by simp [q1, hX]) rfl [] (by simp [hX, hC])]
        simp only [Instr.fill]
        rw [List.drop_of_length_le (by simp [hX, hC])]
        simp
      have h := run_buildSlice (P := Tryd.prog) w 48 51 1 #[(0, .agg (u8s X).toArray)] (u8s X).toArray ie z Tryd.underlying48 hie hz (by rw [q1]; omega) (by rw [q1]; omega) (hf _ (by simp [q1]))
      simp only [execOp, List.map_toArray, List.map_cons, List.map_nil, h1, Sem.run_bind, h, Result.andThen_ok, Sem.run_pure]
end
section
variable {F : Fence} {n : Nat} {ops : Array Oper} {Q : Exit → Act → World → Prop} {a : Act} {w : World} {rest : List Oper} {op : Oper}
theorem wpListIn_buildN {X : List UInt8} (hX : X.length = 32) (hgd : op.guard = none) (x : Operand) (ho : op.op = .buildSlice 48 1 #[(0, x)]) (h1 : a.eval x = .agg (u8s X).toArray)
    (h : wpListIn F n Tryd.prog ops Q rest (a.put op.dst (.slice (some ⟨w.heap.size, 0, none⟩) 1 1)) (w.alloc (.cells (u8s X).toArray 51))) : wpListIn F n Tryd.prog ops Q (op :: rest) a w := by
  refine wpListIn_plain hgd fun K hK => ?_
  obtain ⟨d, o, t, p, af, gd⟩ := op
  simp only at ho
  subst ho
  unfold Oper.wpIn
  refine ⟨by simp [Oper.about], ?_⟩
  rw [Oper.semAt_plain F _ _ (by intro c hc; cases hc), run_buildN hX h1]
  exact hK _ _ h
end
end Go.Proofs.YthpgldfjcancjaaDoor
