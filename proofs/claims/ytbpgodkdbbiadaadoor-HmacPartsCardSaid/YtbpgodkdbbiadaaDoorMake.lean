/- A slice of noughts that is made: told once, for a drawn region too. No condition. -/
import Derived.Laws.OwnMore
import Derived.Test.YtbpgodkdbbiadaaDoorSsa2
namespace Go.Proofs.YtbpgodkdbbiadaaDoor
open Go.RowKit
section
variable {P : Program}
theorem run_makeU8 (w : World) {t e : TypeId} {i : TypeInfo} (ht : P.underlying t = some (.slice e)) (hi : P.info? e = some i) (hz : i.zero = some (.int .u8 0)) (hsize : i.size = 1) (hby : i.bytes = 1)
    (kl kc : IntKind) (n : Nat) (hn : n ≤ 281474976710656) :
    ∃ w', (Instr.makeSlice t (.int kl (n : Int)) (.int kc (n : Int))).run P w = .ok (.slice (some ⟨w.heap.size, 0, none⟩) n n) w' ∧
      w'.ownsRow w.heap.size e 1 (.slice (some ⟨w.heap.size, 0, none⟩) n n) n (u8s (List.replicate n 0)) ∧ Gr w w' := by
  obtain ⟨w', h1, h2, h3⟩ := run_make_full (P := P) w w.heap.size t e i (.int .u8 0) 1 ht hi hz hsize kl kc n (by rw [hby]; omega) (by unfold maxLen; omega) (Nat.le_refl _)
  refine ⟨w', h1, ?_, (Below.refl _ _).grown h3 (Nat.le_refl _) (fun k hk => by cases hk)⟩
  have e1 : (madeCells (Value.int .u8 0).cells (n * 1)).toList = u8s (List.replicate n 0) := by
    rw [Nat.mul_one, show (Value.int .u8 0).cells = #[.int .u8 0] from rfl, toList_madeCells_one, u8s, List.map_replicate]
    rfl
  rw [e1] at h2
  exact h2
variable {ops : Array Oper} {Q : Exit → Act → World → Prop} {L : List (Value → World → Prop)} {a0 : Act} {w0 : World} {i : Nat} {o : Oper} {a : Act} {w : World}
theorem s_make (hi : ops[i]? = some o) (hw : Wanted ops o a) {t e : TypeId} {x y : Operand} (ho : o.op = .makeSlice t x y) {ti : TypeInfo} (ht : P.underlying t = some (.slice e)) (hti : P.info? e = some ti) (hz : ti.zero = some (.int .u8 0)) (hsize : ti.size = 1) (hby : ti.bytes = 1)
    (n : Nat) (hn : n ≤ 281474976710656) (hx : a.eval x = .int .i64 n) (hy : a.eval y = .int .i64 n) (hφ : L.getD i AnyV = RdV n (List.replicate n 0)) : Step P ops Q L i o a w := by
  obtain ⟨w', h1, h2, h3⟩ := run_makeU8 (P := P) w ht hti hz hsize hby .i64 .i64 n hn
  refine s_val hi hw _ hφ _ w' ?_ (RdV.own h2) h3
  simp only [execOp, ho, hx, hy, Sem.run_bind, h1, Result.andThen_ok, Sem.run_pure]
end
end Go.Proofs.YtbpgodkdbbiadaaDoor
