/- The two tables of sha2 lie below a mark. No condition. -/
import Derived.Test.YthpgldfjcancjaaDoorKitS
namespace Go.Proofs.YthpgldfjcancjaaDoor
open Go.RowKit
/-- The tables lie low. -/
def LowG (B : Nat) : Prop := 1 < B ∧ 2 < B
theorem Glob.lowG {w : World} (h : Glob w) : LowG w.heap.size := by
  refine ⟨?_, lt_of_cell (h.key (k := 0) (by omega))⟩
  exact lt_of_cell (h.start 0 _ rfl)
theorem Glob.keep {B : Nat} {w w' : World} (h : Glob w) (hB : Below B w w') (l : LowG B) : Glob w' := ⟨fun j u hj => (World.cell?_of_block (hB.block _ l.1)).trans (h.start j u hj), fun j u hj => (World.cell?_of_block (hB.block _ l.2)).trans (h.keys j u hj)⟩
end Go.Proofs.YthpgldfjcancjaaDoor
