/- merkle.Leaf, as a call of the plain walk. No condition. -/
import Derived.Test.YthpgldfjcancjaaDoorMkLeaf
namespace Go.Proofs.YthpgldfjcancjaaDoor
open Go.RowKit
theorem leaf_any (x : Nm) (w : World) : Calls Tryd.prog 28 #[.agg (u8s x.1).toArray] w fun e w' => e = .returned (.int .i64 ((x.1.getD 0 0).toNat : Int)) ∧ Gr w w' :=
  (callsIn_wide.1 (leaf_in Fence.wide 1 trivial rfl x w)).mono fun _ _ ⟨h1, h2⟩ => ⟨h1, h2 ▸ Gr.alloc w _⟩
end Go.Proofs.YthpgldfjcancjaaDoor
