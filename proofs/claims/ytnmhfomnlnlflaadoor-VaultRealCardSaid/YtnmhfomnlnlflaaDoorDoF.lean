/- A row of records of six cells: its places, its loads. No condition. -/
import Derived.Test.YtnmhfomnlnlflaaDoorDoX
namespace Go.Proofs.YtnmhfomnlnlflaaDoor
open Go.RowKit
theorem run_sizeK {P : Program} {e : TypeId} {k : Nat} (hi : (P.info? e).map (·.size) = some k) (w : World) : (sizeOf e).run P w = .ok k w := by
  cases hq : P.info? e with
  | none => simp [hq] at hi
  | some i =>
    have hs : i.size = k := by simpa [hq] using hi
    simp [sizeOf, typeInfo, hq, hs]
section
variable {ev : Operand → Value} {d : Option Tmp} {t : TypeId} {p : String} {af : Array Edge} {gd : Option (Nat × Bool)} {w : World} {x y : Operand}
theorem run_idx6 {P : Program} {T e : TypeId} (hT : P.underlying T = some (.slice e)) (hsz : (P.info? e).map (·.size) = some 6) {g n c k : Nat} (h1 : ev x = .slice (some ⟨g, 0, none⟩) n c) (h2 : ev y = .int .i64 (k : Int)) (hk : k < n) :
    (execOp ev ⟨d, .indexAddr T x y, t, p, af, gd⟩).run P w = .ok (.value (.pointer (some ⟨g, k * 6, none⟩))) w := by
  simp only [execOp, h1, h2]
  go_simp
  simp [run_sizeK hsz]
theorem run_loadSealed {g o : Nat} {z0 z1 z2 : Int} {s3 s4 s5 : ByteArray} (h1 : ev x = .pointer (some ⟨g, o, none⟩)) (q0 : w.cell? ⟨g, o, none⟩ = some (.int .i64 z0)) (q1 : w.cell? ⟨g, o + 1, none⟩ = some (.int .i64 z1)) (q2 : w.cell? ⟨g, o + 2, none⟩ = some (.int .i64 z2)) (q3 : w.cell? ⟨g, o + 3, none⟩ = some (.string s3)) (q4 : w.cell? ⟨g, o + 4, none⟩ = some (.string s4)) (q5 : w.cell? ⟨g, o + 5, none⟩ = some (.string s5)) :
    (execOp ev ⟨d, .load 78 x, t, p, af, gd⟩).run Tryd.prog w = .ok (.value (.agg #[.int .i64 z0, .int .i64 z1, .int .i64 z2, .string s3, .string s4, .string s5])) w := by
  simp only [execOp, h1]
  go_simp
end
end Go.Proofs.YtnmhfomnlnlflaaDoor
