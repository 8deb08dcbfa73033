/- Any act, done to both. No condition. -/
import Derived.Test.YtnmhfomnlnlflaaDoorDoAll
import Derived.Test.YtnmhfomnlnlflaaDoorOpenActs
namespace Go.Proofs.YtnmhfomnlnlflaaDoor
open Go.RowKit
/-- A vault that was just made. -/
def NewV1 (B : Nat) (v0 : Vt) : Value → World → Prop := fun u w => ∃ g b1 b2 b3, u = .pointer (some ⟨g, 0, none⟩) ∧ VIs allT B w g b1 b2 b3 v0
/-- The reference's, just made. -/
def NewR1 (B : Nat) (v0 : Vt) : Value → World → Prop := fun u w => ∃ r, u = .pointer (some ⟨r, 0, none⟩) ∧ RIs B w r v0
theorem NewV1.gr {B : Nat} {v0 : Vt} {u : Value} {w w' : World} (h : NewV1 B v0 u w) (hG : Gr w w') : NewV1 B v0 u w' := by
  obtain ⟨g, b1, b2, b3, e, h⟩ := h
  exact ⟨g, b1, b2, b3, e, h.gr hG⟩
theorem NewR1.gr {B : Nat} {v0 : Vt} {u : Value} {w w' : World} (h : NewR1 B v0 u w) (hG : Gr w w') : NewR1 B v0 u w' := by
  obtain ⟨r, e, h⟩ := h
  exact ⟨r, e, h.gr hG⟩
theorem ris_new {B : Nat} {w : World} {i : Bool} {M : List UInt8} (hM : M.length = 32) (hB : B ≤ w.heap.size) : NewR1 B ⟨i, M, [], []⟩ (.pointer (some ⟨w.heap.size, 0, none⟩)) (w.alloc (.cells #[.bool i, .string ⟨M.toArray⟩, .slice none 0 0, .slice none 0 0] 48)) :=
  ⟨_, rfl, hB, hM, none, 0, none, 0, Arr.newAt rfl rfl, ⟨rfl, .inl ⟨rfl, rfl⟩⟩, ⟨rfl, .inl ⟨rfl, rfl⟩⟩⟩
theorem good_new {i : Bool} {M : List UInt8} (hM : M.length = 32) : Good ⟨i, M, [], []⟩ 0 := ⟨hM, Nat.le_refl _, Nat.le_refl _, fun x h => absurd h (by simp), fun x h => absurd h (by simp)⟩
section
variable {ev : Operand → Value} {d : Option Tmp} {t : TypeId} {p : String} {af : Array Edge} {gd : Option (Nat × Bool)} {w : World} {x : Operand}
theorem run_buildRefT {s : ByteArray} {q : Operand} (h0 : ev q = .bool true) (h1 : ev x = .string s) : (execOp ev ⟨d, .build 48 #[(0, q), (1, x)], t, p, af, gd⟩).run Tryd.prog w = .ok (.value (.agg #[.bool true, .string s, .slice none 0 0, .slice none 0 0])) w := by
  have h := run_build (P := Tryd.prog) w 48 #[(0, .bool true), (1, .string s)] #[.bool true, .string s, .slice none 0 0, .slice none 0 0] (by kernel_rfl)
  simp only [execOp, List.map_toArray, List.map_cons, List.map_nil, h0, h1, Sem.run_bind, h, Result.andThen_ok, Sem.run_pure]
theorem run_buildRefF {s : ByteArray} (h1 : ev x = .string s) : (execOp ev ⟨d, .build 48 #[(1, x)], t, p, af, gd⟩).run Tryd.prog w = .ok (.value (.agg #[.bool false, .string s, .slice none 0 0, .slice none 0 0])) w := by
  have h := run_build (P := Tryd.prog) w 48 #[(1, .string s)] #[.bool false, .string s, .slice none 0 0, .slice none 0 0] (by kernel_rfl)
  simp only [execOp, List.map_toArray, List.map_cons, List.map_nil, h1, Sem.run_bind, h, Result.andThen_ok, Sem.run_pure]
end
/-- Where the acts stand. -/
def ActsR (B g b1 b2 b3 r : Nat) (ideal : Bool) (n : Nat) (w0 : World) (i : Value) (w : World) : Prop := ∃ (k : Nat) (v : Vt), k ≤ n ∧ k ≤ 20 ∧ i = .int .i64 (k : Int) ∧ VIs allT B w g b1 b2 b3 v ∧ RIs B w r v ∧ Good v k ∧ v.ideal = ideal ∧ Below B w0 w
end Go.Proofs.YtnmhfomnlnlflaaDoor
