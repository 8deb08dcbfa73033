/- Parts of strings; a whole array into one that is there; single operations on strings and words. No condition. -/
import Derived.Test.YtbpgodkdbbiadaaDoorCut
import Derived.Test.YtbpgodkdbbiadaaDoorBits3
namespace Go.Proofs.YtbpgodkdbbiadaaDoor
open Go.RowKit
section
variable {P : Program} {T e : TypeId} {n : Nat}
theorem extract_list (l : List UInt8) (lo hi : Nat) : (⟨l.toArray⟩ : ByteArray).extract lo hi = ⟨((l.drop lo).take (hi - lo)).toArray⟩ := by
  apply ByteArray.ext; simp [List.extract_eq_take_drop]
theorem run_cutS (hT : P.underlying T = some .string) (l : List UInt8) (lo hi : Nat) (a b : Int) (ha : a = lo) (hb : b = hi) (h1 : lo ≤ hi) (h2 : hi ≤ l.length) (w : World) :
    (Instr.slice T (.string ⟨l.toArray⟩) (some (.int .i64 a)) (some (.int .i64 b)) none).run P w = .ok (.string ⟨((l.drop lo).take (hi - lo)).toArray⟩) w := by
  subst ha hb
  have hs : (⟨l.toArray⟩ : ByteArray).size = l.length := by simp [ByteArray.size]
  rw [← extract_list]
  generalize (⟨l.toArray⟩ : ByteArray) = B at hs ⊢
  simp [Instr.slice, run_underlying hT, Instr.sliceBounds, run_sliceBound, hs, h1, h2]
theorem run_cutS_l (hT : P.underlying T = some .string) (l : List UInt8) (lo : Nat) (a : Int) (ha : a = lo) (h2 : lo ≤ l.length) (w : World) :
    (Instr.slice T (.string ⟨l.toArray⟩) (some (.int .i64 a)) none none).run P w = .ok (.string ⟨(l.drop lo).toArray⟩) w := by
  subst ha
  have hs : (⟨l.toArray⟩ : ByteArray).size = l.length := by simp [ByteArray.size]
  rw [run_slice_string_l w T _ hT _ _ (by omega) (by rw [hs]; omega), extract_list, hs]
  simp only [Int.toNat_natCast]
  rw [List.take_of_length_le (by simp)]
/-- An array that is there takes a whole one. -/
theorem wpList_put {ops : Array Oper} {rest : List Oper} {op : Oper} {a : Act} {Q : Exit → Act → World → Prop} {w : World} {t : TypeId} {b : Nat} {cs : List Value} (hA : Arr w b t cs) (hgd : op.guard = none) (ty : TypeId) (x y : Operand) (ho : op.op = .store ty x y)
    (vs : List Value) (hx : a.eval x = .pointer (some ⟨b, 0, none⟩)) (hy : a.eval y = .agg vs.toArray) (hn : cs.length = vs.length)
    (hi : (P.info? ty).map (·.size) = some vs.length) (h1 : ∀ v ∈ vs, v.oneCell' = true)
    (h : ∀ w2, Arr w2 b t vs → Below b w w2 → (∀ g t' cs', g ≠ b → Arr w g t' cs' → Arr w2 g t' cs') → wpList P ops Q rest (a.put op.dst undef) w2) : wpList P ops Q (op :: rest) a w := by
  refine wpList_store_mid hgd ty x y ho b 0 vs.toArray hx hy (by have := hA.there; rw [hn] at this; simpa using this) (by simpa using hi) (all_oneCell_toArray h1) ?_
  exact h _ (hA.setAll vs hn.symm) (below_setCells (Nat.le_refl _) _ _ _) (fun g t' cs' hg hA' => hA'.setCells_other hg _ _)
section
variable {ev : Operand → Value} {d : Option Tmp} {t U S : TypeId} {s : String} {af : Array Edge} {gd : Option (Nat × Bool)} {w : World} {x y : Operand}
theorem run_conv_u32_u64 {a : UInt32} (hs : P.underlying S = some (.int .u32)) (hd : P.underlying T = some (.int .u64)) (h1 : ev x = .int .u32 a.toNat) : (execOp ev ⟨d, .convert S T x, t, s, af, gd⟩).run P w = .ok (.value (.int .u64 (a.toNat : Nat))) w := by
  have h := a.toNat_lt
  simp only [execOp, h1]
  go_simp
  rw [IntKind.wrap_u64]
  omega
theorem run_addS {a b : List UInt8} (hl : a.length + b.length ≤ 9223372036854775807) (h1 : ev x = .string ⟨a.toArray⟩) (h2 : ev y = .string ⟨b.toArray⟩) : (execOp ev ⟨d, .binOp .add T x y U, t, s, af, gd⟩).run P w = .ok (.value (.string ⟨(a ++ b).toArray⟩)) w := by
  simp only [execOp, h1, h2, ← str_append]
  go_simp
end
end
end Go.Proofs.YtbpgodkdbbiadaaDoor
