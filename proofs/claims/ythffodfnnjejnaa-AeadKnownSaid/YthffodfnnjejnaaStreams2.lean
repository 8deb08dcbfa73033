/- The stream's plain laws, and the walk of the law ChachaStreams. No condition. -/
import Derived.Test.YthffodfnnjejnaaKitA
import Derived.Test.YthffodfnnjejnaaCounts05
namespace Go.Proofs.Ythffodfnnjejnaa
open Go.RowKit
theorem mixL_append (A B b : List UInt8) : mixL (A ++ B) b = mixL A b ++ mixL B (b.drop A.length) := by
  unfold mixL
  induction A generalizing b with
  | nil => simp
  | cons x A ih =>
    cases b with
    | nil => simp
    | cons y b => simp [ih b]
theorem streamAt_mix (K : List UInt8) (c : UInt32) (N b : List UInt8) (k : Nat) : streamAt K c N b k = mixL (blocksL K c N k) b := by
  induction k with
  | zero => simp [streamAt, blocksL, mixL]
  | succ k ih => rw [streamAt, blocksL, mixL_append, ih, blocksL_length]
theorem mixL_twice (a b : List UInt8) (h : b.length ≤ a.length) : mixL a (mixL a b) = b := by
  unfold mixL
  induction b generalizing a with
  | nil => cases a <;> simp
  | cons y b ih =>
    cases a with
    | nil => simp at h
    | cons x a =>
      rw [List.zipWith_cons_cons, List.zipWith_cons_cons, ih a (by simpa using h), ← UInt8.xor_assoc]
      simp
theorem streamL_twice (K : List UInt8) (c : UInt32) (N b : List UInt8) : streamL K c N (streamL K c N b) = b := by
  have hl := streamL_length K c N b
  rw [streamL, hl, streamAt_mix]
  rw [streamL, streamAt_mix]
  exact mixL_twice _ _ (by rw [blocksL_length]; omega)
theorem ofNat_succ32 (c : UInt32) (k : Nat) : c + 1 + UInt32.ofNat k = c + UInt32.ofNat (k + 1) := by
  apply UInt32.toNat_inj.1
  rw [UInt32.toNat_add, UInt32.toNat_add, UInt32.toNat_add, UInt32.toNat_ofNat', UInt32.toNat_ofNat', show (1 : UInt32).toNat = 1 from rfl]
  omega
theorem blocksL_succ (K : List UInt8) (c : UInt32) (N : List UInt8) (k : Nat) : blocksL K c N (k + 1) = blockL K c N ++ blocksL K (c + 1) N k := by
  induction k with
  | zero =>
    rw [blocksL, blocksL, blocksL, List.nil_append, List.append_nil, show c + UInt32.ofNat 0 = c by simp]
  | succ k ih =>
    rw [blocksL, ih]
    conv => rhs; rw [blocksL]
    rw [List.append_assoc, ofNat_succ32]
theorem streamL_drop (K : List UInt8) (c : UInt32) (N b : List UInt8) (h : 64 < b.length) : (streamL K c N b).drop 64 = streamL K (c + 1) N (b.drop 64) := by
  have e1 : (b.length + 63) / 64 = ((b.drop 64).length + 63) / 64 + 1 := by rw [List.length_drop]; omega
  rw [streamL, streamL, streamAt_mix, streamAt_mix, e1, blocksL_succ, mixL_append, blockL_length, List.drop_append_of_le_length (by rw [mixL_length, blockL_length]; omega)]
  rw [List.drop_of_length_le (by rw [mixL_length, blockL_length]; omega), List.nil_append]
theorem s_pickF {P : Program} {ops : Array Oper} {Q : Exit → Act → World → Prop} {L : List (Value → World → Prop)} {i : Nat} {o : Oper} {a : Act} {w : World} (hi : ops[i]? = some o) (hw : Wanted ops o a) (c x y : Operand) (ho : o.op = .pick c x y) (hc : a.eval c = .bool false) (v : Value) (e : a.eval y = v) (hφ : L.getD i AnyV = IsV v) : Step P ops Q L i o a w := by
  refine s_is hi hw v hφ ?_
  simp [execOp, ho, hc, e, asBool]
theorem run_cutAllO {P : Program} {T e : TypeId} {n : Nat} (hT : P.underlying T = some (.array n e)) (hsz : (P.info? e).map (·.size) = some 1) (g o : Nat) (w : World) :
    (Instr.sliceAt T (.pointer (some ⟨g, o, none⟩)) none none none).run P w = .ok (.slice (some ⟨g, o, none⟩) n n) w := by
  obtain ⟨e1, e2⟩ := arrayLen_of hT
  rw [run_sliceAt_array_all w T _ (by rw [e1, e2]; exact hT), e1, e2]
  simp only [run_size1 hsz, Result.andThen_ok, slicedAt, Nat.sub_zero, Nat.zero_mul, add_zero_, ite_self]
end Go.Proofs.Ythffodfnnjejnaa

