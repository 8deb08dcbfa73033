/- The walk of the law ChachaCounts. No condition. -/
import Derived.Test.YthffodfnnjejnaaRefStream05
namespace Go.Proofs.Ythffodfnnjejnaa
open Go.RowKit
def blocksL (K : List UInt8) (c : UInt32) (N : List UInt8) : Nat → List UInt8
  | 0 => []
  | k + 1 => blocksL K c N k ++ blockL K (c + UInt32.ofNat k) N
@[simp] theorem blocksL_length (K : List UInt8) (c : UInt32) (N : List UInt8) (k : Nat) : (blocksL K c N k).length = 64 * k := by
  induction k with
  | zero => rfl
  | succ k ih => rw [blocksL, List.length_append, ih, blockL_length]; omega
theorem mixL_noughts (a : List UInt8) (n : Nat) (h : a.length ≤ n) : mixL a (List.replicate n 0) = a := by
  unfold mixL
  induction a generalizing n with
  | nil => simp
  | cons x a ih =>
    obtain ⟨m, rfl⟩ : ∃ m, n = m + 1 := ⟨n - 1, by simp at h; omega⟩
    rw [List.replicate_succ, List.zipWith_cons_cons, ih m (by simp at h; omega)]
    simp
theorem streamAt_noughts (K : List UInt8) (c : UInt32) (N : List UInt8) (m : Nat) : ∀ k, k ≤ m → streamAt K c N (List.replicate (64 * m) 0) k = blocksL K c N k := by
  intro k
  induction k with
  | zero => intro _; rfl
  | succ k ih =>
    intro hk
    rw [streamAt, blocksL, ih (by omega), List.drop_replicate, mixL_noughts _ _ (by rw [blockL_length]; omega)]
theorem streamL_noughts (K : List UInt8) (c : UInt32) (N : List UInt8) (m : Nat) : streamL K c N (List.replicate (64 * m) 0) = blocksL K c N m := by
  rw [streamL, List.length_replicate, show (64 * m + 63) / 64 = m by omega, streamAt_noughts K c N m m (Nat.le_refl _)]
theorem Arr.range1 {w : World} {g : Nat} {t : TypeId} {x : Value} {l : List Value} (h : Arr w g t (x :: l)) : w.rangeAt g 1 l := fun j v hv => by
  rw [Nat.add_comm]; exact h.cell (i := j + 1) (by simpa using hv)
theorem Arr.rd1 {w : World} {g : Nat} {t : TypeId} {x : Value} {l : List UInt8} (h : Arr w g t (x :: u8s l)) {n : Nat} (hn : l.length = n) : Rd w (some ⟨g, 1, none⟩) n (u8s l) := by
  subst hn
  have := h.rd 1 l.length (by simp; omega)
  rwa [List.drop_one, List.tail_cons, List.take_of_length_le (by simp)] at this
theorem wrap_rem (z : Int) (m : Nat) (hm : 0 < m) (hm2 : m < 1000) : ∃ i : Nat, i < m ∧ wrap64 ((IntKind.u64.wrap z).tmod m) = i := by
  have h0 : 0 ≤ z % 18446744073709551616 := Int.emod_nonneg _ (by omega)
  refine ⟨((z % 18446744073709551616) % m).toNat, ?_, ?_⟩
  · have := Int.emod_lt_of_pos (z % 18446744073709551616) (b := m) (by omega)
    have := Int.emod_nonneg (z % 18446744073709551616) (b := m) (by omega)
    omega
  · have h1 := Int.emod_lt_of_pos (z % 18446744073709551616) (b := m) (by omega)
    have h2 := Int.emod_nonneg (z % 18446744073709551616) (b := m) (by omega)
    rw [IntKind.wrap_u64, Int.tmod_eq_emod_of_nonneg h0, Int.toNat_of_nonneg h2]
    exact IntWalk.wrap64_in _ (by omega)
theorem run_field {P : Program} {ev : Operand → Value} {d : Option Tmp} {t T : TypeId} {s : String} {af : Array Edge} {gd : Option (Nat × Bool)} {w : World} {x : Operand} {g i o k : Nat} {fs : Array Field} {f : Field} (hT : P.underlying T = some (.struct fs)) (hf : fs[i]? = some f) (ho : f.offset = o)
    (hsz : (P.info? f.type).map (·.size) = some (k + 1)) (h1 : ev x = .pointer (some ⟨g, 0, none⟩)) :
    (execOp ev ⟨d, .fieldAddr T x i, t, s, af, gd⟩).run P w = .ok (.value (.pointer (some ⟨g, o, none⟩))) w := by
  subst ho
  have hs : (sizeOf f.type).run P w = .ok (k + 1) w := by
    cases hq : P.info? f.type with
    | none => simp [hq] at hsz
    | some ti =>
      have h2 : ti.size = k + 1 := by simpa [hq] using hsz
      simp [sizeOf, typeInfo, hq, h2]
  simp [execOp, h1, Instr.fieldAt, Instr.sureAddr, run_underlying hT, hf, fieldPlace, hs, add_row]
end Go.Proofs.Ythffodfnnjejnaa

