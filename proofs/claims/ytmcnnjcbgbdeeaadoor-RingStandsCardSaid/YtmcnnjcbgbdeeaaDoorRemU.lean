/- Numbers bent into a range, operation by operation. No condition. -/
import Derived.Test.YtmcnnjcbgbdeeaaDoorRem
import Derived.Test.YtmcnnjcbgbdeeaaDoorIdx
import Derived.Test.YtmcnnjcbgbdeeaaDoorSl
namespace Go.Proofs.YtmcnnjcbgbdeeaaDoor
open Go.RowKit
section
variable {P : Program} {ev : Operand → Value} {d : Option Tmp} {t S T U : TypeId} {p : String} {af : Array Edge} {gd : Option (Nat × Bool)} {w : World} {x y : Operand}
theorem run_toU (hs : P.underlying S = some (.int .i64)) (hd : P.underlying T = some (.int .u64)) {z : Int} (h1 : ev x = .int .i64 z) : (execOp ev ⟨d, .convert S T x, t, p, af, gd⟩).run P w = .ok (.value (.int .u64 (IntKind.u64.wrap z))) w := by
  simp only [execOp, h1]
  go_simp
theorem run_remU {a : Int} {m : Nat} (hm : 0 < m) (h1 : ev x = .int .u64 a) (h2 : ev y = .int .u64 (m : Int)) : (execOp ev ⟨d, .binOp .rem T x y U, t, p, af, gd⟩).run P w = .ok (.value (.int .u64 (a.tmod m))) w := by
  simp only [execOp, h1, h2]
  go_simp
  omega
theorem run_toI (hs : P.underlying S = some (.int .u64)) (hd : P.underlying T = some (.int .i64)) {a : Int} {i : Nat} (h : wrap64 a = (i : Int)) (h1 : ev x = .int .u64 a) : (execOp ev ⟨d, .convert S T x, t, p, af, gd⟩).run P w = .ok (.value (.int .i64 (i : Int))) w := by
  simp only [execOp, h1]
  go_simp
  rw [IntKind.wrap_i64]
  unfold wrap64 at h
  exact h
theorem run_toN (hs : P.underlying S = some (.int .i64)) (hd : P.underlying T = some (.int .u64)) {n : Nat} (hn : n < 18446744073709551616) (h1 : ev x = .int .i64 (n : Int)) : (execOp ev ⟨d, .convert S T x, t, p, af, gd⟩).run P w = .ok (.value (.int .u64 (n : Int))) w := by
  rw [run_toU hs hd h1, IntKind.wrap_u64, Int.emod_eq_of_lt (by omega) (by omega)]
theorem run_addC {a b : Nat} (h1 : ev x = .int .i64 (a : Int)) (h2 : ev y = .int .i64 (b : Int)) (hl : a + b ≤ 9223372036854775807) : (execOp ev ⟨d, .binOp .add T x y U, t, p, af, gd⟩).run P w = .ok (.value (.int .i64 ((a + b : Nat) : Int))) w := by
  simp only [execOp, h1, h2]
  go_simp
  exact IntWalk.i64_in _ (by omega)
theorem run_idxRow {g n c k : Nat} (h1 : ev x = .slice (some ⟨g, 0, none⟩) n c) (h2 : ev y = .int .i64 (k : Int)) (hk : k < n) :
    (execOp ev ⟨d, .indexAddr 42 x y, t, p, af, gd⟩).run Tryd.prog w = .ok (.value (.pointer (some ⟨g, k, none⟩))) w := by
  have := run_idxSl (P := Tryd.prog) (d := d) (t := t) (p := p) (af := af) (gd := gd) (w := w) Tryd.underlying42 (by kernel_rfl) h1 h2 hk
  rw [this, add_row, Nat.zero_add]
theorem run_xor8 {a b : UInt8} (h1 : ev x = .int .u8 a.toNat) (h2 : ev y = .int .u8 b.toNat) :
    (execOp ev ⟨d, .binOp .xor T x y U, t, p, af, gd⟩).run P w = .ok (.value (.int .u8 ((a ^^^ b).toNat : Int))) w := by
  simp only [execOp, h1, h2]
  go_simp
  exact u8_xor_nat _ _ a.toNat_lt b.toNat_lt
end
theorem wpList_setA {P : Program} {w : World} {g : Nat} {t : TypeId} {cs : List Value} {ops : Array Oper} {rest : List Oper} {op : Oper} {a : Act} {Q : Exit → Act → World → Prop} (h : Arr w g t cs) (hgd : op.guard = none) (ty : TypeId) (x y : Operand) (ho : op.op = .store ty x y)
    (hT : (P.info? ty).map (·.size) = some 1) (i : Nat) (kd : IntKind) (z : Int) (hx : a.eval x = .pointer (some ⟨g, i, none⟩)) (hy : a.eval y = .int kd z) (hi : i < cs.length)
    (hK : ∀ w2, Arr w2 g t (cs.set i (.int kd z)) → Below g w w2 → (∀ g' t' cs', g' ≠ g → Arr w g' t' cs' → Arr w2 g' t' cs') → wpList P ops Q rest (a.put op.dst undef) w2) : wpList P ops Q (op :: rest) a w := by
  refine wpList_plain hgd fun K hKK => ?_
  unfold Oper.wp
  obtain ⟨dst, o, tt, ps, af, gd⟩ := op
  simp only at ho
  subst ho
  rw [run_store1 hT hx hy (by rw [h.cell (List.getElem?_eq_getElem hi)]; rfl) (h.frozen i)]
  exact hKK _ _ (hK _ (h.set i _) (below_setCell (Nat.le_refl _)) (fun g' t' cs' hne hA => hA.other hne _))
theorem own_arr {w : World} {base : Nat} {e : TypeId} {n : Nat} {v : Value} {xs : List Value} (h : w.ownsRow base e 1 v n xs) (hn : 0 < n) : ∃ g c cs, v = .slice (some ⟨g, 0, none⟩) n c ∧ base ≤ g ∧ n ≤ c ∧ cs.length = c ∧ Arr w g e cs ∧ cs.take n = xs := by
  rcases h.2 with ⟨_, e2⟩ | ⟨g, cap, cur, e1, h1, h2, h3, _, h5, h6⟩
  · omega
  · exact ⟨g, cap, cur.toList, e1, h1, h3, by simpa using h5, by show w.heap[g]? = _; simpa using h2, by simpa using h6⟩
theorem Arr.rdTake {w : World} {g : Nat} {t : TypeId} {cs xs : List Value} {n : Nat} (h : Arr w g t cs) (hn : n ≤ cs.length) (hx : cs.take n = xs) : Rd w (some ⟨g, 0, none⟩) n xs := by
  have := h.rd 0 n (by omega)
  rwa [List.drop_zero, hx] at this
end Go.Proofs.YtmcnnjcbgbdeeaaDoor
