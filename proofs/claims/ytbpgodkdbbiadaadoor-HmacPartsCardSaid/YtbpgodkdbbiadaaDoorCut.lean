/- A part of an array as a slice; arrays whole: load, store, box. No condition. -/
import Derived.Test.YtbpgodkdbbiadaaDoorU32
namespace Go.Proofs.YtbpgodkdbbiadaaDoor
open Go.RowKit
section
variable {P : Program} {T e : TypeId} {n : Nat}
theorem arrayLen_of (hT : P.underlying T = some (.array n e)) : P.arrayLen T = n ∧ P.elem T = e := by
  simp [Program.arrayLen, Program.elem, hT]
theorem run_cutA (hT : P.underlying T = some (.array n e)) (hsz : (P.info? e).map (·.size) = some 1) (g lo hi : Nat) (h1 : lo ≤ hi) (h2 : hi ≤ n) (h3 : lo < n) (l h : Int) (hl : l = lo) (hh : h = hi) (w : World) :
    (Instr.sliceAt T (.pointer (some ⟨g, 0, none⟩)) (some (.int .i64 l)) (some (.int .i64 h)) none).run P w = .ok (.slice (some ⟨g, lo, none⟩) (hi - lo) (n - lo)) w := by
  subst hl hh
  obtain ⟨e1, e2⟩ := arrayLen_of hT
  rw [run_sliceAt_array_lh w T _ (by rw [e1, e2]; exact hT) _ _ _ _ (by omega) (by omega) (by rw [e1]; omega), e1, e2]
  simp only [run_size1 hsz, Result.andThen_ok, slicedAt, Int.toNat_natCast, Nat.mul_one]
  rw [if_neg (by omega), add_row, Nat.zero_add]
theorem run_cutAll (hT : P.underlying T = some (.array n e)) (hsz : (P.info? e).map (·.size) = some 1) (g : Nat) (w : World) :
    (Instr.sliceAt T (.pointer (some ⟨g, 0, none⟩)) none none none).run P w = .ok (.slice (some ⟨g, 0, none⟩) n n) w := by
  obtain ⟨e1, e2⟩ := arrayLen_of hT
  rw [run_sliceAt_array_all w T _ (by rw [e1, e2]; exact hT), e1, e2]
  simp only [run_size1 hsz, Result.andThen_ok, slicedAt, Nat.sub_zero, Nat.zero_mul, add_zero_, ite_self]
theorem Arr.loadAt {w : World} {g : Nat} {t : TypeId} {cs : List Value} (h : Arr w g t cs) (hT : P.underlying T = some (.array n e)) (hi : (P.info? T).map (·.size) = some cs.length) :
    (Instr.loadAt T (.pointer (some ⟨g, 0, none⟩))).run P w = .ok (.agg cs.toArray) w := run_loadAt_mid w g 0 T cs _ h.range hT rfl hi
theorem Arr.storeAt {w : World} {g : Nat} {t : TypeId} {cs : List Value} (h : Arr w g t cs) (vs : Array Value) (hl : vs.size = cs.length) (hi : (P.info? T).map (·.size) = some vs.size) (h1 : vs.all (·.oneCell') = true) :
    (Instr.storeAt T (.pointer (some ⟨g, 0, none⟩)) (.agg vs)).run P w = .ok () (w.setCells g 0 vs.toList) := run_storeAt_mid w g 0 T vs (hl ▸ h.there) hi h1
theorem run_indexA {k : IntKind} (hT : P.underlying T = some (.array n e)) (hE : P.underlying e = some (.int k)) (hsz : (P.info? e).map (·.size) = some 1) {C : List Value} {i : Nat} {v : Value} (hv : C[i]? = some v) (hi : i < n) (w : World) :
    (Instr.index T (.agg C.toArray) (.int .i64 i)).run P w = .ok v w := by
  simp [Instr.index, run_underlying hT, asIntOf, hi, run_size1 hsz, part, isAgg, run_underlying hE, hv]
theorem run_arrAt (hT : P.underlying T = some (.array n e)) {A : Option Addr} {len c : Nat} (h : n ≤ len) (w : World) :
    (Instr.arrayAt T (.slice A len c)).run P w = .ok (.pointer A) w := by
  simp [Instr.arrayAt, run_underlying hT, show ¬ len < n by omega]
theorem there_new (w : World) (t : TypeId) (C : Array Value) (n : Nat) (hn : C.size = n) (b : Nat) (hb : b = w.heap.size) : (w.alloc (.cells C t)).there b 0 n := by
  subst hn hb
  have := (Arr.new' w t C).there
  simpa using this
theorem Arr.newSet {w : World} {t : TypeId} {C : Array Value} {b : Nat} {vs : List Value} (hb : w.heap.size = b) (hl : vs.length = C.size) : Arr ((w.alloc (.cells C t)).setCells b 0 vs) b t vs := by
  subst hb
  exact (Arr.new' w t C).setAll vs (by simpa using hl)
/-- A variable that was just made takes a whole array. -/
theorem wpList_new {ops : Array Oper} {rest : List Oper} {op : Oper} {a : Act} {Q : Exit → Act → World → Prop} {w : World} {C : Array Value} {t : TypeId} (hgd : op.guard = none) (ty : TypeId) (x y : Operand) (ho : op.op = .store ty x y)
    (b : Nat) (vs : List Value) (hx : a.eval x = .pointer (some ⟨b, 0, none⟩)) (hy : a.eval y = .agg vs.toArray) (hb : b = w.heap.size) (hn : C.size = vs.length)
    (hi : (P.info? ty).map (·.size) = some vs.length) (h1 : ∀ v ∈ vs, v.oneCell' = true)
    (h : ∀ w2, Arr w2 b t vs → Gr w w2 → wpList P ops Q rest (a.put op.dst undef) w2) : wpList P ops Q (op :: rest) a (w.alloc (.cells C t)) := by
  subst hb
  refine wpList_store_mid hgd ty x y ho w.heap.size 0 vs.toArray hx hy (there_new _ _ _ _ (by simpa using hn) _ rfl) (by simpa using hi) (all_oneCell_toArray h1) ?_
  exact h _ (Arr.newSet rfl (by simpa using hn.symm)) (((Below.refl _ _).alloc (Nat.le_refl _) _).trans (below_setCells (Nat.le_refl _) _ _ _))
end
end Go.Proofs.YtbpgodkdbbiadaaDoor
