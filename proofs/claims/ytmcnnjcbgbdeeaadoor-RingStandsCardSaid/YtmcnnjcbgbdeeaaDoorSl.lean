/- Parts of slices; one cell of a block of the call's own stored behind a drawn region. No condition. -/
import Derived.Test.YtmcnnjcbgbdeeaaDoorMem
import Derived.Test.YtmcnnjcbgbdeeaaDoorIdx
import Derived.Test.YtmcnnjcbgbdeeaaDoorKitA
namespace Go.Proofs.YtmcnnjcbgbdeeaaDoor
open Go.RowKit
/-- Where a part begins. -/
def cutA (A : Option Addr) (c lo : Nat) : Option Addr := if c = lo then A else A.map (·.add lo)
theorem cutA_zero (A : Option Addr) (c : Nat) : cutA A c 0 = A := by
  unfold cutA
  split
  · rfl
  · cases A <;> simp [add_zero_]
section
variable {P : Program} {T e : TypeId} {A : Option Addr} {n c lo hi : Nat} {l h : Int}
theorem run_cut_lh (hT : P.underlying T = some (.slice e)) (hsz : (P.info? e).map (·.size) = some 1) (hl : l = lo) (hh : h = hi) (h1 : lo ≤ hi) (h2 : hi ≤ c) (w : World) :
    (Instr.sliceAt T (.slice A n c) (some (.int .i64 l)) (some (.int .i64 h)) none).run P w = .ok (.slice (cutA A c lo) (hi - lo) (c - lo)) w := by
  subst hl hh
  have e1 : P.elem T = e := by simp [Program.elem, hT]
  rw [run_sliceAt_slice w T _ _ _ _ (by rw [e1]; exact hT), run_slice_lh w T _ _ _ (by rw [e1]; exact hT) _ _ _ _ (by omega) (by omega) (by omega), e1]
  simp only [run_size1 hsz, Result.andThen_ok, sliced, Nat.mul_one, Int.toNat_natCast, cutA]
theorem run_cut_l (hT : P.underlying T = some (.slice e)) (hsz : (P.info? e).map (·.size) = some 1) (hl : l = lo) (h1 : lo ≤ n) (w : World) :
    (Instr.sliceAt T (.slice A n c) (some (.int .i64 l)) none none).run P w = .ok (.slice (cutA A c lo) (n - lo) (c - lo)) w := by
  subst hl
  have e1 : P.elem T = e := by simp [Program.elem, hT]
  rw [run_sliceAt_slice w T _ _ _ _ (by rw [e1]; exact hT), run_slice_l w T _ _ _ (by rw [e1]; exact hT) _ _ (by omega) (by omega), e1]
  simp only [run_size1 hsz, Result.andThen_ok, sliced, Nat.mul_one, Int.toNat_natCast, cutA]
theorem run_cut_h (hT : P.underlying T = some (.slice e)) (hsz : (P.info? e).map (·.size) = some 1) (hh : h = hi) (h2 : hi ≤ c) (w : World) :
    (Instr.sliceAt T (.slice A n c) none (some (.int .i64 h)) none).run P w = .ok (.slice A hi c) w := by
  subst hh
  have e1 : P.elem T = e := by simp [Program.elem, hT]
  have e2 : A.map (·.add 0) = A := by cases A <;> simp [add_zero_]
  rw [run_sliceAt_slice w T _ _ _ _ (by rw [e1]; exact hT), run_slice_h w T _ _ _ (by rw [e1]; exact hT) _ _ (by omega) (by omega), e1]
  simp only [run_size1 hsz, Result.andThen_ok, sliced, Nat.zero_mul, e2, ite_self, Nat.sub_zero, Int.toNat_natCast]
end
section
variable {P : Program} {T e : TypeId} {n : Nat}
theorem run_acut_l (hT : P.underlying T = some (.array n e)) (hsz : (P.info? e).map (·.size) = some 1) (g lo : Nat) (h2 : lo < n) (h : Int) (hh : h = lo) (w : World) :
    (Instr.sliceAt T (.pointer (some ⟨g, 0, none⟩)) (some (.int .i64 h)) none none).run P w = .ok (.slice (some ⟨g, lo, none⟩) (n - lo) (n - lo)) w := by
  subst hh
  obtain ⟨e1, e2⟩ := arrayLen_of hT
  rw [run_sliceAt_array_l w T _ (by rw [e1, e2]; exact hT) _ _ (by omega) (by rw [e1]; omega), e1, e2]
  simp only [run_size1 hsz, Result.andThen_ok, slicedAt, Int.toNat_natCast, Nat.mul_one]
  rw [if_neg (by omega), add_row, Nat.zero_add]
theorem run_acut_h (hT : P.underlying T = some (.array n e)) (hsz : (P.info? e).map (·.size) = some 1) (g hi : Nat) (h2 : hi ≤ n) (h : Int) (hh : h = hi) (w : World) :
    (Instr.sliceAt T (.pointer (some ⟨g, 0, none⟩)) none (some (.int .i64 h)) none).run P w = .ok (.slice (some ⟨g, 0, none⟩) hi n) w := by
  subst hh
  obtain ⟨e1, e2⟩ := arrayLen_of hT
  rw [run_sliceAt_array_h w T _ (by rw [e1, e2]; exact hT) _ _ (by omega) (by rw [e1]; omega), e1, e2]
  simp only [run_size1 hsz, Result.andThen_ok, slicedAt, Nat.sub_zero, Nat.zero_mul, Int.toNat_natCast, add_zero_, ite_self]
end
theorem Rd.cutLH {w : World} {A : Option Addr} {n c lo hi : Nat} {xs : List Value} (h : Rd w A n xs) (h1 : lo ≤ hi) (h2 : hi ≤ n) (h3 : n ≤ c) : Rd w (cutA A c lo) (hi - lo) ((xs.drop lo).take (hi - lo)) :=
  (h.cut (k := lo) (by omega) h3).take (by omega)
theorem Rd.cutL {w : World} {A : Option Addr} {n c lo : Nat} {xs : List Value} (h : Rd w A n xs) (h2 : lo ≤ n) (h3 : n ≤ c) : Rd w (cutA A c lo) (n - lo) (xs.drop lo) := h.cut (k := lo) (by omega) h3
section
variable {P : Program} {B g : Nat} {w0 w w' : World} {L : List (Nat × TypeId × List Value)} {t : TypeId} {cs : List Value}
theorem wpList_setM {ops : Array Oper} {rest : List Oper} {op : Oper} {a : Act} {Q : Exit → Act → World → Prop} (h : Mem B w0 w L) (k : Nat) (hk : L[k]? = some (g, t, cs)) (hgd : op.guard = none) (ty : TypeId) (x y : Operand) (ho : op.op = .store ty x y)
    (hT : (P.info? ty).map (·.size) = some 1) (i : Nat) (kd : IntKind) (z : Int) (hx : a.eval x = .pointer (some ⟨g, i, none⟩)) (hy : a.eval y = .int kd z) (hi : i < cs.length)
    (hK : ∀ w2, Mem B w0 w2 (L.set k (g, t, cs.set i (.int kd z))) → Below g w w2 → wpList P ops Q rest (a.put op.dst undef) w2) : wpList P ops Q (op :: rest) a w := by
  refine wpList_plain hgd fun K hKK => ?_
  unfold Oper.wp
  obtain ⟨dst, o, tt, ps, af, gd⟩ := op
  simp only at ho
  subst ho
  rw [run_store1 hT hx hy (by rw [(h.at_ k hk).cell (List.getElem?_eq_getElem hi)]; rfl) ((h.at_ k hk).frozen i)]
  exact hKK _ _ (hK _ (h.set k hk i _) (below_setCell (Nat.le_refl _)))
end
end Go.Proofs.YtmcnnjcbgbdeeaaDoor
