/- Small laws of this seat, laid as one text. No condition. -/
import Derived.Test.YtnmhfomnlnlflaaDoorKitA
import Derived.Lib.AppendZerosOnto
import Derived.Maps.Keyed
import Derived.DeepKeys4
import Derived.Carry
import Derived.WideLaws
import Derived.ChangeMaps5
import Derived.Laws.Tables
import Derived.Stop.BytesEq
import Derived.Laws.StructEq
import Derived.Laws.Small
import Derived.Lib.AppendStr
/- Blocks of the call's own, told as one list, the newest first. No condition. -/
namespace Go.Proofs.YtnmhfomnlnlflaaDoor
open Go.RowKit
/-- From B on the call owns these blocks, all unlike; below B nothing has turned since w0. -/
structure Mem (B : Nat) (w0 w : World) (L : List (Nat × TypeId × List Value)) : Prop where
  arr : ∀ x ∈ L, Arr w x.1 x.2.1 x.2.2
  dis : L.Pairwise fun a b => b.1 < a.1
  base : ∀ x ∈ L, B ≤ x.1
  below : Below B w0 w
section
variable {B g : Nat} {w0 w w' : World} {L : List (Nat × TypeId × List Value)} {t : TypeId} {cs : List Value}
theorem Mem.nil (w : World) : Mem w.heap.size w w [] := ⟨fun x h => by simp at h, List.Pairwise.nil, fun x h => by simp at h, Below.refl _ _⟩
theorem Mem.at_ (h : Mem B w0 w L) (k : Nat) (hk : L[k]? = some (g, t, cs)) : Arr w g t cs := h.arr _ (List.mem_of_getElem? hk)
theorem Mem.size (h : Mem B w0 w L) (hB : B ≤ w0.heap.size) : B ≤ w.heap.size := Nat.le_trans hB h.below.size
theorem Mem.lt (h : Mem B w0 w L) (k : Nat) (hk : L[k]? = some (g, t, cs)) : g < w.heap.size := (h.at_ k hk).lt
theorem Mem.le (h : Mem B w0 w L) (k : Nat) (hk : L[k]? = some (g, t, cs)) : B ≤ g := h.base _ (List.mem_of_getElem? hk)
theorem Mem.gr (h : Mem B w0 w L) (hB : B ≤ w0.heap.size) (hG : Gr w w') : Mem B w0 w' L :=
  ⟨fun x hx => (h.arr x hx).gr hG, h.dis, h.base, h.below.trans (hG.mono (h.size hB))⟩
theorem Mem.dr (h : Mem B w0 w L) (hd : Dr w w') : Mem B w0 w' L :=
  ⟨fun x hx => (h.arr x hx).dr hd, h.dis, h.base, h.below.trans (below_dr hd)⟩
theorem Mem.cons (h : Mem B w0 w L) (hB : B ≤ w0.heap.size) (hG : Gr w w') {n : Nat} (ha : Arr w' n t cs) (hn : w.heap.size ≤ n) : Mem B w0 w' ((n, t, cs) :: L) := by
  have h' := h.gr hB hG
  refine ⟨fun x hx => ?_, List.pairwise_cons.2 ⟨fun y hy => ?_, h.dis⟩, fun x hx => ?_, h'.below⟩
  · rcases List.mem_cons.1 hx with rfl | hx
    · exact ha
    · exact h'.arr x hx
  · exact Nat.lt_of_lt_of_le (h.arr y hy).lt hn
  · rcases List.mem_cons.1 hx with rfl | hx
    · exact Nat.le_trans (h.size hB) hn
    · exact h.base x hx
/-- A variable just made. -/
theorem Mem.new (h : Mem B w0 w L) (hB : B ≤ w0.heap.size) {C : Array Value} (hC : C.toList = cs) : Mem B w0 (w.alloc (.cells C t)) ((w.heap.size, t, cs) :: L) :=
  h.cons hB (Gr.alloc _ _) (Arr.newAt rfl hC) (Nat.le_refl _)
theorem Mem.drop1 {x : Nat × TypeId × List Value} (h : Mem B w0 w (x :: L)) : Mem B w0 w L :=
  ⟨fun y hy => h.arr y (List.mem_cons_of_mem _ hy), (List.pairwise_cons.1 h.dis).2, fun y hy => h.base y (List.mem_cons_of_mem _ hy), h.below⟩
theorem Mem.skip {x y : Nat × TypeId × List Value} (h : Mem B w0 w (x :: y :: L)) : Mem B w0 w (x :: L) := by
  have h1 := List.pairwise_cons.1 h.dis
  refine ⟨fun z hz => h.arr z ?_, List.pairwise_cons.2 ⟨fun z hz => h1.1 z (List.mem_cons_of_mem _ hz), (List.pairwise_cons.1 h1.2).2⟩, fun z hz => h.base z ?_, h.below⟩
  all_goals
    rcases List.mem_cons.1 hz with rfl | hz
    · exact List.mem_cons_self
    · exact List.mem_cons_of_mem _ (List.mem_cons_of_mem _ hz)
theorem pairwise_set_ {L : List (Nat × TypeId × List Value)} (h : L.Pairwise fun a b => b.1 < a.1) {k : Nat} (hk : L[k]? = some (g, t, cs)) (cs' : List Value) : (L.set k (g, t, cs')).Pairwise fun a b => b.1 < a.1 := by
  have e : (L.set k (g, t, cs')).map (·.1) = L.map (·.1) := by
    apply List.ext_getElem?
    intro i
    rw [List.getElem?_map, List.getElem?_map, List.getElem?_set]
    split
    · rename_i hi
      subst hi
      have hlt : k < L.length := by
        rcases Nat.lt_or_ge k L.length with h1 | h1
        · exact h1
        · rw [List.getElem?_eq_none h1] at hk; cases hk
      rw [hk]
      simp [hlt]
    · rfl
  have h2 : ((L.set k (g, t, cs')).map (·.1)).Pairwise fun a b => b < a := by
    rw [e]
    exact List.pairwise_map.2 h
  exact List.pairwise_map.1 h2
theorem Mem.turn (h : Mem B w0 w L) (k : Nat) (hk : L[k]? = some (g, t, cs)) {cs' : List Value} (ha : Arr w' g t cs') (ho : ∀ g' t' cs1, g' ≠ g → Arr w g' t' cs1 → Arr w' g' t' cs1) (hb : Below g w w') :
    Mem B w0 w' (L.set k (g, t, cs')) := by
  have hlt : k < L.length := by
    rcases Nat.lt_or_ge k L.length with h1 | h1
    · exact h1
    · rw [List.getElem?_eq_none h1] at hk; cases hk
  refine ⟨fun x hx => ?_, pairwise_set_ h.dis hk cs', fun x hx => ?_, h.below.trans (hb.mono (h.le k hk))⟩
  · obtain ⟨i, hi⟩ := List.mem_iff_getElem?.1 hx
    rw [List.getElem?_set] at hi
    split at hi
    · injection hi with hi
      subst hi
      exact ha
    · rename_i hne
      refine ho _ _ _ (fun e => ?_) (h.arr x (List.mem_of_getElem? hi))
      have hil : i < L.length := by
        rcases Nat.lt_or_ge i L.length with h1 | h1
        · exact h1
        · rw [List.getElem?_eq_none h1] at hi; cases hi
      have e1 : L[i] = x := by rw [List.getElem?_eq_getElem hil] at hi; injection hi
      have e2 : L[k] = (g, t, cs) := by rw [List.getElem?_eq_getElem hlt] at hk; injection hk
      have hp := List.pairwise_iff_getElem.1 h.dis
      rcases Nat.lt_or_ge i k with h1 | h1
      · have := hp i k hil hlt h1
        rw [e1, e2] at this
        exact absurd this (by simp only; omega)
      · have := hp k i hlt hil (by omega)
        rw [e1, e2] at this
        exact absurd this (by simp only; omega)
  · obtain ⟨i, hi⟩ := List.mem_iff_getElem?.1 hx
    rw [List.getElem?_set] at hi
    split at hi
    · injection hi with hi
      subst hi
      exact h.le k hk
    · exact h.base x (List.mem_of_getElem? hi)
/-- One cell stored. -/
theorem Mem.set (h : Mem B w0 w L) (k : Nat) (hk : L[k]? = some (g, t, cs)) (i : Nat) (v : Value) : Mem B w0 (w.setCell ⟨g, i, none⟩ v) (L.set k (g, t, cs.set i v)) :=
  h.turn k hk ((h.at_ k hk).set i v) (fun _ _ _ hne ha => ha.other hne v) (below_setCell (Nat.le_refl _))
/-- A whole array stored (what wpList_put leaves). -/
theorem Mem.put (h : Mem B w0 w L) (k : Nat) (hk : L[k]? = some (g, t, cs)) {cs' : List Value} (ha : Arr w' g t cs') (hb : Below g w w') (ho : ∀ g' t' cs1, g' ≠ g → Arr w g' t' cs1 → Arr w' g' t' cs1) : Mem B w0 w' (L.set k (g, t, cs')) :=
  h.turn k hk ha ho hb
variable {P : Program}
theorem wpList_putM {ops : Array Oper} {rest : List Oper} {op : Oper} {a : Act} {Q : Exit → Act → World → Prop} (h : Mem B w0 w L) (k : Nat) (hk : L[k]? = some (g, t, cs)) (hgd : op.guard = none) (ty : TypeId) (x y : Operand) (ho : op.op = .store ty x y)
    (vs : List Value) (hx : a.eval x = .pointer (some ⟨g, 0, none⟩)) (hy : a.eval y = .agg vs.toArray) (hn : cs.length = vs.length)
    (hi : (P.info? ty).map (·.size) = some vs.length) (h1 : ∀ v ∈ vs, v.oneCell' = true)
    (K : ∀ w2, Mem B w0 w2 (L.set k (g, t, vs)) → Below g w w2 → wpList P ops Q rest (a.put op.dst undef) w2) : wpList P ops Q (op :: rest) a w :=
  wpList_put (h.at_ k hk) hgd ty x y ho vs hx hy hn hi h1 fun w2 h2 h3 h4 => K w2 (h.put k hk h2 h3 h4) h3
theorem wpList_newM {ops : Array Oper} {rest : List Oper} {op : Oper} {a : Act} {Q : Exit → Act → World → Prop} {C : Array Value} (h : Mem B w0 w L) (hB : B ≤ w0.heap.size) (hgd : op.guard = none) (ty : TypeId) (x y : Operand) (ho : op.op = .store ty x y)
    (b : Nat) (vs : List Value) (hx : a.eval x = .pointer (some ⟨b, 0, none⟩)) (hy : a.eval y = .agg vs.toArray) (hb : b = w.heap.size) (hn : C.size = vs.length)
    (hi : (P.info? ty).map (·.size) = some vs.length) (h1 : ∀ v ∈ vs, v.oneCell' = true)
    (K : ∀ w2, Mem B w0 w2 ((b, t, vs) :: L) → Gr w w2 → wpList P ops Q rest (a.put op.dst undef) w2) : wpList P ops Q (op :: rest) a (w.alloc (.cells C t)) :=
  wpList_new hgd ty x y ho b vs hx hy hb hn hi h1 fun w2 h2 h3 => K w2 (h.cons hB h3 h2 (by omega)) h3
end
end Go.Proofs.YtnmhfomnlnlflaaDoor
/- Single operations, told: a byte of a string, a byte as a number, sums of numbers. No condition. -/
namespace Go.Proofs.YtnmhfomnlnlflaaDoor
open Go.RowKit
section
variable {P : Program} {ev : Operand → Value} {d : Option Tmp} {t T U S e : TypeId} {p : String} {af : Array Edge} {gd : Option (Nat × Bool)} {w : World} {x y : Operand}
theorem run_idxS (hT : P.underlying T = some .string) {s : ByteArray} {k : Nat} {c : UInt8} (h1 : ev x = .string s) (h2 : ev y = .int .i64 k) (hk : k < s.size) (hc : s[k]'hk = c) :
    (execOp ev ⟨d, .index T x y, t, p, af, gd⟩).run P w = .ok (.value (.int .u8 c.toNat)) w := by
  simp only [execOp, h1, h2]
  go_simp
theorem run_u8int (hs : P.underlying S = some (.int .u8)) (hd : P.underlying T = some (.int .i64)) {c : UInt8} (h1 : ev x = .int .u8 c.toNat) :
    (execOp ev ⟨d, .convert S T x, t, p, af, gd⟩).run P w = .ok (.value (.int .i64 (c.toNat : Nat))) w := by
  have h : c.toNat < 256 := c.toNat_lt
  simp only [execOp, h1]
  go_simp
  exact IntWalk.i64_in _ (by omega)
theorem run_addN {a b : Nat} (h1 : ev x = .int .i64 a) (h2 : ev y = .int .i64 b) (hl : a + b ≤ 9223372036854775807) :
    (execOp ev ⟨d, .binOp .add T x y U, t, p, af, gd⟩).run P w = .ok (.value (.int .i64 ((a + b : Nat) : Int))) w := by
  simp only [execOp, h1, h2]
  go_simp
  exact IntWalk.i64_in _ (by omega)
theorem run_mulN {a b : Nat} (h1 : ev x = .int .i64 a) (h2 : ev y = .int .i64 b) (hl : a * b ≤ 9223372036854775807) :
    (execOp ev ⟨d, .binOp .mul T x y U, t, p, af, gd⟩).run P w = .ok (.value (.int .i64 ((a * b : Nat) : Int))) w := by
  simp only [execOp, h1, h2]
  go_simp
  rw [← Int.natCast_mul]
  exact IntWalk.i64_in _ (by omega)
theorem run_subN {a b : Nat} (h1 : ev x = .int .i64 a) (h2 : ev y = .int .i64 b) (hl : b ≤ a) (ha : a ≤ 9223372036854775807) :
    (execOp ev ⟨d, .binOp .sub T x y U, t, p, af, gd⟩).run P w = .ok (.value (.int .i64 ((a - b : Nat) : Int))) w := by
  simp only [execOp, h1, h2]
  go_simp
  rw [← Int.ofNat_sub hl]
  exact IntWalk.i64_in _ (by omega)
theorem run_negN {a : Nat} (h1 : ev x = .int .i64 a) (ha : a ≤ 9223372036854775807) :
    (execOp ev ⟨d, .unOp .neg T x, t, p, af, gd⟩).run P w = .ok (.value (.int .i64 (-(a : Int)))) w := by
  simp only [execOp, h1]
  go_simp
  exact IntWalk.i64_in _ (by omega)
theorem run_lssN {a b : Nat} (h1 : ev x = .int .i64 a) (h2 : ev y = .int .i64 b) :
    (execOp ev ⟨d, .binOp .lss T x y U, t, p, af, gd⟩).run P w = .ok (.value (.bool (decide (a < b)))) w := by
  simp only [execOp, h1, h2]
  go_simp
theorem run_not32 {a : UInt32} (h1 : ev x = .int .u32 a.toNat) :
    (execOp ev ⟨d, .unOp .xor T x, t, p, af, gd⟩).run P w = .ok (.value (.int .u32 ((~~~a).toNat : Int))) w := by
  simp only [execOp, h1]
  go_simp
  have e1 : (if IntKind.u32.signed = true then -1 else IntKind.u32.max) = ((0xFFFFFFFF : UInt32).toNat : Int) := rfl
  rw [e1, xor32]
  congr 1
  have h := a.toNat_lt
  have e2 : (0xFFFFFFFF : UInt32) ^^^ a = ~~~a := UInt32.toBitVec_inj.1 (BitVec.allOnes_xor (x := a.toBitVec))
  rw [e2, UInt32.toNat_not]
  rfl
theorem run_shr32 {a : UInt32} {k : Nat} (h1 : ev x = .int .u32 a.toNat) (h2 : ev y = .int .i64 k) (hk : k < 32) :
    (execOp ev ⟨d, .binOp .shr T x y U, t, p, af, gd⟩).run P w = .ok (.value (.int .u32 ((a >>> UInt32.ofNat k).toNat : Int))) w := by
  simp only [execOp, h1, h2]
  go_simp
  rw [Nat.mod_eq_of_lt hk, Int.shiftRight_eq_div_pow]
  simp
theorem run_idxSl (hT : P.underlying T = some (.slice e)) (hsz : (P.info? e).map (·.size) = some 1) {ad : Addr} {n c k : Nat} (h1 : ev x = .slice (some ad) n c) (h2 : ev y = .int .i64 k) (hk : k < n) :
    (execOp ev ⟨d, .indexAddr T x y, t, p, af, gd⟩).run P w = .ok (.value (.pointer (some (ad.add k)))) w := by
  simp only [execOp, h1, h2]
  go_simp
  simp [run_size1 hsz]
theorem run_loadSl (hT : P.underlying T = some (.slice e)) {ad : Addr} {v : Value} (h1 : ev x = .pointer (some ad)) (hc : w.cell? ad = some v) : (execOp ev ⟨d, .load T x, t, p, af, gd⟩).run P w = .ok (.value v) w := by
  have ha : (isAgg T).run P w = .ok false w := by simp [isAgg, run_underlying hT]
  simp only [execOp, h1]
  go_simp
theorem run_shr32w {a : UInt32} {k : Nat} (h1 : ev x = .int .u32 a.toNat) (h2 : ev y = .int .u64 k) (hk : k < 32) :
    (execOp ev ⟨d, .binOp .shr T x y U, t, p, af, gd⟩).run P w = .ok (.value (.int .u32 ((a >>> UInt32.ofNat k).toNat : Int))) w := by
  simp only [execOp, h1, h2]
  go_simp
  rw [Nat.mod_eq_of_lt hk, Int.shiftRight_eq_div_pow]
  simp
end
theorem Gr.cell {w w' : World} (h : Gr w w') {p : Addr} {v : Value} (hc : w.cell? p = some v) : w'.cell? p = some v := (Below.cell h (lt_of_cell hc)).trans hc
end Go.Proofs.YtnmhfomnlnlflaaDoor
/- Parts of slices; one cell of a block of the call's own stored behind a drawn region. No condition. -/
namespace Go.Proofs.YtnmhfomnlnlflaaDoor
open Go.RowKit
/-- Where a part begins. -/
def cutA (A : Option Addr) (c lo : Nat) : Option Addr := if c = lo then A else A.map (·.add lo)
theorem cutA_zero (A : Option Addr) (c : Nat) : cutA A c 0 = A := by
  unfold cutA
  split
  · rfl
  · cases A <;> simp [add_zero_]
section
variable {P : Program} {T e : TypeId} {A : Option Addr} {n c lo hi : Nat} {l h : Int}
theorem run_cut_lh (hT : P.underlying T = some (.slice e)) (hsz : (P.info? e).map (·.size) = some 1) (hl : l = lo) (hh : h = hi) (h1 : lo ≤ hi) (h2 : hi ≤ c) (w : World) :
    (Instr.sliceAt T (.slice A n c) (some (.int .i64 l)) (some (.int .i64 h)) none).run P w = .ok (.slice (cutA A c lo) (hi - lo) (c - lo)) w := by
  subst hl hh
  have e1 : P.elem T = e := by simp [Program.elem, hT]
  rw [run_sliceAt_slice w T _ _ _ _ (by rw [e1]; exact hT), run_slice_lh w T _ _ _ (by rw [e1]; exact hT) _ _ _ _ (by omega) (by omega) (by omega), e1]
  simp only [run_size1 hsz, Result.andThen_ok, sliced, Nat.mul_one, Int.toNat_natCast, cutA]
theorem run_cut_l (hT : P.underlying T = some (.slice e)) (hsz : (P.info? e).map (·.size) = some 1) (hl : l = lo) (h1 : lo ≤ n) (w : World) :
    (Instr.sliceAt T (.slice A n c) (some (.int .i64 l)) none none).run P w = .ok (.slice (cutA A c lo) (n - lo) (c - lo)) w := by
  subst hl
  have e1 : P.elem T = e := by simp [Program.elem, hT]
  rw [run_sliceAt_slice w T _ _ _ _ (by rw [e1]; exact hT), run_slice_l w T _ _ _ (by rw [e1]; exact hT) _ _ (by omega) (by omega), e1]
  simp only [run_size1 hsz, Result.andThen_ok, sliced, Nat.mul_one, Int.toNat_natCast, cutA]
theorem run_cut_h (hT : P.underlying T = some (.slice e)) (hsz : (P.info? e).map (·.size) = some 1) (hh : h = hi) (h2 : hi ≤ c) (w : World) :
    (Instr.sliceAt T (.slice A n c) none (some (.int .i64 h)) none).run P w = .ok (.slice A hi c) w := by
  subst hh
  have e1 : P.elem T = e := by simp [Program.elem, hT]
  have e2 : A.map (·.add 0) = A := by cases A <;> simp [add_zero_]
  rw [run_sliceAt_slice w T _ _ _ _ (by rw [e1]; exact hT), run_slice_h w T _ _ _ (by rw [e1]; exact hT) _ _ (by omega) (by omega), e1]
  simp only [run_size1 hsz, Result.andThen_ok, sliced, Nat.zero_mul, e2, ite_self, Nat.sub_zero, Int.toNat_natCast]
end
section
variable {P : Program} {T e : TypeId} {n : Nat}
theorem run_acut_l (hT : P.underlying T = some (.array n e)) (hsz : (P.info? e).map (·.size) = some 1) (g lo : Nat) (h2 : lo < n) (h : Int) (hh : h = lo) (w : World) :
    (Instr.sliceAt T (.pointer (some ⟨g, 0, none⟩)) (some (.int .i64 h)) none none).run P w = .ok (.slice (some ⟨g, lo, none⟩) (n - lo) (n - lo)) w := by
  subst hh
  obtain ⟨e1, e2⟩ := arrayLen_of hT
  rw [run_sliceAt_array_l w T _ (by rw [e1, e2]; exact hT) _ _ (by omega) (by rw [e1]; omega), e1, e2]
  simp only [run_size1 hsz, Result.andThen_ok, slicedAt, Int.toNat_natCast, Nat.mul_one]
  rw [if_neg (by omega), add_row, Nat.zero_add]
theorem run_acut_h (hT : P.underlying T = some (.array n e)) (hsz : (P.info? e).map (·.size) = some 1) (g hi : Nat) (h2 : hi ≤ n) (h : Int) (hh : h = hi) (w : World) :
    (Instr.sliceAt T (.pointer (some ⟨g, 0, none⟩)) none (some (.int .i64 h)) none).run P w = .ok (.slice (some ⟨g, 0, none⟩) hi n) w := by
  subst hh
  obtain ⟨e1, e2⟩ := arrayLen_of hT
  rw [run_sliceAt_array_h w T _ (by rw [e1, e2]; exact hT) _ _ (by omega) (by rw [e1]; omega), e1, e2]
  simp only [run_size1 hsz, Result.andThen_ok, slicedAt, Nat.sub_zero, Nat.zero_mul, Int.toNat_natCast, add_zero_, ite_self]
end
theorem Rd.cutLH {w : World} {A : Option Addr} {n c lo hi : Nat} {xs : List Value} (h : Rd w A n xs) (h1 : lo ≤ hi) (h2 : hi ≤ n) (h3 : n ≤ c) : Rd w (cutA A c lo) (hi - lo) ((xs.drop lo).take (hi - lo)) :=
  (h.cut (k := lo) (by omega) h3).take (by omega)
theorem Rd.cutL {w : World} {A : Option Addr} {n c lo : Nat} {xs : List Value} (h : Rd w A n xs) (h2 : lo ≤ n) (h3 : n ≤ c) : Rd w (cutA A c lo) (n - lo) (xs.drop lo) := h.cut (k := lo) (by omega) h3
section
variable {P : Program} {B g : Nat} {w0 w w' : World} {L : List (Nat × TypeId × List Value)} {t : TypeId} {cs : List Value}
theorem wpList_setM {ops : Array Oper} {rest : List Oper} {op : Oper} {a : Act} {Q : Exit → Act → World → Prop} (h : Mem B w0 w L) (k : Nat) (hk : L[k]? = some (g, t, cs)) (hgd : op.guard = none) (ty : TypeId) (x y : Operand) (ho : op.op = .store ty x y)
    (hT : (P.info? ty).map (·.size) = some 1) (i : Nat) (kd : IntKind) (z : Int) (hx : a.eval x = .pointer (some ⟨g, i, none⟩)) (hy : a.eval y = .int kd z) (hi : i < cs.length)
    (hK : ∀ w2, Mem B w0 w2 (L.set k (g, t, cs.set i (.int kd z))) → Below g w w2 → wpList P ops Q rest (a.put op.dst undef) w2) : wpList P ops Q (op :: rest) a w := by
  refine wpList_plain hgd fun K hKK => ?_
  unfold Oper.wp
  obtain ⟨dst, o, tt, ps, af, gd⟩ := op
  simp only at ho
  subst ho
  rw [run_store1 hT hx hy (by rw [(h.at_ k hk).cell (List.getElem?_eq_getElem hi)]; rfl) ((h.at_ k hk).frozen i)]
  exact hKK _ _ (hK _ (h.set k hk i _) (below_setCell (Nat.le_refl _)))
end
end Go.Proofs.YtnmhfomnlnlflaaDoor
/- Slices of slices of bytes; slices.Grow and slices.Concat of them. No condition. -/
namespace Go.Proofs.YtnmhfomnlnlflaaDoor
open Go.RowKit Go.Lib
/-- One slice of bytes, as it lies. -/
structure Part where
  A : Option Addr
  n : Nat
  c : Nat
  l : List UInt8
def Part.val (p : Part) : Value := .slice p.A p.n p.c
/-- The address A begins n places with these slices, each of which reads its bytes. -/
structure Parts (w : World) (A : Option Addr) (n : Nat) (ps : List Part) : Prop where
  row : Rd w A n (ps.map Part.val)
  each : ∀ p ∈ ps, Rd w p.A p.n (u8s p.l) ∧ p.n ≤ p.c
def allP (ps : List Part) : List UInt8 := ps.flatMap (·.l)
section
variable {w w' : World} {A : Option Addr} {n : Nat} {ps : List Part}
theorem Parts.len (h : Parts w A n ps) : ps.length = n := by simpa using h.row.1
theorem Parts.gr (h : Parts w A n ps) (g : Gr w w') : Parts w' A n ps := ⟨g.rd h.row, fun p hp => ⟨g.rd (h.each p hp).1, (h.each p hp).2⟩⟩
theorem Parts.at_ (h : Parts w A n ps) {k : Nat} (hk : k < n) : ∃ ad p, A = some ad ∧ ps[k]? = some p ∧ w.cell? (ad.add k) = some p.val ∧ Rd w p.A p.n (u8s p.l) ∧ p.n ≤ p.c ∧ p.l.length = p.n := by
  have hl : k < ps.length := by rw [h.len]; exact hk
  obtain ⟨ad, e, hc⟩ := h.row.2 k (ps[k]).val (by simp [List.getElem?_eq_getElem hl])
  have hm : ps[k] ∈ ps := List.getElem_mem _
  refine ⟨ad, ps[k], e, List.getElem?_eq_getElem hl, hc, (h.each _ hm).1, (h.each _ hm).2, ?_⟩
  simpa using (h.each _ hm).1.1
end
theorem allP_take {ps : List Part} {k : Nat} {p : Part} (h : ps[k]? = some p) : allP (ps.take (k + 1)) = allP (ps.take k) ++ p.l := by
  rw [take_snoc_ ps k p h, allP, List.flatMap_append]
  simp [allP]
theorem allP_le {ps : List Part} (k : Nat) : (allP (ps.take k)).length ≤ (allP ps).length := by
  have e : allP ps = allP (ps.take k) ++ allP (ps.drop k) := by
    rw [allP, allP, allP, ← List.flatMap_append, List.take_append_drop]
  rw [e, List.length_append]
  omega
theorem zeroCells_size (z : Value) (hz : z.cells.size = 1) (n : Nat) : (Builtin.zeroCells z.cells n).size = n := by simp [Builtin.zeroCells, hz]
set_option maxRecDepth 100000 in
set_option maxHeartbeats 2000000 in
theorem growNil_any (n : Nat) (hn : n ≤ 1000000000) (w : World) :
    Calls Tryd.prog 82 #[.slice none 0 0, .int .i64 n] w fun e w' => ∃ v, e = .returned v ∧ w'.ownsRow w.heap.size 5 1 v 0 [] ∧ Below w.heap.size w w' := by
  obtain ⟨i0, hi0, hz0, hz1, hz2⟩ := info_parts Tryd.info5
  have h1 : ¬ ((n : Int) < 0) := by omega
  rcases Nat.eq_zero_or_pos n with h0 | h0
  · subst h0
    simp only [show ((0 : Nat) : Int) = 0 from rfl]
    go_enter Tryd.func82, Tryd.ntmps82
    go_wp2_with fail
    go_ret
    exact ⟨_, rfl, World.ownsRow_nil _ _ _ _, Below.refl _ _⟩
  · have hrz := fun ty => Lib.run_append_grow_zeros (P := Tryd.prog) w 27 3 ty 5 i0 (.int .u8 0) .i64 .i64 Tryd.underlying27 Tryd.underlying3 hi0 hz0 none 0 0 [] (by rw [hz1]; exact run_firstCells_none w.drew 1 0 0 0) n (by omega) (by omega) (by omega) (by omega) (by rw [hz2]; omega) (growslice_fits (by omega) (by rw [hz2]; omega))
    simp only [Nat.zero_add] at hrz
    have hg := grownCap_ge w n 0 5
    have hm := grownCap_le_maxLen w n 0 5 (by unfold maxLen; omega)
    have hg2 : grownCap w n 0 5 ≤ 9223372036854775807 := by unfold maxLen at hm; exact hm
    generalize grownCap w n 0 5 = G at hrz hg hm hg2
    have h4 : (0 : Int) < (n : Int) := by omega
    go_enter Tryd.func82, Tryd.ntmps82
    go_wp2_with (at_builtin; refine Lib.wpList_append_run _ rfl _ _ _ _ rfl _ _ rfl rfl _ _ (hrz _) ?_)
    go_ret
    refine ⟨_, rfl, ⟨rfl, .inr ⟨w.heap.size, G, _, rfl, Nat.le_refl _, heap_alloc_new _ _, by omega, hm, ?_, rfl⟩⟩, ?_⟩
    · have e : ∀ k, (Builtin.zeroCells #[Value.int .u8 0] k).size = k := fun k => zeroCells_size (.int .u8 0) rfl k
      simp only [Nat.mul_one, Array.size_append, e]
      omega
    · exact ((Below.refl _ _).drew).alloc (Nat.le_refl _) _
set_option maxRecDepth 100000 in
set_option maxHeartbeats 2000000 in
theorem concat_any (A : Option Addr) (n c : Nat) (ps : List Part) (hn : n ≤ 1000000) (hl : (allP ps).length ≤ 1000000) (w : World) (h : Parts w A n ps) :
    Calls Tryd.prog 63 #[.slice A n c] w fun e w' => ∃ v, e = .returned v ∧ w'.ownsRow w.heap.size 5 1 v (allP ps).length (u8s (allP ps)) ∧ Below w.heap.size w w' := by
  obtain ⟨i0, hi0, hz0, hz1, hz2⟩ := info_parts Tryd.info5
  obtain ⟨T, hT⟩ : ∃ T : Nat → List UInt8, T = fun k => allP (ps.take k) := ⟨_, rfl⟩
  have hTl : ∀ k, (T k).length ≤ 1000000 := by intro k; rw [hT]; exact Nat.le_trans (allP_le k) hl
  have hTs : ∀ k p, ps[k]? = some p → T (k + 1) = T k ++ p.l := by intro k p hp; rw [hT]; exact allP_take hp
  have hTe : ∀ k, k = n → allP ps = T k := by intro k hk; rw [hT, hk, ← h.len]; simp
  have hT0 : T 0 = [] := by rw [hT]; simp [allP]
  have HTL := Lib.hid hTl
  have HTS := Lib.hid hTs
  have HTE := Lib.hid hTe
  have HT0 := Lib.hid hT0
  clear hT hTl hTs hTe hT0 hl
  go_enter Tryd.func63, Tryd.ntmps63
  go_wp2_with fail
  go_loop [3, 11] (fun s i => ∃ k z : Nat, k ≤ n ∧ i = .int .i64 k ∧ s = .int .i64 z ∧ Hid (z = (T k).length)) (fun _ i => n - (intOf i).toNat)
  case atStart => exact ⟨0, 0, by omega, rfl, rfl, by show _ = _; rw [HT0.out]; rfl⟩
  case round =>
    obtain ⟨k, z, hk, rfl, rfl, hz⟩ := hrel
    by_cases hlt : k < n
    · obtain ⟨ad, p, rfl, hp, hc, hr, hpc, hpl⟩ := h.at_ hlt
      have hc' : w.cell? (ad.add k) = some (.slice p.A p.n p.c) := hc
      have hz2 : z + p.n = (T (k + 1)).length := by rw [HTS.out k p hp, List.length_append, hz.out, hpl]
      have hz3 : z + p.n ≤ 1000000 := by rw [hz2]; exact HTL.out _
      have HZ2 := Lib.hid hz2
      clear hz2 hc hp hpl
      go_wp2_with fail
      go_round
      case rel => exact ⟨k + 1, z + p.n, by omega, by go_num, by go_num, HZ2⟩
      case measure => simp [intOf]; omega
    · obtain rfl : n = k := by omega
      have hzl : z ≤ 1000000 := by rw [hz.out]; exact HTL.out _
      go_wp2_with (go_at_call 82; refine (growNil_any z (by omega) _).mono ?_; rintro e w1 ⟨v1, rfl, ho1, hB1⟩)
      have h1 := h.gr hB1
      clear hlt hk hz hzl
      go_loopw [6, 27] (fun v i wr => ∃ k : Nat, k ≤ n ∧ i = .int .i64 k ∧ wr.ownsRow w.heap.size 5 1 v (T k).length (u8s (T k)) ∧ Below w.heap.size w wr) (fun _ i _ => n - (intOf i).toNat)
      case atStart => exact ⟨0, by omega, rfl, by rw [HT0.out]; exact ho1, hB1⟩
      case round =>
        clear h1 ho1 hB1
        obtain ⟨k, hk, rfl, hown, hB⟩ := hrel
        have hbs := hB.size
        by_cases hlt : k < n
        · obtain ⟨ad, p, rfl, hp, hc, hr, hpc, hpl⟩ := (h.gr hB).at_ hlt
          have hc' : wr.cell? (ad.add k) = some (.slice p.A p.n p.c) := hc
          have hTT := HTS.out k p hp
          have hl1 : (T k).length + p.n = (T (k + 1)).length := by rw [hTT, List.length_append, hpl]
          have hl2 := HTL.out (k + 1)
          have HTT := Lib.hid hTT
          obtain ⟨m, hm⟩ : ∃ m, m = (T k).length := ⟨_, rfl⟩
          rw [← hm] at hown hl1
          have hl3 : m + p.n ≤ 1000000 := by omega
          have HL1 := Lib.hid hl1
          clear hl1 hl2 hc hp hpl hTT hm
          go_wp2_with (at_builtin; go_must (refine wpList_app _ rfl (.tmp 31) (.tmp 32) 27 rfl w.heap.size 5 i0 (.int .u8 0) 1 Tryd.underlying27 hi0 hz0 hz1 hz2 rfl u6 m _ rfl hown p.A p.n p.c _ rfl hr (u8s_oneCell _) (by omega) (by unfold maxLen; omega) (by omega) ?_; rintro v2 w2 hA2))
          have ho2 := hA2.own
          have hB2 := hB.trans (hA2.below hown hbs)
          rw [← u8s_append, ← HTT.out, HL1.out] at ho2
          clear hA2 hown hB hr
          go_simp
          go_wp2_with fail
          go_roundw
          case rel => exact ⟨k + 1, by omega, by go_num, ho2⟩
          case measure => simp [intOf]; omega
        · obtain rfl : n = k := by omega
          rw [← HTE.out n rfl] at hown
          go_wp2_with fail
          go_ret
          exact ⟨_, rfl, hown, hB⟩
end Go.Proofs.YtnmhfomnlnlflaaDoor
/- Maps of one's own, by the list of their entries: looked up, written, counted. No condition. -/
namespace Go.Proofs.YtnmhfomnlnlflaaDoor
open Go.RowKit
open Go.Maps (Keyed)
open Go.ChangeMaps (setBlock)
/-- The block b is a map whose entries are, in the order in which they came, these pairs of keys and values. -/
def MapIs (P : Program) (k : TypeId) (w : World) (b : Nat) (L : List (Value × Value)) : Prop :=
  ∃ es clock, w.heap[b]? = some (.map es clock) ∧ es.toList.map (fun e => (e.key, e.val)) = L ∧ (∀ p ∈ L, ∃ l, keyOf P k p.1 = some l) ∧ (L.map Prod.fst).Nodup
section
variable {P : Program} {k t e : TypeId} {w w' : World} {b : Nat} {L : List (Value × Value)}
theorem MapIs.lt (h : MapIs P k w b L) : b < w.heap.size := by
  obtain ⟨es, c, hb, _⟩ := h
  exact (Array.getElem?_eq_some_iff.1 hb).1
theorem MapIs.same (h : MapIs P k w b L) (he : w'.heap[b]? = w.heap[b]?) : MapIs P k w' b L := by
  obtain ⟨es, c, hb, h2⟩ := h
  exact ⟨es, c, by rw [he]; exact hb, h2⟩
theorem MapIs.gr (h : MapIs P k w b L) (hG : Gr w w') : MapIs P k w' b L := h.same (hG.block b h.lt)
theorem MapIs.made (P : Program) (k : TypeId) (w : World) : MapIs P k (w.alloc (.map #[] 0)) w.heap.size [] := ⟨#[], 0, by unfold World.alloc; simp, rfl, by simp, by simp⟩
theorem MapIs.madeAt (P : Program) (k : TypeId) (w : World) {n : Nat} (h : w.heap.size = n) : MapIs P k (w.alloc (.map #[] 0)) n [] := by subst h; exact MapIs.made P k w
theorem nodup_val {k : Value} {v u : Value} : ∀ {L : List (Value × Value)}, (L.map Prod.fst).Nodup → (k, v) ∈ L → (k, u) ∈ L → v = u
  | [], _, h, _ => by cases h
  | (k0, v0) :: L, hn, h1, h2 => by
    simp only [List.map_cons, List.nodup_cons, List.mem_map, not_exists, not_and] at hn
    simp only [List.mem_cons, Prod.mk.injEq] at h1 h2
    rcases h1 with ⟨rfl, rfl⟩ | h1
    · rcases h2 with ⟨_, rfl⟩ | h2
      · rfl
      · exact absurd rfl (hn.1 _ h2)
    · rcases h2 with ⟨rfl, _⟩ | h2
      · exact absurd rfl (hn.1 _ h1)
      · exact nodup_val hn.2 h1 h2
/-- What is found at a key. -/
theorem MapIs.find (h : MapIs P k w b L) (K : Keyed P k) {x : Value} {lx : Lit} (hx : keyOf P k x = some lx) : ∃ es clock, w.heap[b]? = some (.map es clock) ∧ es.toList.map (fun e => (e.key, e.val)) = L ∧
    (((Instr.findKey k x es.toList).run P w = .ok none w ∧ ∀ p ∈ L, p.1 ≠ x) ∨ ∃ (j : Nat) (v : Value), (Instr.findKey k x es.toList).run P w = .ok (some (j, v)) w ∧ L[j]? = some (x, v) ∧ ∃ e, es[j]? = some e ∧ e.key = x ∧ e.val = v) := by
  obtain ⟨es, clock, hb, hL, hk, hn⟩ := h
  refine ⟨es, clock, hb, hL, ?_⟩
  have hes : ∀ e ∈ es.toList, ∃ l, keyOf P k e.key = some l := fun e he => hk (e.key, e.val) (by rw [← hL]; exact List.mem_map.2 ⟨e, he, rfl⟩)
  rcases K.find w hx es.toList hes with ⟨h1, h2⟩ | ⟨j, e, h1, h2, h3⟩
  · refine .inl ⟨h1, fun p hp => ?_⟩
    rw [← hL] at hp
    obtain ⟨e, he, rfl⟩ := List.mem_map.1 hp
    exact h2 e he
  · refine .inr ⟨j, e.val, h1, ?_, e, by simpa using h2, h3, rfl⟩
    rw [← hL, List.getElem?_map, h2]
    simp [h3]
theorem MapIs.hit (h : MapIs P k w b L) (K : Keyed P k) (ht : P.underlying t = some (.map k e)) {x v : Value} (hx : (x, v) ∈ L) (ok : Bool) :
    (Instr.lookup t (.map (some b)) x ok).run P w = .ok (if ok then .tuple #[v, .bool true] else v) w := by
  obtain ⟨lx, hlx⟩ : ∃ l, keyOf P k x = some l := by obtain ⟨_, _, _, _, hk, _⟩ := h; exact hk _ hx
  have hn : (L.map Prod.fst).Nodup := by obtain ⟨_, _, _, _, _, hn⟩ := h; exact hn
  obtain ⟨es, clock, hb, hL, h1⟩ := h.find K hlx
  rcases h1 with ⟨h1, h2⟩ | ⟨j, u, h1, h2, _⟩
  · exact absurd rfl (h2 _ hx)
  · have := nodup_val hn hx (List.mem_of_getElem? h2)
    subst this
    simp [Instr.lookup, run_underlying ht, MapKept.run_getObj_map hb, K.check w _ hlx, h1, Result.andThen]
theorem MapIs.miss (h : MapIs P k w b L) (K : Keyed P k) (ht : P.underlying t = some (.map k e)) {x z : Value} {lx : Lit} (hx : keyOf P k x = some lx) (hno : ∀ p ∈ L, p.1 ≠ x) (hz : (zeroValue e).run P w = .ok z w) (ok : Bool) :
    (Instr.lookup t (.map (some b)) x ok).run P w = .ok (if ok then .tuple #[z, .bool false] else z) w := by
  obtain ⟨es, clock, hb, hL, h1⟩ := h.find K hx
  rcases h1 with ⟨h1, h2⟩ | ⟨j, u, h1, h2, _⟩
  · simp [Instr.lookup, run_underlying ht, MapKept.run_getObj_map hb, K.check w _ hx, h1, hz, Result.andThen]
  · exact absurd rfl (hno _ (List.mem_of_getElem? h2))
/-- A new key is written. -/
theorem MapIs.add (h : MapIs P k w b L) (K : Keyed P k) (ht : P.underlying t = some (.map k e)) {x v : Value} {lx : Lit} (hx : keyOf P k x = some lx) (hno : ∀ p ∈ L, p.1 ≠ x) :
    ∃ w', (Instr.mapUpdate t (.map (some b)) x v).run P w = .ok () w' ∧ MapIs P k w' b (L ++ [(x, v)]) ∧ ∃ o, w' = setBlock w b o := by
  have hk : ∀ p ∈ L, ∃ l, keyOf P k p.1 = some l := by obtain ⟨_, _, _, _, hk, _⟩ := h; exact hk
  have hn : (L.map Prod.fst).Nodup := by obtain ⟨_, _, _, _, _, hn⟩ := h; exact hn
  obtain ⟨es, clock, hb, hL, h1⟩ := h.find K hx
  rcases h1 with ⟨h1, h2⟩ | ⟨j, u, h1, h2, _⟩
  · refine ⟨setBlock w b (.map (es.push ⟨x, v, clock⟩) (clock + 1)), ?_, ⟨_, _, ChangeMaps.heap_setBlock_same hb _, by simp [hL], ?_, ?_⟩, _, rfl⟩
    · simp [Instr.mapUpdate, run_underlying ht, MapKept.run_getObj_map hb, K.check w _ hx, h1, MapKept.run_setObj_map _ hb, Result.andThen, setBlock]
    · intro p hp
      rcases List.mem_append.1 hp with hp | hp
      · exact hk p hp
      · rw [List.mem_singleton.1 hp]; exact ⟨lx, hx⟩
    · rw [List.map_append, List.map_singleton, List.nodup_append]
      refine ⟨hn, by simp, fun a ha c hc => ?_⟩
      obtain ⟨p, hp, rfl⟩ := List.mem_map.1 ha
      rw [List.mem_singleton.1 hc]
      exact h2 p hp
  · exact absurd rfl (hno _ (List.mem_of_getElem? h2))
theorem run_len_mapIs {ty : TypeId} (h : MapIs P k w b L) (ht : P.underlying t = some (.map k e)) : (Builtin.len_ #[t] ty #[.map (some b)]).run P w = .ok (.int .i64 (L.length : Nat)) w := by
  obtain ⟨es, clock, hb, hL, _⟩ := h
  have hl : es.size = L.length := by rw [← hL]; simp
  have h1 : P.underlying t = some (.map (P.mapKeyOf t) (P.mapElemOf t)) := by
    rw [ht]; simp [Program.mapKeyOf, Program.mapElemOf, ht]
  rw [run_len_map (P := P) w t ty b es clock h1 hb, hl]
  rfl
end
section
variable {P : Program} {k t e : TypeId} {b : Nat} {L : List (Value × Value)} {ev : Operand → Value} {d : Option Tmp} {ty T U : TypeId} {p : String} {af : Array Edge} {gd : Option (Nat × Bool)} {w : World} {x y : Operand}
theorem run_hit (h : MapIs P k w b L) (K : Keyed P k) (ht : P.underlying t = some (.map k e)) {key v : Value} (h1 : ev x = .map (some b)) (h2 : ev y = key) (hx : (key, v) ∈ L) (ok : Bool) :
    (execOp ev ⟨d, .lookup t x y ok, ty, p, af, gd⟩).run P w = .ok (.value (if ok then .tuple #[v, .bool true] else v)) w := by
  simp only [execOp, h1, h2, Sem.run_bind, h.hit K ht hx ok, Result.andThen_ok, Sem.run_pure]
theorem run_miss (h : MapIs P k w b L) (K : Keyed P k) (ht : P.underlying t = some (.map k e)) {key z : Value} {lx : Lit} (h1 : ev x = .map (some b)) (h2 : ev y = key) (hx : keyOf P k key = some lx) (hno : ∀ p ∈ L, p.1 ≠ key) (hz : (zeroValue e).run P w = .ok z w) (ok : Bool) :
    (execOp ev ⟨d, .lookup t x y ok, ty, p, af, gd⟩).run P w = .ok (.value (if ok then .tuple #[z, .bool false] else z)) w := by
  simp only [execOp, h1, h2, Sem.run_bind, h.miss K ht hx hno hz ok, Result.andThen_ok, Sem.run_pure]
end
section
variable {P : Program} {ops : Array Oper} {Q : Exit → Act → World → Prop} {rest : List Oper} {o : Oper} {a : Act} {w : World} {k t e : TypeId} {b : Nat} {L : List (Value × Value)}
/-- A new key is written: the statement. -/
theorem wpList_add (hgd : o.guard = none) (m x v : Operand) (ho : o.op = .mapUpdate t m x v) (h : MapIs P k w b L) (K : Keyed P k) (ht : P.underlying t = some (.map k e)) {key val : Value} {lx : Lit} (hm : a.eval m = .map (some b)) (h1 : a.eval x = key) (h2 : a.eval v = val)
    (hx : keyOf P k key = some lx) (hno : ∀ p ∈ L, p.1 ≠ key) (hK : ∀ o' w', w' = setBlock w b o' → MapIs P k w' b (L ++ [(key, val)]) → wpList P ops Q rest (a.put o.dst undef) w') : wpList P ops Q (o :: rest) a w := by
  refine wpList_plain hgd fun K' hK' => ?_
  obtain ⟨w', hrun, hM, o', hw⟩ := h.add K ht (v := val) hx hno
  unfold Oper.wp
  simp only [execOp, ho, hm, h1, h2, Sem.run_bind, hrun, Result.andThen_ok, Sem.run_pure]
  exact hK' _ _ (hK o' w' hw hM)
end
end Go.Proofs.YtnmhfomnlnlflaaDoor
/- What a call may turn: blocks of a kind, above a mark; all else stands. No condition. -/
namespace Go.Proofs.YtnmhfomnlnlflaaDoor
open Go.RowKit
open Go.ChangeMaps (setBlock)
/-- May what lies in a block turn? -/
def Turns (τ : Nat → Obj → Bool) (k : Nat) : Option Obj → Bool
  | some o => τ k o
  | none => false
/-- From w to w': what lies below B stands, and so does all that may not turn. -/
structure Tn (τ : Nat → Obj → Bool) (B : Nat) (w w' : World) : Prop where
  os : w'.os = w.os
  tape : w'.tape = w.tape
  output : w'.output = w.output
  size : w.heap.size ≤ w'.heap.size
  block : ∀ k, k < w.heap.size → (k < B ∨ Turns τ k w.heap[k]? = false) → w'.heap[k]? = w.heap[k]?
  turns : ∀ k, k < w.heap.size → Turns τ k w'.heap[k]? = Turns τ k w.heap[k]?
section
variable {τ : Nat → Obj → Bool} {B : Nat} {w w' w2 : World}
theorem Tn.of_gr (h : Gr w w') : Tn τ B w w' := ⟨h.os, h.tape, h.output, h.size, fun k hk _ => h.block k hk, fun k hk => by rw [h.block k hk]⟩
theorem Tn.refl (w : World) : Tn τ B w w := Tn.of_gr (Gr.refl w)
theorem Tn.trans (h : Tn τ B w w') (k : Tn τ B w' w2) : Tn τ B w w2 :=
  ⟨k.os.trans h.os, k.tape.trans h.tape, k.output.trans h.output, Nat.le_trans h.size k.size,
   fun i hi ho => (k.block i (Nat.lt_of_lt_of_le hi h.size) (by rw [h.turns i hi]; exact ho)).trans (h.block i hi ho),
   fun i hi => (k.turns i (Nat.lt_of_lt_of_le hi h.size)).trans (h.turns i hi)⟩
theorem Tn.gr (h : Tn τ B w w') (k : Gr w' w2) : Tn τ B w w2 := h.trans (Tn.of_gr k)
theorem Tn.drew (h : Tn τ B w w') : Tn τ B w w'.drew := h.gr (Gr.drew w')
theorem Tn.down (h : Tn τ B w w') {B' : Nat} (hb : B' ≤ B) : Tn τ B' w w' :=
  ⟨h.os, h.tape, h.output, h.size, fun k hk ho => h.block k hk (ho.imp (fun x => Nat.lt_of_lt_of_le x hb) id), h.turns⟩
theorem Tn.below (h : Tn τ B w w') (hB : B ≤ w.heap.size) : Below B w w' := ⟨h.os, h.tape, h.output, h.size, fun k hk => h.block k (Nat.lt_of_lt_of_le hk hB) (.inl hk)⟩
/-- Nothing turns: all stands. -/
theorem Tn.stands (h : Tn τ B w w') (hn : ∀ k o, τ k o = false) : Gr w w' := ⟨h.os, h.tape, h.output, h.size, fun k hk => h.block k hk (.inr (by cases w.heap[k]? <;> simp [Turns, hn]))⟩
theorem Turns.wide {σ : Nat → Obj → Bool} (hs : ∀ k o, σ k o = true → τ k o = true) {k : Nat} {o : Option Obj} (h : Turns σ k o = true) : Turns τ k o = true := by
  rcases o with _ | o
  · cases h
  · exact hs _ _ h
/-- Fewer turn. -/
theorem Tn.wide {σ : Nat → Obj → Bool} (h : Tn σ B w w') (hs : ∀ k o, σ k o = true → τ k o = true) : Tn τ B w w' := by
  have hf : ∀ {k : Nat} {o : Option Obj}, Turns τ k o = false → Turns σ k o = false := fun {k o} h => by
    rcases hb : Turns σ k o
    · rfl
    · rw [Turns.wide hs hb] at h; cases h
  refine ⟨h.os, h.tape, h.output, h.size, fun k hk ho => h.block k hk (ho.imp id hf), fun k hk => ?_⟩
  rcases hb : Turns σ k w.heap[k]?
  · rw [h.block k hk (.inr hb)]
  · rw [Turns.wide hs hb, Turns.wide hs (by rw [h.turns k hk]; exact hb)]
theorem Arr.tn {g : Nat} {t : TypeId} {cs : List Value} (h : Arr w g t cs) (hT : Tn τ B w w') (ht : ∀ C f, τ g (.cells C t f) = false) : Arr w' g t cs := by
  unfold Arr at *
  rw [hT.block g (Arr.lt h) (.inr (by rw [h]; exact ht _ _))]
  exact h
theorem Arr.tnB {g : Nat} {t : TypeId} {cs : List Value} (h : Arr w g t cs) (hT : Tn τ B w w') (hg : g < B) : Arr w' g t cs := by
  unfold Arr at *
  rw [hT.block g (Arr.lt h) (.inl hg)]
  exact h
/-- A row that is read and does not turn. -/
structure RdS (τ : Nat → Obj → Bool) (B : Nat) (w : World) (A : Option Addr) (n : Nat) (xs : List Value) : Prop where
  rd : Rd w A n xs
  safe : 0 < n → ∀ ad, A = some ad → ad.block < w.heap.size ∧ (ad.block < B ∨ Turns τ ad.block w.heap[ad.block]? = false)
theorem RdS.nil (w : World) (A : Option Addr) : RdS τ B w A 0 [] := ⟨Rd.nil _ _, fun h => absurd h (by omega)⟩
theorem RdS.tn {A : Option Addr} {n : Nat} {xs : List Value} (h : RdS τ B w A n xs) (hT : Tn τ B w w') : RdS τ B w' A n xs := by
  rcases Nat.eq_zero_or_pos n with rfl | hn
  · have hx : xs = [] := List.eq_nil_of_length_eq_zero h.rd.1
    subst hx
    exact RdS.nil _ _
  · refine ⟨h.rd.keep fun p hp he => ?_, fun _ ad e => ?_⟩
    · obtain ⟨ad, u, e1, _, hu⟩ := h.rd.at_ hn
      have hb := h.safe hn ad e1
      have hpe := he ad e1
      exact World.cell?_of_block (hT.block p.block hp (by rw [hpe]; exact hb.2))
    · obtain ⟨h1, h2⟩ := h.safe hn ad e
      refine ⟨Nat.lt_of_lt_of_le h1 hT.size, h2.imp id fun hf => by rw [hT.turns _ h1]; exact hf⟩
theorem RdS.gr {A : Option Addr} {n : Nat} {xs : List Value} (h : RdS τ B w A n xs) (hG : Gr w w') : RdS τ B w' A n xs := h.tn (Tn.of_gr hG)
theorem RdS.of_old {A : Option Addr} {n : Nat} {xs : List Value} (h : Rd w A n xs) (hB : w.heap.size ≤ B) : RdS τ B w A n xs :=
  ⟨h, fun hn ad e => by
    obtain ⟨ad', u, e1, _, hu⟩ := h.at_ hn
    rw [e] at e1
    injection e1 with e1
    subst e1
    have := lt_of_cell hu
    rw [add_block] at this
    exact ⟨this, .inl (Nat.lt_of_lt_of_le this hB)⟩⟩
theorem RdS.of_own {A : Option Addr} {n c base : Nat} {e : TypeId} {xs : List Value} (h : w.ownsRow base e 1 (.slice A n c) n xs) (he : ∀ k C f, base ≤ k → τ k (.cells C e f) = false) : RdS τ B w A n xs :=
  ⟨Rd.of_own h, fun hn ad e1 => by
    subst e1
    rcases h.2 with ⟨e2, _⟩ | ⟨g, cap, cur, e2, hbg, hg, _⟩
    · injection e2 with e2; cases e2
    · injection e2 with e2
      injection e2 with e2
      subst e2
      exact ⟨(Array.getElem?_eq_some_iff.1 hg).1, .inr (by rw [hg]; exact he _ _ _ hbg)⟩⟩
theorem RdS.of_arr {g : Nat} {t : TypeId} {cs : List Value} {n : Nat} (h : Rd w (some ⟨g, 0, none⟩) n cs) {C : Array Value} {f : Nat × Nat} (hg : w.heap[g]? = some (.cells C t f)) (ht : τ g (.cells C t f) = false) : RdS τ B w (some ⟨g, 0, none⟩) n cs :=
  ⟨h, fun _ ad e1 => by
    injection e1 with e1
    subst e1
    exact ⟨(Array.getElem?_eq_some_iff.1 hg).1, .inr (by rw [hg]; exact ht)⟩⟩
theorem RdS.take {A : Option Addr} {n k : Nat} {xs : List Value} (h : RdS τ B w A n xs) (hk : k ≤ n) : RdS τ B w A k (xs.take k) := ⟨h.rd.take hk, fun h0 => h.safe (by omega)⟩
theorem MapIs.tn {P : Program} {k : TypeId} {b : Nat} {L : List (Value × Value)} (h : MapIs P k w b L) (hT : Tn τ B w w') (hb : ∀ es c, τ b (.map es c) = false) : MapIs P k w' b L := by
  have hl := h.lt
  obtain ⟨es, c, hbk, h2⟩ := h
  exact ⟨es, c, by rw [hT.block b hl (.inr (by rw [hbk]; exact hb _ _))]; exact hbk, h2⟩
theorem Tn.set {P : Program} {k : TypeId} {b : Nat} {L L' : List (Value × Value)} {o : Obj} (h : MapIs P k w b L) (hw : w' = setBlock w b o) (h' : MapIs P k w' b L') (hb : B ≤ b) (hm : ∀ es c, τ b (.map es c) = true) : Tn τ B w w' := by
  obtain ⟨es, c, hbk, _⟩ := h
  obtain ⟨es', c', hbk', _⟩ := h'
  subst hw
  have ho : ∀ i, i ≠ b → (setBlock w b o).heap[i]? = w.heap[i]? := fun i hi => ChangeMaps.heap_setBlock_other hbk o hi
  refine ⟨rfl, rfl, rfl, by simp [setBlock], fun i _ hf => ho i (fun e => ?_), fun i _ => ?_⟩
  · subst e
    rcases hf with hf | hf
    · omega
    · rw [hbk] at hf; simp [Turns, hm] at hf
  · by_cases e : i = b
    · subst e; rw [hbk', hbk]; simp [Turns, hm]
    · rw [ho i e]
theorem MapIs.other {P : Program} {k : TypeId} {b c : Nat} {L : List (Value × Value)} {o : Obj} (h : MapIs P k w b L) {es : Array MapEntry} {ck : Nat} (hc : w.heap[c]? = some (.map es ck)) (hne : b ≠ c) : MapIs P k (setBlock w c o) b L :=
  h.same (ChangeMaps.heap_setBlock_other hc o hne)
end
end Go.Proofs.YtnmhfomnlnlflaaDoor
/- Records that are built of parts, one of which is a row that is not known cell by cell. No condition. -/
namespace Go.Proofs.YtnmhfomnlnlflaaDoor
open Go.RowKit
theorem set_part (off : Nat) : ∀ (cs : List Value) (i : Nat) (C : Array Value), off + i + cs.length ≤ C.size →
    ((cs.zipIdx i).foldl (fun (C : Array Value) p => C.setIfInBounds (off + p.2) p.1) C).toList = C.toList.take (off + i) ++ cs ++ C.toList.drop (off + i + cs.length)
  | [], i, C, h => by simp
  | c :: cs, i, C, h => by
    rw [List.zipIdx_cons, List.foldl_cons, set_part off cs (i + 1) _ (by simp at h ⊢; omega)]
    have hl : off + i < C.toList.length := by simp at h ⊢; omega
    simp only [Array.toList_setIfInBounds, List.length_cons]
    rw [show off + (i + 1) + cs.length = off + i + (cs.length + 1) by omega, List.drop_set_of_lt (by omega), show off + (i + 1) = off + i + 1 by omega, List.take_add_one, List.take_set_of_le (by omega), List.getElem?_set_self hl]
    simp
/-- One part, laid into its place. -/
theorem fill_step (place : Nat → Option (Nat × Nat)) (C : Array Value) (i : Nat) (v : Value) (cs : List Value) (off : Nat) (hp : place i = some (off, cs.length)) (hv : v.cells = cs.toArray) (rest : List (Nat × Value)) (h : off + cs.length ≤ C.size) :
    Instr.fill place C ((i, v) :: rest) = Instr.fill place (C.toList.take off ++ cs ++ C.toList.drop (off + cs.length)).toArray rest := by
  have h1 := set_part off cs 0 C (by omega)
  simp only [Nat.add_zero] at h1
  have h2 : (cs.toArray.zipIdx.foldl (fun (C : Array Value) (x : Value × Nat) => C.setIfInBounds (off + x.2) x.1) C) = (C.toList.take off ++ cs ++ C.toList.drop (off + cs.length)).toArray := by
    rw [← h1, ← Array.foldl_toList]
    simp
  rw [Instr.fill]
  simp only [hp, hv]
  rw [if_neg (by simp; omega)]
  exact congrArg (fun x => Instr.fill place x rest) h2
end Go.Proofs.YtnmhfomnlnlflaaDoor
/- Drawn regions: operations that a guard leaves out, and operations whose outcome stays open. No condition. -/
namespace Go.Proofs.YtnmhfomnlnlflaaDoor
open Go.RowKit
section
variable {P : Program} {ops : Array Oper} {Q : Exit → Act → World → Prop} {L : List (Value → World → Prop)} {i : Nat} {o : Oper} {a a0 : Act} {w : World}
theorem notG (hF : Finds ops (fun i => L.getD i AnyV) a0 i o a w) (g d : Nat) (b : Bool) (v : Value) (hg : o.guard = some (g, b)) (hb : depB ops o g d = true) (hφ : L.getD g AnyV = IsV v) (hne : v ≠ .bool b) : ¬ Wanted ops o a := by
  unfold depB at hb
  simp only [Bool.and_eq_true] at hb
  obtain ⟨⟨h1, h2⟩, h3⟩ := hb
  have h1 : (ops[g]?).bind (fun o : Oper => o.dst) = some d := by simpa using h1
  cases hk' : ops[g]? with
  | none => rw [hk'] at h1; cases h1
  | some ok =>
    rw [hk'] at h1
    obtain ⟨u, hv, hf⟩ := hF.dep g ok d hk' h1 (by simpa using h2) h3
    simp only [hφ] at hf
    have hf : u = v := hf
    subst hf
    have h1' : ok.dst = some d := h1
    intro hw
    simp only [Wanted, Region.wanted, hg, yielded, hk', h1', Option.bind_some, hv] at hw
    cases u <;> simp_all
theorem notN (hF : Finds ops (fun i => L.getD i AnyV) a0 i o a w) (g d : Nat) (b : Bool) (hg : o.guard = some (g, b)) (hb : depB ops o g d = true) (hφ : L.getD g AnyV = IsV (.bool (!b))) : ¬ Wanted ops o a :=
  notG hF g d b _ hg hb hφ (by cases b <;> simp)
theorem notU (hF : Finds ops (fun i => L.getD i AnyV) a0 i o a w) (g d : Nat) (b : Bool) (hg : o.guard = some (g, b)) (hb : depB ops o g d = true) (hφ : L.getD g AnyV = IsV undef) : ¬ Wanted ops o a :=
  notG hF g d b _ hg hb hφ (by simp [undef])
theorem s_not (hi : ops[i]? = some o) (hw : ¬ Wanted ops o a) (hφ : L.getD i AnyV = IsV undef) : Step P ops Q L i o a w := by
  unfold Step wpOp
  unfold Wanted at hw
  simp only [hi, hw]
  exact ⟨undef, rfl, by rw [hφ]; rfl, Gr.refl _⟩
end
section
variable {P : Program} {ev : Operand → Value} {d : Option Tmp} {t T U S e : TypeId} {p : String} {af : Array Edge} {gd : Option (Nat × Bool)} {w : World} {x y : Operand}
theorem run_loadArr {g : Nat} {cs : List Value} (hT : ∃ n e, P.underlying T = some (.array n e)) (hi : (P.info? T).map (·.size) = some cs.length) (h1 : ev x = .pointer (some ⟨g, 0, none⟩)) (h : Arr w g t cs) :
    (execOp ev ⟨d, .load T x, t, p, af, gd⟩).run P w = .ok (.value (.agg cs.toArray)) w := by
  obtain ⟨n, e, hT⟩ := hT
  have h2 := h.loadAt hT hi
  simp only [execOp, h1, Sem.run_bind, h2, Result.andThen_ok, Sem.run_pure]
theorem run_loadMid {g off : Nat} {cs : List Value} (hT : ∃ n e, P.underlying T = some (.array n e)) (hi : (P.info? T).map (·.size) = some cs.length) (h1 : ev x = .pointer (some ⟨g, off, none⟩)) (h : w.rangeAt g off cs) :
    (execOp ev ⟨d, .load T x, t, p, af, gd⟩).run P w = .ok (.value (.agg cs.toArray)) w := by
  obtain ⟨n, e, hT⟩ := hT
  have h2 := run_loadAt_mid (P := P) w g off T cs _ h hT rfl hi
  simp only [execOp, h1, Sem.run_bind, h2, Result.andThen_ok, Sem.run_pure]
theorem run_load1B {ad : Addr} {v : Value} (hT : P.underlying T = some .bool ∨ (∃ k e, P.underlying T = some (.map k e)) ∨ P.underlying T = some .string ∨ (∃ e, P.underlying T = some (.slice e)) ∨ ∃ e, P.underlying T = some (.pointer e)) (h1 : ev x = .pointer (some ad)) (hc : w.cell? ad = some v) :
    (execOp ev ⟨d, .load T x, t, p, af, gd⟩).run P w = .ok (.value v) w := by
  have ha : (isAgg T).run P w = .ok false w := by
    rcases hT with hT | ⟨k, e, hT⟩ | hT | ⟨e, hT⟩ | ⟨e, hT⟩ <;> simp [isAgg, run_underlying hT]
  simp only [execOp, h1]
  go_simp
theorem run_eqBy {n : Nat} (hm : P.eqGuardType P.depth T = false) (ht : P.underlying T = some (.array n e)) (he : P.underlying e = some (.int .u8)) (hsz : ∀ w, (sizeOf e).run P w = .ok 1 w) {D E : List UInt8} (hD : D.length = n) (hE : E.length = n) (h1 : ev x = .agg (u8s D).toArray) (h2 : ev y = .agg (u8s E).toArray) :
    (execOp ev ⟨d, .binOp .eql T x y U, t, p, af, gd⟩).run P w = .ok (.value (.bool (D == E))) w := by
  have h3 : (Op.equalIn 10000 T (.agg (u8s D).toArray) (.agg (u8s E).toArray)).run P w = .ok (D == E) w := run_equalIn_bytes (P := P) w 9998 T e n ht he hsz D E hD hE
  simp only [execOp, h1, h2]
  have hg : (eqGuard .eql T x y (.agg (u8s D).toArray) (.agg (u8s E).toArray)).run P w = .ok () w := run_eqGuard_agg (P := P) w _ T x y _ _ hm
  have h4 := run_eql_struct (P := P) w T (u8s D).toArray (u8s E).toArray
  rw [h3] at h4
  go_simp
theorem run_neBy {n : Nat} (hm : P.eqGuardType P.depth T = false) (ht : P.underlying T = some (.array n e)) (he : P.underlying e = some (.int .u8)) (hsz : ∀ w, (sizeOf e).run P w = .ok 1 w) {D E : List UInt8} (hD : D.length = n) (hE : E.length = n) (h1 : ev x = .agg (u8s D).toArray) (h2 : ev y = .agg (u8s E).toArray) :
    (execOp ev ⟨d, .binOp .neq T x y U, t, p, af, gd⟩).run P w = .ok (.value (.bool (!(D == E)))) w := by
  have h3 : (Op.equalIn 10000 T (.agg (u8s D).toArray) (.agg (u8s E).toArray)).run P w = .ok (D == E) w := run_equalIn_bytes (P := P) w 9998 T e n ht he hsz D E hD hE
  simp only [execOp, h1, h2]
  have hg : (eqGuard .neq T x y (.agg (u8s D).toArray) (.agg (u8s E).toArray)).run P w = .ok () w := run_eqGuard_agg (P := P) w _ T x y _ _ hm
  have h4 := run_neq_struct (P := P) w T (u8s D).toArray (u8s E).toArray
  rw [h3] at h4
  go_simp
theorem run_eqT {b c : Bool} (hT : P.underlying T = some .bool) (h1 : ev x = .bool b) (h2 : ev y = .bool c) : (execOp ev ⟨d, .binOp .eql T x y U, t, p, af, gd⟩).run P w = .ok (.value (.bool (b == c))) w := by
  simp only [execOp, h1, h2]
  have h4 := run_eql_bool (P := P) w T b c hT
  go_simp
theorem run_neT {b c : Bool} (hT : P.underlying T = some .bool) (h1 : ev x = .bool b) (h2 : ev y = .bool c) : (execOp ev ⟨d, .binOp .neq T x y U, t, p, af, gd⟩).run P w = .ok (.value (.bool (!(b == c)))) w := by
  simp only [execOp, h1, h2]
  have h4 := run_neq_bool (P := P) w T b c hT
  go_simp
theorem run_eqI {k : IntKind} {b c : Int} (h1 : ev x = .int k b) (h2 : ev y = .int k c) : (execOp ev ⟨d, .binOp .eql T x y U, t, p, af, gd⟩).run P w = .ok (.value (.bool (b == c))) w := by
  simp only [execOp, h1, h2]
  go_simp
theorem run_neIk {k : IntKind} {b c : Int} (h1 : ev x = .int k b) (h2 : ev y = .int k c) : (execOp ev ⟨d, .binOp .neq T x y U, t, p, af, gd⟩).run P w = .ok (.value (.bool (!(b == c)))) w := by
  simp only [execOp, h1, h2]
  go_simp
  simp only [bne]
theorem run_notT {b : Bool} (h1 : ev x = .bool b) : (execOp ev ⟨d, .unOp .not T x, t, p, af, gd⟩).run P w = .ok (.value (.bool (!b))) w := by
  simp only [execOp, h1]
  go_simp
end
section
variable {P : Program} {ops : Array Oper} {Q : Exit → Act → World → Prop} {rest : List Oper} {o : Oper} {a : Act} {w : World}
/-- A value, behind a guard that holds. -/
theorem wpList_valW (hw : Region.wanted o (yielded ops a.tmps) = true) (v : Value) (w' : World) (hrun : (execOp a.eval o).run P w = .ok (.value v) w') (h : wpList P ops Q rest (a.put o.dst v) w') : wpList P ops Q (o :: rest) a w := by
  refine wpList_step fun K hK => ?_
  rw [if_pos hw]
  unfold Oper.wp
  rw [hrun]
  exact hK _ _ h
/-- A whole array is loaded, behind a guard that holds. -/
theorem wpList_loadW (hw : Region.wanted o (yielded ops a.tmps) = true) (ty : TypeId) (x : Operand) (ho : o.op = .load ty x) {g : Nat} {t : TypeId} {cs : List Value} (hx : a.eval x = .pointer (some ⟨g, 0, none⟩)) (hA : Arr w g t cs)
    (hT : ∃ n e, P.underlying ty = some (.array n e)) (hi : (P.info? ty).map (·.size) = some cs.length) (h : wpList P ops Q rest (a.put o.dst (.agg cs.toArray)) w) : wpList P ops Q (o :: rest) a w := by
  refine wpList_valW hw _ w ?_ h
  obtain ⟨n, e, hT⟩ := hT
  simp only [execOp, ho, hx, Sem.run_bind, hA.loadAt hT hi, Result.andThen_ok, Sem.run_pure]
end
theorem s_pickF {P : Program} {ops : Array Oper} {Q : Exit → Act → World → Prop} {L : List (Value → World → Prop)} {i : Nat} {o : Oper} {a : Act} {w : World} (hi : ops[i]? = some o) (hw : Wanted ops o a) (c x y : Operand) (ho : o.op = .pick c x y) (hc : a.eval c = .bool false) (v : Value) (e : a.eval y = v) (hφ : L.getD i AnyV = IsV v) : Step P ops Q L i o a w := by
  refine s_is hi hw v hφ ?_
  simp [execOp, ho, hc, e, asBool]
end Go.Proofs.YtnmhfomnlnlflaaDoor
/- The stream's blocks, in plain Lean. No program, no condition. -/
namespace Go.Proofs.YtnmhfomnlnlflaaDoor
open Go.RowKit

def addS (s : List UInt32) (a b : Nat) : List UInt32 := s.set a (s.getD a 0 + s.getD b 0)
def xorS (s : List UInt32) (d a : Nat) (k : Int) : List UInt32 := s.set d (leftU (s.getD d 0 ^^^ s.getD a 0) k)
def halfQ (s : List UInt32) (a b c d : Nat) (m n : Int) : List UInt32 := xorS (addS (xorS (addS s a b) d a m) c d) b c n
def quarterL (s : List UInt32) (a b c d : Nat) : List UInt32 := halfQ (halfQ s a b c d 16 12) a b c d 8 7
@[simp] theorem addS_length (s : List UInt32) (a b : Nat) : (addS s a b).length = s.length := by simp [addS]
@[simp] theorem xorS_length (s : List UInt32) (a b : Nat) (k : Int) : (xorS s a b k).length = s.length := by simp [xorS]
@[simp] theorem halfQ_length (s : List UInt32) (a b c d : Nat) (m n : Int) : (halfQ s a b c d m n).length = s.length := by simp [halfQ]
@[simp] theorem quarterL_length (s : List UInt32) (a b c d : Nat) : (quarterL s a b c d).length = s.length := by simp [quarterL]

theorem Arr.add {w : World} {g : Nat} {t : TypeId} {s : List UInt32} (h : Arr w g t (u32s s)) (a b : Nat) : Arr (w.setCell ⟨g, a, none⟩ (.int .u32 ((s.getD a 0 + s.getD b 0).toNat : Int))) g t (u32s (addS s a b)) := by
  have := h.set a (.int .u32 ((s.getD a 0 + s.getD b 0).toNat : Int))
  rwa [u32s_set] at this
theorem Arr.xor {w : World} {g : Nat} {t : TypeId} {s : List UInt32} (h : Arr w g t (u32s s)) (d a : Nat) (k : Int) : Arr (w.setCell ⟨g, d, none⟩ (.int .u32 ((leftU (s.getD d 0 ^^^ s.getD a 0) k).toNat : Int))) g t (u32s (xorS s d a k)) := by
  have := h.set d (.int .u32 ((leftU (s.getD d 0 ^^^ s.getD a 0) k).toNat : Int))
  rwa [u32s_set] at this
end Go.Proofs.YtnmhfomnlnlflaaDoor
/- The walk of the document's quarter. No condition. -/
namespace Go.Proofs.YtnmhfomnlnlflaaDoor
open Go.RowKit
set_option maxRecDepth 100000 in
set_option maxHeartbeats 4000000 in
theorem refQuarter_any (a b c d : Nat) (ha : a < 16) (hb : b < 16) (hc : c < 16) (hd : d < 16) (s : List UInt32) (hs : s.length = 16) (w : World) :
    Calls Tryd.prog 94 #[.agg (u32s s).toArray, .int .i64 a, .int .i64 b, .int .i64 c, .int .i64 d] w fun e w' => e = .returned (.agg (u32s (quarterL s a b c d)).toArray) ∧ Below w.heap.size w w' := by
  go_enter Tryd.func94, Tryd.ntmps94
  obtain ⟨s0, hs0⟩ : ∃ z, z = s := ⟨_, rfl⟩
  have hl0 : s0.length = 16 := by rw [hs0]; exact hs
  rw [← hs0]
  have HS0 := Lib.hid hs0
  clear hs0 hs
  go_wp2_with fail
  have hA0 : Arr ((w.alloc (.cells (u32s s0).toArray 114)).alloc (.cells (u32s (List.replicate 16 0)).toArray 114)) w.heap.size 114 (u32s s0) := (Arr.newAt rfl rfl).alloc _
  have hH0 : Arr ((w.alloc (.cells (u32s s0).toArray 114)).alloc (.cells (u32s (List.replicate 16 0)).toArray 114)) (w.heap.size + 1) 114 (u32s (List.replicate 16 0)) := Arr.newAt (asz _ _) rfl
  have hB0 : Below w.heap.size w ((w.alloc (.cells (u32s s0).toArray 114)).alloc (.cells (u32s (List.replicate 16 0)).toArray 114)) := ((Below.refl _ _).alloc (Nat.le_refl _) _).alloc (by rw [asz]; omega) _
  change Code.wp _ _ _ _ ((w.alloc (.cells (u32s s0).toArray 114)).alloc (.cells (u32s (List.replicate 16 0)).toArray 114))
  generalize ((w.alloc (.cells (u32s s0).toArray 114)).alloc (.cells (u32s (List.replicate 16 0)).toArray 114)) = W0 at hA0 hH0 hB0 ⊢
  obtain ⟨h, hh⟩ : ∃ h, h = w.heap.size + 1 := ⟨_, rfl⟩
  have hhg : h ≠ w.heap.size := by omega
  have hgh : w.heap.size ≤ h := by omega
  rw [← hh] at hH0
  rw [← hh]
  obtain ⟨g, hg⟩ : ∃ g, g = w.heap.size := ⟨_, rfl⟩
  rw [← hg] at hA0 hB0 hhg hgh
  rw [← hg]
  have HG := Lib.hid hg
  clear hg hh
  refine wp_region_st (by kernel_rfl) [IsV (.int .i64 (a : Nat)), IsV (.int .i64 (a : Nat)), IsV (.pointer (some ⟨g, a, none⟩)), IsV (.int .u32 (s0.getD a 0).toNat), IsV (.int .i64 (b : Nat)), IsV (.pointer (some ⟨g, b, none⟩)), IsV (.int .u32 (s0.getD b 0).toNat), IsV (.int .u32 ((s0.getD a 0 + s0.getD b 0)).toNat), IsV (.pointer (some ⟨g, a, none⟩))] 9 _ rfl rfl rfl (by kernel_rfl) (by kernel_rfl) ?_ (⟨g, a, none⟩ : Addr) (.int .u32 ((s0.getD a 0 + s0.getD b 0)).toNat) ?_ ?_ ?_
  · intro φ hφ
    simp only [List.mem_cons, List.not_mem_nil, or_false] at hφ
    rcases hφ with rfl | rfl | rfl | rfl | rfl | rfl | rfl | rfl | rfl <;> exact ⟨_, rfl⟩
  · refine ⟨?_, ?_, ?_, ?_, ?_, ?_, ?_, ?_, ?_, trivial⟩
    · intro a1 w1 hG hF
      exact d_old rfl (wants0 rfl) (.tmp 1) (.inr rfl) (.int .i64 (a : Nat)) (hF.ol 1 (by kernel_rfl)) rfl
    · intro a1 w1 hG hF
      exact d_old rfl (wants0 rfl) (.tmp 1) (.inr rfl) (.int .i64 (a : Nat)) (hF.ol 1 (by kernel_rfl)) rfl
    · intro a1 w1 hG hF
      have e5 : a1.eval (.tmp 5) = .pointer (some ⟨g, 0, none⟩) := hF.ol 5 (by kernel_rfl)
      obtain ⟨_, e12, rfl⟩ := hF.dp 1 12 (by kernel_rfl)
      exact d_is rfl (wants0 rfl) _ rfl (run_idx Tryd.underlying114 (by kernel_rfl) e5 e12 (by omega))
    · intro a1 w1 hG hF
      obtain ⟨_, e13, rfl⟩ := hF.dp 2 13 (by kernel_rfl)
      exact d_is rfl (wants0 rfl) _ rfl (run_load1 Tryd.underlying83 e13 ((hG.cell _).trans (hA0.u32 (by omega))))
    · intro a1 w1 hG hF
      exact d_old rfl (wants0 rfl) (.tmp 2) (.inr rfl) (.int .i64 (b : Nat)) (hF.ol 2 (by kernel_rfl)) rfl
    · intro a1 w1 hG hF
      have e5 : a1.eval (.tmp 5) = .pointer (some ⟨g, 0, none⟩) := hF.ol 5 (by kernel_rfl)
      obtain ⟨_, e15, rfl⟩ := hF.dp 4 15 (by kernel_rfl)
      exact d_is rfl (wants0 rfl) _ rfl (run_idx Tryd.underlying114 (by kernel_rfl) e5 e15 (by omega))
    · intro a1 w1 hG hF
      obtain ⟨_, e16, rfl⟩ := hF.dp 5 16 (by kernel_rfl)
      exact d_is rfl (wants0 rfl) _ rfl (run_load1 Tryd.underlying83 e16 ((hG.cell _).trans (hA0.u32 (by omega))))
    · intro a1 w1 hG hF
      obtain ⟨_, e14, rfl⟩ := hF.dp 3 14 (by kernel_rfl)
      obtain ⟨_, e17, rfl⟩ := hF.dp 6 17 (by kernel_rfl)
      exact d_is rfl (wants0 rfl) _ rfl (run_add32 e14 e17)
    · intro a1 w1 hG hF
      have e5 : a1.eval (.tmp 5) = .pointer (some ⟨g, 0, none⟩) := hF.ol 5 (by kernel_rfl)
      obtain ⟨_, e11, rfl⟩ := hF.dp 0 11 (by kernel_rfl)
      exact d_is rfl (wants0 rfl) _ rfl (run_idx Tryd.underlying114 (by kernel_rfl) e5 e11 (by omega))
  · intro a1 w1 hG hF
    obtain ⟨_, e19, rfl⟩ := hF.dp 8 19 (by kernel_rfl)
    obtain ⟨_, e18, rfl⟩ := hF.dp 7 18 (by kernel_rfl)
    exact ⟨wants0 rfl, run_store1 (by kernel_rfl) e19 e18 (by rw [hG.cell]; exact (Option.isSome_iff_exists.2 ⟨_, hA0.u32 (by omega)⟩)) (by rw [hG.frozen]; exact hA0.frozen _)⟩
  intro vs k0 hf
  clear hf
  simp only [putAll, Nat.zero_add, Nat.reduceAdd]
  have hA1 := (hA0.dr ⟨k0, rfl⟩).add a b
  have hH1 := (hH0.dr ⟨k0, rfl⟩).other (a := ⟨g, a, none⟩) hhg (.int .u32 (s0.getD a 0 + s0.getD b 0).toNat)
  have hB1 := hB0.trans ((below_dr ⟨k0, rfl⟩).trans (below_setCell (a := ⟨g, a, none⟩) (v := .int .u32 (s0.getD a 0 + s0.getD b 0).toNat) (Nat.le_refl g)))
  obtain ⟨s1, hs1⟩ : ∃ z, z = addS s0 a b := ⟨_, rfl⟩
  have hl1 : s1.length = 16 := by rw [hs1]; simp [hl0]
  rw [← hs1] at hA1
  have HS1 := Lib.hid hs1
  generalize ((W0.drewN k0).setCell _ _) = W1 at hA1 hH1 hB1 ⊢
  clear hs1 hA0 hH0 hB0
  go_simp
  go_wp2_with fail
  refine wp_region_st (by kernel_rfl) [IsV (.int .i64 (d : Nat)), IsV (.int .i64 (d : Nat)), IsV (.pointer (some ⟨g, d, none⟩)), IsV (.int .u32 (s1.getD d 0).toNat), IsV (.int .i64 (a : Nat)), IsV (.pointer (some ⟨g, a, none⟩)), IsV (.int .u32 (s1.getD a 0).toNat), IsV (.int .u32 ((s1.getD d 0 ^^^ s1.getD a 0)).toNat), IsV (.int .u32 (leftU (s1.getD d 0 ^^^ s1.getD a 0) 16).toNat), IsV (.pointer (some ⟨g, d, none⟩))] 10 _ rfl rfl rfl (by kernel_rfl) (by kernel_rfl) ?_ (⟨g, d, none⟩ : Addr) (.int .u32 (leftU (s1.getD d 0 ^^^ s1.getD a 0) 16).toNat) ?_ ?_ ?_
  · intro φ hφ
    simp only [List.mem_cons, List.not_mem_nil, or_false] at hφ
    rcases hφ with rfl | rfl | rfl | rfl | rfl | rfl | rfl | rfl | rfl | rfl <;> exact ⟨_, rfl⟩
  · refine ⟨?_, ?_, ?_, ?_, ?_, ?_, ?_, ?_, ?_, ?_, trivial⟩
    · intro a1 w1 hG hF
      exact d_old rfl (wants0 rfl) (.tmp 4) (.inr rfl) (.int .i64 (d : Nat)) (hF.ol 4 (by kernel_rfl)) rfl
    · intro a1 w1 hG hF
      exact d_old rfl (wants0 rfl) (.tmp 4) (.inr rfl) (.int .i64 (d : Nat)) (hF.ol 4 (by kernel_rfl)) rfl
    · intro a1 w1 hG hF
      have e5 : a1.eval (.tmp 5) = .pointer (some ⟨g, 0, none⟩) := hF.ol 5 (by kernel_rfl)
      obtain ⟨_, e21, rfl⟩ := hF.dp 1 21 (by kernel_rfl)
      exact d_is rfl (wants0 rfl) _ rfl (run_idx Tryd.underlying114 (by kernel_rfl) e5 e21 (by omega))
    · intro a1 w1 hG hF
      obtain ⟨_, e22, rfl⟩ := hF.dp 2 22 (by kernel_rfl)
      exact d_is rfl (wants0 rfl) _ rfl (run_load1 Tryd.underlying83 e22 ((hG.cell _).trans (hA1.u32 (by omega))))
    · intro a1 w1 hG hF
      exact d_old rfl (wants0 rfl) (.tmp 1) (.inr rfl) (.int .i64 (a : Nat)) (hF.ol 1 (by kernel_rfl)) rfl
    · intro a1 w1 hG hF
      have e5 : a1.eval (.tmp 5) = .pointer (some ⟨g, 0, none⟩) := hF.ol 5 (by kernel_rfl)
      obtain ⟨_, e24, rfl⟩ := hF.dp 4 24 (by kernel_rfl)
      exact d_is rfl (wants0 rfl) _ rfl (run_idx Tryd.underlying114 (by kernel_rfl) e5 e24 (by omega))
    · intro a1 w1 hG hF
      obtain ⟨_, e25, rfl⟩ := hF.dp 5 25 (by kernel_rfl)
      exact d_is rfl (wants0 rfl) _ rfl (run_load1 Tryd.underlying83 e25 ((hG.cell _).trans (hA1.u32 (by omega))))
    · intro a1 w1 hG hF
      obtain ⟨_, e23, rfl⟩ := hF.dp 3 23 (by kernel_rfl)
      obtain ⟨_, e26, rfl⟩ := hF.dp 6 26 (by kernel_rfl)
      exact d_is rfl (wants0 rfl) _ rfl (run_xor32 e23 e26)
    · intro a1 w1 hG hF
      obtain ⟨_, e27, rfl⟩ := hF.dp 7 27 (by kernel_rfl)
      exact d_call rfl (wants0 rfl) _ rfl _ _ (by simp only [execOp, resolve, invoke, List.map_toArray, List.map_cons, List.map_nil, e27]; go_simp) ((refLeft_any _ _ w1).mono fun e w2 ⟨he, hw⟩ => ⟨he, hw ▸ Dr.refl _⟩)
    · intro a1 w1 hG hF
      have e5 : a1.eval (.tmp 5) = .pointer (some ⟨g, 0, none⟩) := hF.ol 5 (by kernel_rfl)
      obtain ⟨_, e20, rfl⟩ := hF.dp 0 20 (by kernel_rfl)
      exact d_is rfl (wants0 rfl) _ rfl (run_idx Tryd.underlying114 (by kernel_rfl) e5 e20 (by omega))
  · intro a1 w1 hG hF
    obtain ⟨_, e29, rfl⟩ := hF.dp 9 29 (by kernel_rfl)
    obtain ⟨_, e28, rfl⟩ := hF.dp 8 28 (by kernel_rfl)
    exact ⟨wants0 rfl, run_store1 (by kernel_rfl) e29 e28 (by rw [hG.cell]; exact (Option.isSome_iff_exists.2 ⟨_, hA1.u32 (by omega)⟩)) (by rw [hG.frozen]; exact hA1.frozen _)⟩
  intro vs k1 hf
  clear hf
  simp only [putAll, Nat.zero_add, Nat.reduceAdd]
  have hA2 := (hA1.dr ⟨k1, rfl⟩).xor d a 16
  have hH2 := (hH1.dr ⟨k1, rfl⟩).other (a := ⟨g, d, none⟩) hhg (.int .u32 (leftU (s1.getD d 0 ^^^ s1.getD a 0) 16).toNat)
  have hB2 := hB1.trans ((below_dr ⟨k1, rfl⟩).trans (below_setCell (a := ⟨g, d, none⟩) (v := .int .u32 (leftU (s1.getD d 0 ^^^ s1.getD a 0) 16).toNat) (Nat.le_refl g)))
  obtain ⟨s2, hs2⟩ : ∃ z, z = xorS s1 d a 16 := ⟨_, rfl⟩
  have hl2 : s2.length = 16 := by rw [hs2]; simp [hl1]
  rw [← hs2] at hA2
  have HS2 := Lib.hid hs2
  generalize ((W1.drewN k1).setCell _ _) = W2 at hA2 hH2 hB2 ⊢
  clear hs2 hA1 hH1 hB1
  go_simp
  go_wp2_with fail
  refine wp_region_st (by kernel_rfl) [IsV (.int .i64 (c : Nat)), IsV (.int .i64 (c : Nat)), IsV (.pointer (some ⟨g, c, none⟩)), IsV (.int .u32 (s2.getD c 0).toNat), IsV (.int .i64 (d : Nat)), IsV (.pointer (some ⟨g, d, none⟩)), IsV (.int .u32 (s2.getD d 0).toNat), IsV (.int .u32 ((s2.getD c 0 + s2.getD d 0)).toNat), IsV (.pointer (some ⟨g, c, none⟩))] 9 _ rfl rfl rfl (by kernel_rfl) (by kernel_rfl) ?_ (⟨g, c, none⟩ : Addr) (.int .u32 ((s2.getD c 0 + s2.getD d 0)).toNat) ?_ ?_ ?_
  · intro φ hφ
    simp only [List.mem_cons, List.not_mem_nil, or_false] at hφ
    rcases hφ with rfl | rfl | rfl | rfl | rfl | rfl | rfl | rfl | rfl <;> exact ⟨_, rfl⟩
  · refine ⟨?_, ?_, ?_, ?_, ?_, ?_, ?_, ?_, ?_, trivial⟩
    · intro a1 w1 hG hF
      exact d_old rfl (wants0 rfl) (.tmp 3) (.inr rfl) (.int .i64 (c : Nat)) (hF.ol 3 (by kernel_rfl)) rfl
    · intro a1 w1 hG hF
      exact d_old rfl (wants0 rfl) (.tmp 3) (.inr rfl) (.int .i64 (c : Nat)) (hF.ol 3 (by kernel_rfl)) rfl
    · intro a1 w1 hG hF
      have e5 : a1.eval (.tmp 5) = .pointer (some ⟨g, 0, none⟩) := hF.ol 5 (by kernel_rfl)
      obtain ⟨_, e31, rfl⟩ := hF.dp 1 31 (by kernel_rfl)
      exact d_is rfl (wants0 rfl) _ rfl (run_idx Tryd.underlying114 (by kernel_rfl) e5 e31 (by omega))
    · intro a1 w1 hG hF
      obtain ⟨_, e32, rfl⟩ := hF.dp 2 32 (by kernel_rfl)
      exact d_is rfl (wants0 rfl) _ rfl (run_load1 Tryd.underlying83 e32 ((hG.cell _).trans (hA2.u32 (by omega))))
    · intro a1 w1 hG hF
      exact d_old rfl (wants0 rfl) (.tmp 4) (.inr rfl) (.int .i64 (d : Nat)) (hF.ol 4 (by kernel_rfl)) rfl
    · intro a1 w1 hG hF
      have e5 : a1.eval (.tmp 5) = .pointer (some ⟨g, 0, none⟩) := hF.ol 5 (by kernel_rfl)
      obtain ⟨_, e34, rfl⟩ := hF.dp 4 34 (by kernel_rfl)
      exact d_is rfl (wants0 rfl) _ rfl (run_idx Tryd.underlying114 (by kernel_rfl) e5 e34 (by omega))
    · intro a1 w1 hG hF
      obtain ⟨_, e35, rfl⟩ := hF.dp 5 35 (by kernel_rfl)
      exact d_is rfl (wants0 rfl) _ rfl (run_load1 Tryd.underlying83 e35 ((hG.cell _).trans (hA2.u32 (by omega))))
    · intro a1 w1 hG hF
      obtain ⟨_, e33, rfl⟩ := hF.dp 3 33 (by kernel_rfl)
      obtain ⟨_, e36, rfl⟩ := hF.dp 6 36 (by kernel_rfl)
      exact d_is rfl (wants0 rfl) _ rfl (run_add32 e33 e36)
    · intro a1 w1 hG hF
      have e5 : a1.eval (.tmp 5) = .pointer (some ⟨g, 0, none⟩) := hF.ol 5 (by kernel_rfl)
      obtain ⟨_, e30, rfl⟩ := hF.dp 0 30 (by kernel_rfl)
      exact d_is rfl (wants0 rfl) _ rfl (run_idx Tryd.underlying114 (by kernel_rfl) e5 e30 (by omega))
  · intro a1 w1 hG hF
    obtain ⟨_, e38, rfl⟩ := hF.dp 8 38 (by kernel_rfl)
    obtain ⟨_, e37, rfl⟩ := hF.dp 7 37 (by kernel_rfl)
    exact ⟨wants0 rfl, run_store1 (by kernel_rfl) e38 e37 (by rw [hG.cell]; exact (Option.isSome_iff_exists.2 ⟨_, hA2.u32 (by omega)⟩)) (by rw [hG.frozen]; exact hA2.frozen _)⟩
  intro vs k2 hf
  clear hf
  simp only [putAll, Nat.zero_add, Nat.reduceAdd]
  have hA3 := (hA2.dr ⟨k2, rfl⟩).add c d
  have hH3 := (hH2.dr ⟨k2, rfl⟩).other (a := ⟨g, c, none⟩) hhg (.int .u32 (s2.getD c 0 + s2.getD d 0).toNat)
  have hB3 := hB2.trans ((below_dr ⟨k2, rfl⟩).trans (below_setCell (a := ⟨g, c, none⟩) (v := .int .u32 (s2.getD c 0 + s2.getD d 0).toNat) (Nat.le_refl g)))
  obtain ⟨s3, hs3⟩ : ∃ z, z = addS s2 c d := ⟨_, rfl⟩
  have hl3 : s3.length = 16 := by rw [hs3]; simp [hl2]
  rw [← hs3] at hA3
  have HS3 := Lib.hid hs3
  generalize ((W2.drewN k2).setCell _ _) = W3 at hA3 hH3 hB3 ⊢
  clear hs3 hA2 hH2 hB2
  go_simp
  go_wp2_with fail
  refine wp_region_st (by kernel_rfl) [IsV (.int .i64 (b : Nat)), IsV (.int .i64 (b : Nat)), IsV (.pointer (some ⟨g, b, none⟩)), IsV (.int .u32 (s3.getD b 0).toNat), IsV (.int .i64 (c : Nat)), IsV (.pointer (some ⟨g, c, none⟩)), IsV (.int .u32 (s3.getD c 0).toNat), IsV (.int .u32 ((s3.getD b 0 ^^^ s3.getD c 0)).toNat), IsV (.int .u32 (leftU (s3.getD b 0 ^^^ s3.getD c 0) 12).toNat), IsV (.pointer (some ⟨g, b, none⟩))] 10 _ rfl rfl rfl (by kernel_rfl) (by kernel_rfl) ?_ (⟨g, b, none⟩ : Addr) (.int .u32 (leftU (s3.getD b 0 ^^^ s3.getD c 0) 12).toNat) ?_ ?_ ?_
  · intro φ hφ
    simp only [List.mem_cons, List.not_mem_nil, or_false] at hφ
    rcases hφ with rfl | rfl | rfl | rfl | rfl | rfl | rfl | rfl | rfl | rfl <;> exact ⟨_, rfl⟩
  · refine ⟨?_, ?_, ?_, ?_, ?_, ?_, ?_, ?_, ?_, ?_, trivial⟩
    · intro a1 w1 hG hF
      exact d_old rfl (wants0 rfl) (.tmp 2) (.inr rfl) (.int .i64 (b : Nat)) (hF.ol 2 (by kernel_rfl)) rfl
    · intro a1 w1 hG hF
      exact d_old rfl (wants0 rfl) (.tmp 2) (.inr rfl) (.int .i64 (b : Nat)) (hF.ol 2 (by kernel_rfl)) rfl
    · intro a1 w1 hG hF
      have e5 : a1.eval (.tmp 5) = .pointer (some ⟨g, 0, none⟩) := hF.ol 5 (by kernel_rfl)
      obtain ⟨_, e40, rfl⟩ := hF.dp 1 40 (by kernel_rfl)
      exact d_is rfl (wants0 rfl) _ rfl (run_idx Tryd.underlying114 (by kernel_rfl) e5 e40 (by omega))
    · intro a1 w1 hG hF
      obtain ⟨_, e41, rfl⟩ := hF.dp 2 41 (by kernel_rfl)
      exact d_is rfl (wants0 rfl) _ rfl (run_load1 Tryd.underlying83 e41 ((hG.cell _).trans (hA3.u32 (by omega))))
    · intro a1 w1 hG hF
      exact d_old rfl (wants0 rfl) (.tmp 3) (.inr rfl) (.int .i64 (c : Nat)) (hF.ol 3 (by kernel_rfl)) rfl
    · intro a1 w1 hG hF
      have e5 : a1.eval (.tmp 5) = .pointer (some ⟨g, 0, none⟩) := hF.ol 5 (by kernel_rfl)
      obtain ⟨_, e43, rfl⟩ := hF.dp 4 43 (by kernel_rfl)
      exact d_is rfl (wants0 rfl) _ rfl (run_idx Tryd.underlying114 (by kernel_rfl) e5 e43 (by omega))
    · intro a1 w1 hG hF
      obtain ⟨_, e44, rfl⟩ := hF.dp 5 44 (by kernel_rfl)
      exact d_is rfl (wants0 rfl) _ rfl (run_load1 Tryd.underlying83 e44 ((hG.cell _).trans (hA3.u32 (by omega))))
    · intro a1 w1 hG hF
      obtain ⟨_, e42, rfl⟩ := hF.dp 3 42 (by kernel_rfl)
      obtain ⟨_, e45, rfl⟩ := hF.dp 6 45 (by kernel_rfl)
      exact d_is rfl (wants0 rfl) _ rfl (run_xor32 e42 e45)
    · intro a1 w1 hG hF
      obtain ⟨_, e46, rfl⟩ := hF.dp 7 46 (by kernel_rfl)
      exact d_call rfl (wants0 rfl) _ rfl _ _ (by simp only [execOp, resolve, invoke, List.map_toArray, List.map_cons, List.map_nil, e46]; go_simp) ((refLeft_any _ _ w1).mono fun e w2 ⟨he, hw⟩ => ⟨he, hw ▸ Dr.refl _⟩)
    · intro a1 w1 hG hF
      have e5 : a1.eval (.tmp 5) = .pointer (some ⟨g, 0, none⟩) := hF.ol 5 (by kernel_rfl)
      obtain ⟨_, e39, rfl⟩ := hF.dp 0 39 (by kernel_rfl)
      exact d_is rfl (wants0 rfl) _ rfl (run_idx Tryd.underlying114 (by kernel_rfl) e5 e39 (by omega))
  · intro a1 w1 hG hF
    obtain ⟨_, e48, rfl⟩ := hF.dp 9 48 (by kernel_rfl)
    obtain ⟨_, e47, rfl⟩ := hF.dp 8 47 (by kernel_rfl)
    exact ⟨wants0 rfl, run_store1 (by kernel_rfl) e48 e47 (by rw [hG.cell]; exact (Option.isSome_iff_exists.2 ⟨_, hA3.u32 (by omega)⟩)) (by rw [hG.frozen]; exact hA3.frozen _)⟩
  intro vs k3 hf
  clear hf
  simp only [putAll, Nat.zero_add, Nat.reduceAdd]
  have hA4 := (hA3.dr ⟨k3, rfl⟩).xor b c 12
  have hH4 := (hH3.dr ⟨k3, rfl⟩).other (a := ⟨g, b, none⟩) hhg (.int .u32 (leftU (s3.getD b 0 ^^^ s3.getD c 0) 12).toNat)
  have hB4 := hB3.trans ((below_dr ⟨k3, rfl⟩).trans (below_setCell (a := ⟨g, b, none⟩) (v := .int .u32 (leftU (s3.getD b 0 ^^^ s3.getD c 0) 12).toNat) (Nat.le_refl g)))
  obtain ⟨s4, hs4⟩ : ∃ z, z = xorS s3 b c 12 := ⟨_, rfl⟩
  have hl4 : s4.length = 16 := by rw [hs4]; simp [hl3]
  rw [← hs4] at hA4
  have HS4 := Lib.hid hs4
  generalize ((W3.drewN k3).setCell _ _) = W4 at hA4 hH4 hB4 ⊢
  clear hs4 hA3 hH3 hB3
  go_simp
  go_wp2_with fail
  refine wp_region_st (by kernel_rfl) [IsV (.int .i64 (a : Nat)), IsV (.int .i64 (a : Nat)), IsV (.pointer (some ⟨g, a, none⟩)), IsV (.int .u32 (s4.getD a 0).toNat), IsV (.int .i64 (b : Nat)), IsV (.pointer (some ⟨g, b, none⟩)), IsV (.int .u32 (s4.getD b 0).toNat), IsV (.int .u32 ((s4.getD a 0 + s4.getD b 0)).toNat), IsV (.pointer (some ⟨g, a, none⟩))] 9 _ rfl rfl rfl (by kernel_rfl) (by kernel_rfl) ?_ (⟨g, a, none⟩ : Addr) (.int .u32 ((s4.getD a 0 + s4.getD b 0)).toNat) ?_ ?_ ?_
  · intro φ hφ
    simp only [List.mem_cons, List.not_mem_nil, or_false] at hφ
    rcases hφ with rfl | rfl | rfl | rfl | rfl | rfl | rfl | rfl | rfl <;> exact ⟨_, rfl⟩
  · refine ⟨?_, ?_, ?_, ?_, ?_, ?_, ?_, ?_, ?_, trivial⟩
    · intro a1 w1 hG hF
      exact d_old rfl (wants0 rfl) (.tmp 1) (.inr rfl) (.int .i64 (a : Nat)) (hF.ol 1 (by kernel_rfl)) rfl
    · intro a1 w1 hG hF
      exact d_old rfl (wants0 rfl) (.tmp 1) (.inr rfl) (.int .i64 (a : Nat)) (hF.ol 1 (by kernel_rfl)) rfl
    · intro a1 w1 hG hF
      have e5 : a1.eval (.tmp 5) = .pointer (some ⟨g, 0, none⟩) := hF.ol 5 (by kernel_rfl)
      obtain ⟨_, e50, rfl⟩ := hF.dp 1 50 (by kernel_rfl)
      exact d_is rfl (wants0 rfl) _ rfl (run_idx Tryd.underlying114 (by kernel_rfl) e5 e50 (by omega))
    · intro a1 w1 hG hF
      obtain ⟨_, e51, rfl⟩ := hF.dp 2 51 (by kernel_rfl)
      exact d_is rfl (wants0 rfl) _ rfl (run_load1 Tryd.underlying83 e51 ((hG.cell _).trans (hA4.u32 (by omega))))
    · intro a1 w1 hG hF
      exact d_old rfl (wants0 rfl) (.tmp 2) (.inr rfl) (.int .i64 (b : Nat)) (hF.ol 2 (by kernel_rfl)) rfl
    · intro a1 w1 hG hF
      have e5 : a1.eval (.tmp 5) = .pointer (some ⟨g, 0, none⟩) := hF.ol 5 (by kernel_rfl)
      obtain ⟨_, e53, rfl⟩ := hF.dp 4 53 (by kernel_rfl)
      exact d_is rfl (wants0 rfl) _ rfl (run_idx Tryd.underlying114 (by kernel_rfl) e5 e53 (by omega))
    · intro a1 w1 hG hF
      obtain ⟨_, e54, rfl⟩ := hF.dp 5 54 (by kernel_rfl)
      exact d_is rfl (wants0 rfl) _ rfl (run_load1 Tryd.underlying83 e54 ((hG.cell _).trans (hA4.u32 (by omega))))
    · intro a1 w1 hG hF
      obtain ⟨_, e52, rfl⟩ := hF.dp 3 52 (by kernel_rfl)
      obtain ⟨_, e55, rfl⟩ := hF.dp 6 55 (by kernel_rfl)
      exact d_is rfl (wants0 rfl) _ rfl (run_add32 e52 e55)
    · intro a1 w1 hG hF
      have e5 : a1.eval (.tmp 5) = .pointer (some ⟨g, 0, none⟩) := hF.ol 5 (by kernel_rfl)
      obtain ⟨_, e49, rfl⟩ := hF.dp 0 49 (by kernel_rfl)
      exact d_is rfl (wants0 rfl) _ rfl (run_idx Tryd.underlying114 (by kernel_rfl) e5 e49 (by omega))
  · intro a1 w1 hG hF
    obtain ⟨_, e57, rfl⟩ := hF.dp 8 57 (by kernel_rfl)
    obtain ⟨_, e56, rfl⟩ := hF.dp 7 56 (by kernel_rfl)
    exact ⟨wants0 rfl, run_store1 (by kernel_rfl) e57 e56 (by rw [hG.cell]; exact (Option.isSome_iff_exists.2 ⟨_, hA4.u32 (by omega)⟩)) (by rw [hG.frozen]; exact hA4.frozen _)⟩
  intro vs k4 hf
  clear hf
  simp only [putAll, Nat.zero_add, Nat.reduceAdd]
  have hA5 := (hA4.dr ⟨k4, rfl⟩).add a b
  have hH5 := (hH4.dr ⟨k4, rfl⟩).other (a := ⟨g, a, none⟩) hhg (.int .u32 (s4.getD a 0 + s4.getD b 0).toNat)
  have hB5 := hB4.trans ((below_dr ⟨k4, rfl⟩).trans (below_setCell (a := ⟨g, a, none⟩) (v := .int .u32 (s4.getD a 0 + s4.getD b 0).toNat) (Nat.le_refl g)))
  obtain ⟨s5, hs5⟩ : ∃ z, z = addS s4 a b := ⟨_, rfl⟩
  have hl5 : s5.length = 16 := by rw [hs5]; simp [hl4]
  rw [← hs5] at hA5
  have HS5 := Lib.hid hs5
  generalize ((W4.drewN k4).setCell _ _) = W5 at hA5 hH5 hB5 ⊢
  clear hs5 hA4 hH4 hB4
  go_simp
  go_wp2_with fail
  refine wp_region_st (by kernel_rfl) [IsV (.int .i64 (d : Nat)), IsV (.int .i64 (d : Nat)), IsV (.pointer (some ⟨g, d, none⟩)), IsV (.int .u32 (s5.getD d 0).toNat), IsV (.int .i64 (a : Nat)), IsV (.pointer (some ⟨g, a, none⟩)), IsV (.int .u32 (s5.getD a 0).toNat), IsV (.int .u32 ((s5.getD d 0 ^^^ s5.getD a 0)).toNat), IsV (.int .u32 (leftU (s5.getD d 0 ^^^ s5.getD a 0) 8).toNat), IsV (.pointer (some ⟨g, d, none⟩))] 10 _ rfl rfl rfl (by kernel_rfl) (by kernel_rfl) ?_ (⟨g, d, none⟩ : Addr) (.int .u32 (leftU (s5.getD d 0 ^^^ s5.getD a 0) 8).toNat) ?_ ?_ ?_
  · intro φ hφ
    simp only [List.mem_cons, List.not_mem_nil, or_false] at hφ
    rcases hφ with rfl | rfl | rfl | rfl | rfl | rfl | rfl | rfl | rfl | rfl <;> exact ⟨_, rfl⟩
  · refine ⟨?_, ?_, ?_, ?_, ?_, ?_, ?_, ?_, ?_, ?_, trivial⟩
    · intro a1 w1 hG hF
      exact d_old rfl (wants0 rfl) (.tmp 4) (.inr rfl) (.int .i64 (d : Nat)) (hF.ol 4 (by kernel_rfl)) rfl
    · intro a1 w1 hG hF
      exact d_old rfl (wants0 rfl) (.tmp 4) (.inr rfl) (.int .i64 (d : Nat)) (hF.ol 4 (by kernel_rfl)) rfl
    · intro a1 w1 hG hF
      have e5 : a1.eval (.tmp 5) = .pointer (some ⟨g, 0, none⟩) := hF.ol 5 (by kernel_rfl)
      obtain ⟨_, e59, rfl⟩ := hF.dp 1 59 (by kernel_rfl)
      exact d_is rfl (wants0 rfl) _ rfl (run_idx Tryd.underlying114 (by kernel_rfl) e5 e59 (by omega))
    · intro a1 w1 hG hF
      obtain ⟨_, e60, rfl⟩ := hF.dp 2 60 (by kernel_rfl)
      exact d_is rfl (wants0 rfl) _ rfl (run_load1 Tryd.underlying83 e60 ((hG.cell _).trans (hA5.u32 (by omega))))
    · intro a1 w1 hG hF
      exact d_old rfl (wants0 rfl) (.tmp 1) (.inr rfl) (.int .i64 (a : Nat)) (hF.ol 1 (by kernel_rfl)) rfl
    · intro a1 w1 hG hF
      have e5 : a1.eval (.tmp 5) = .pointer (some ⟨g, 0, none⟩) := hF.ol 5 (by kernel_rfl)
      obtain ⟨_, e62, rfl⟩ := hF.dp 4 62 (by kernel_rfl)
      exact d_is rfl (wants0 rfl) _ rfl (run_idx Tryd.underlying114 (by kernel_rfl) e5 e62 (by omega))
    · intro a1 w1 hG hF
      obtain ⟨_, e63, rfl⟩ := hF.dp 5 63 (by kernel_rfl)
      exact d_is rfl (wants0 rfl) _ rfl (run_load1 Tryd.underlying83 e63 ((hG.cell _).trans (hA5.u32 (by omega))))
    · intro a1 w1 hG hF
      obtain ⟨_, e61, rfl⟩ := hF.dp 3 61 (by kernel_rfl)
      obtain ⟨_, e64, rfl⟩ := hF.dp 6 64 (by kernel_rfl)
      exact d_is rfl (wants0 rfl) _ rfl (run_xor32 e61 e64)
    · intro a1 w1 hG hF
      obtain ⟨_, e65, rfl⟩ := hF.dp 7 65 (by kernel_rfl)
      exact d_call rfl (wants0 rfl) _ rfl _ _ (by simp only [execOp, resolve, invoke, List.map_toArray, List.map_cons, List.map_nil, e65]; go_simp) ((refLeft_any _ _ w1).mono fun e w2 ⟨he, hw⟩ => ⟨he, hw ▸ Dr.refl _⟩)
    · intro a1 w1 hG hF
      have e5 : a1.eval (.tmp 5) = .pointer (some ⟨g, 0, none⟩) := hF.ol 5 (by kernel_rfl)
      obtain ⟨_, e58, rfl⟩ := hF.dp 0 58 (by kernel_rfl)
      exact d_is rfl (wants0 rfl) _ rfl (run_idx Tryd.underlying114 (by kernel_rfl) e5 e58 (by omega))
  · intro a1 w1 hG hF
    obtain ⟨_, e67, rfl⟩ := hF.dp 9 67 (by kernel_rfl)
    obtain ⟨_, e66, rfl⟩ := hF.dp 8 66 (by kernel_rfl)
    exact ⟨wants0 rfl, run_store1 (by kernel_rfl) e67 e66 (by rw [hG.cell]; exact (Option.isSome_iff_exists.2 ⟨_, hA5.u32 (by omega)⟩)) (by rw [hG.frozen]; exact hA5.frozen _)⟩
  intro vs k5 hf
  clear hf
  simp only [putAll, Nat.zero_add, Nat.reduceAdd]
  have hA6 := (hA5.dr ⟨k5, rfl⟩).xor d a 8
  have hH6 := (hH5.dr ⟨k5, rfl⟩).other (a := ⟨g, d, none⟩) hhg (.int .u32 (leftU (s5.getD d 0 ^^^ s5.getD a 0) 8).toNat)
  have hB6 := hB5.trans ((below_dr ⟨k5, rfl⟩).trans (below_setCell (a := ⟨g, d, none⟩) (v := .int .u32 (leftU (s5.getD d 0 ^^^ s5.getD a 0) 8).toNat) (Nat.le_refl g)))
  obtain ⟨s6, hs6⟩ : ∃ z, z = xorS s5 d a 8 := ⟨_, rfl⟩
  have hl6 : s6.length = 16 := by rw [hs6]; simp [hl5]
  rw [← hs6] at hA6
  have HS6 := Lib.hid hs6
  generalize ((W5.drewN k5).setCell _ _) = W6 at hA6 hH6 hB6 ⊢
  clear hs6 hA5 hH5 hB5
  go_simp
  go_wp2_with fail
  refine wp_region_st (by kernel_rfl) [IsV (.int .i64 (c : Nat)), IsV (.int .i64 (c : Nat)), IsV (.pointer (some ⟨g, c, none⟩)), IsV (.int .u32 (s6.getD c 0).toNat), IsV (.int .i64 (d : Nat)), IsV (.pointer (some ⟨g, d, none⟩)), IsV (.int .u32 (s6.getD d 0).toNat), IsV (.int .u32 ((s6.getD c 0 + s6.getD d 0)).toNat), IsV (.pointer (some ⟨g, c, none⟩))] 9 _ rfl rfl rfl (by kernel_rfl) (by kernel_rfl) ?_ (⟨g, c, none⟩ : Addr) (.int .u32 ((s6.getD c 0 + s6.getD d 0)).toNat) ?_ ?_ ?_
  · intro φ hφ
    simp only [List.mem_cons, List.not_mem_nil, or_false] at hφ
    rcases hφ with rfl | rfl | rfl | rfl | rfl | rfl | rfl | rfl | rfl <;> exact ⟨_, rfl⟩
  · refine ⟨?_, ?_, ?_, ?_, ?_, ?_, ?_, ?_, ?_, trivial⟩
    · intro a1 w1 hG hF
      exact d_old rfl (wants0 rfl) (.tmp 3) (.inr rfl) (.int .i64 (c : Nat)) (hF.ol 3 (by kernel_rfl)) rfl
    · intro a1 w1 hG hF
      exact d_old rfl (wants0 rfl) (.tmp 3) (.inr rfl) (.int .i64 (c : Nat)) (hF.ol 3 (by kernel_rfl)) rfl
    · intro a1 w1 hG hF
      have e5 : a1.eval (.tmp 5) = .pointer (some ⟨g, 0, none⟩) := hF.ol 5 (by kernel_rfl)
      obtain ⟨_, e69, rfl⟩ := hF.dp 1 69 (by kernel_rfl)
      exact d_is rfl (wants0 rfl) _ rfl (run_idx Tryd.underlying114 (by kernel_rfl) e5 e69 (by omega))
    · intro a1 w1 hG hF
      obtain ⟨_, e70, rfl⟩ := hF.dp 2 70 (by kernel_rfl)
      exact d_is rfl (wants0 rfl) _ rfl (run_load1 Tryd.underlying83 e70 ((hG.cell _).trans (hA6.u32 (by omega))))
    · intro a1 w1 hG hF
      exact d_old rfl (wants0 rfl) (.tmp 4) (.inr rfl) (.int .i64 (d : Nat)) (hF.ol 4 (by kernel_rfl)) rfl
    · intro a1 w1 hG hF
      have e5 : a1.eval (.tmp 5) = .pointer (some ⟨g, 0, none⟩) := hF.ol 5 (by kernel_rfl)
      obtain ⟨_, e72, rfl⟩ := hF.dp 4 72 (by kernel_rfl)
      exact d_is rfl (wants0 rfl) _ rfl (run_idx Tryd.underlying114 (by kernel_rfl) e5 e72 (by omega))
    · intro a1 w1 hG hF
      obtain ⟨_, e73, rfl⟩ := hF.dp 5 73 (by kernel_rfl)
      exact d_is rfl (wants0 rfl) _ rfl (run_load1 Tryd.underlying83 e73 ((hG.cell _).trans (hA6.u32 (by omega))))
    · intro a1 w1 hG hF
      obtain ⟨_, e71, rfl⟩ := hF.dp 3 71 (by kernel_rfl)
      obtain ⟨_, e74, rfl⟩ := hF.dp 6 74 (by kernel_rfl)
      exact d_is rfl (wants0 rfl) _ rfl (run_add32 e71 e74)
    · intro a1 w1 hG hF
      have e5 : a1.eval (.tmp 5) = .pointer (some ⟨g, 0, none⟩) := hF.ol 5 (by kernel_rfl)
      obtain ⟨_, e68, rfl⟩ := hF.dp 0 68 (by kernel_rfl)
      exact d_is rfl (wants0 rfl) _ rfl (run_idx Tryd.underlying114 (by kernel_rfl) e5 e68 (by omega))
  · intro a1 w1 hG hF
    obtain ⟨_, e76, rfl⟩ := hF.dp 8 76 (by kernel_rfl)
    obtain ⟨_, e75, rfl⟩ := hF.dp 7 75 (by kernel_rfl)
    exact ⟨wants0 rfl, run_store1 (by kernel_rfl) e76 e75 (by rw [hG.cell]; exact (Option.isSome_iff_exists.2 ⟨_, hA6.u32 (by omega)⟩)) (by rw [hG.frozen]; exact hA6.frozen _)⟩
  intro vs k6 hf
  clear hf
  simp only [putAll, Nat.zero_add, Nat.reduceAdd]
  have hA7 := (hA6.dr ⟨k6, rfl⟩).add c d
  have hH7 := (hH6.dr ⟨k6, rfl⟩).other (a := ⟨g, c, none⟩) hhg (.int .u32 (s6.getD c 0 + s6.getD d 0).toNat)
  have hB7 := hB6.trans ((below_dr ⟨k6, rfl⟩).trans (below_setCell (a := ⟨g, c, none⟩) (v := .int .u32 (s6.getD c 0 + s6.getD d 0).toNat) (Nat.le_refl g)))
  obtain ⟨s7, hs7⟩ : ∃ z, z = addS s6 c d := ⟨_, rfl⟩
  have hl7 : s7.length = 16 := by rw [hs7]; simp [hl6]
  rw [← hs7] at hA7
  have HS7 := Lib.hid hs7
  generalize ((W6.drewN k6).setCell _ _) = W7 at hA7 hH7 hB7 ⊢
  clear hs7 hA6 hH6 hB6
  go_simp
  go_wp2_with fail
  refine wp_region_st (by kernel_rfl) [IsV (.int .i64 (b : Nat)), IsV (.int .i64 (b : Nat)), IsV (.pointer (some ⟨g, b, none⟩)), IsV (.int .u32 (s7.getD b 0).toNat), IsV (.int .i64 (c : Nat)), IsV (.pointer (some ⟨g, c, none⟩)), IsV (.int .u32 (s7.getD c 0).toNat), IsV (.int .u32 ((s7.getD b 0 ^^^ s7.getD c 0)).toNat), IsV (.int .u32 (leftU (s7.getD b 0 ^^^ s7.getD c 0) 7).toNat), IsV (.pointer (some ⟨g, b, none⟩))] 10 _ rfl rfl rfl (by kernel_rfl) (by kernel_rfl) ?_ (⟨g, b, none⟩ : Addr) (.int .u32 (leftU (s7.getD b 0 ^^^ s7.getD c 0) 7).toNat) ?_ ?_ ?_
  · intro φ hφ
    simp only [List.mem_cons, List.not_mem_nil, or_false] at hφ
    rcases hφ with rfl | rfl | rfl | rfl | rfl | rfl | rfl | rfl | rfl | rfl <;> exact ⟨_, rfl⟩
  · refine ⟨?_, ?_, ?_, ?_, ?_, ?_, ?_, ?_, ?_, ?_, trivial⟩
    · intro a1 w1 hG hF
      exact d_old rfl (wants0 rfl) (.tmp 2) (.inr rfl) (.int .i64 (b : Nat)) (hF.ol 2 (by kernel_rfl)) rfl
    · intro a1 w1 hG hF
      exact d_old rfl (wants0 rfl) (.tmp 2) (.inr rfl) (.int .i64 (b : Nat)) (hF.ol 2 (by kernel_rfl)) rfl
    · intro a1 w1 hG hF
      have e5 : a1.eval (.tmp 5) = .pointer (some ⟨g, 0, none⟩) := hF.ol 5 (by kernel_rfl)
      obtain ⟨_, e78, rfl⟩ := hF.dp 1 78 (by kernel_rfl)
      exact d_is rfl (wants0 rfl) _ rfl (run_idx Tryd.underlying114 (by kernel_rfl) e5 e78 (by omega))
    · intro a1 w1 hG hF
      obtain ⟨_, e79, rfl⟩ := hF.dp 2 79 (by kernel_rfl)
      exact d_is rfl (wants0 rfl) _ rfl (run_load1 Tryd.underlying83 e79 ((hG.cell _).trans (hA7.u32 (by omega))))
    · intro a1 w1 hG hF
      exact d_old rfl (wants0 rfl) (.tmp 3) (.inr rfl) (.int .i64 (c : Nat)) (hF.ol 3 (by kernel_rfl)) rfl
    · intro a1 w1 hG hF
      have e5 : a1.eval (.tmp 5) = .pointer (some ⟨g, 0, none⟩) := hF.ol 5 (by kernel_rfl)
      obtain ⟨_, e81, rfl⟩ := hF.dp 4 81 (by kernel_rfl)
      exact d_is rfl (wants0 rfl) _ rfl (run_idx Tryd.underlying114 (by kernel_rfl) e5 e81 (by omega))
    · intro a1 w1 hG hF
      obtain ⟨_, e82, rfl⟩ := hF.dp 5 82 (by kernel_rfl)
      exact d_is rfl (wants0 rfl) _ rfl (run_load1 Tryd.underlying83 e82 ((hG.cell _).trans (hA7.u32 (by omega))))
    · intro a1 w1 hG hF
      obtain ⟨_, e80, rfl⟩ := hF.dp 3 80 (by kernel_rfl)
      obtain ⟨_, e83, rfl⟩ := hF.dp 6 83 (by kernel_rfl)
      exact d_is rfl (wants0 rfl) _ rfl (run_xor32 e80 e83)
    · intro a1 w1 hG hF
      obtain ⟨_, e84, rfl⟩ := hF.dp 7 84 (by kernel_rfl)
      exact d_call rfl (wants0 rfl) _ rfl _ _ (by simp only [execOp, resolve, invoke, List.map_toArray, List.map_cons, List.map_nil, e84]; go_simp) ((refLeft_any _ _ w1).mono fun e w2 ⟨he, hw⟩ => ⟨he, hw ▸ Dr.refl _⟩)
    · intro a1 w1 hG hF
      have e5 : a1.eval (.tmp 5) = .pointer (some ⟨g, 0, none⟩) := hF.ol 5 (by kernel_rfl)
      obtain ⟨_, e77, rfl⟩ := hF.dp 0 77 (by kernel_rfl)
      exact d_is rfl (wants0 rfl) _ rfl (run_idx Tryd.underlying114 (by kernel_rfl) e5 e77 (by omega))
  · intro a1 w1 hG hF
    obtain ⟨_, e86, rfl⟩ := hF.dp 9 86 (by kernel_rfl)
    obtain ⟨_, e85, rfl⟩ := hF.dp 8 85 (by kernel_rfl)
    exact ⟨wants0 rfl, run_store1 (by kernel_rfl) e86 e85 (by rw [hG.cell]; exact (Option.isSome_iff_exists.2 ⟨_, hA7.u32 (by omega)⟩)) (by rw [hG.frozen]; exact hA7.frozen _)⟩
  intro vs k7 hf
  clear hf
  simp only [putAll, Nat.zero_add, Nat.reduceAdd]
  have hA8 := (hA7.dr ⟨k7, rfl⟩).xor b c 7
  have hH8 := (hH7.dr ⟨k7, rfl⟩).other (a := ⟨g, b, none⟩) hhg (.int .u32 (leftU (s7.getD b 0 ^^^ s7.getD c 0) 7).toNat)
  have hB8 := hB7.trans ((below_dr ⟨k7, rfl⟩).trans (below_setCell (a := ⟨g, b, none⟩) (v := .int .u32 (leftU (s7.getD b 0 ^^^ s7.getD c 0) 7).toNat) (Nat.le_refl g)))
  obtain ⟨s8, hs8⟩ : ∃ z, z = xorS s7 b c 7 := ⟨_, rfl⟩
  have hl8 : s8.length = 16 := by rw [hs8]; simp [hl7]
  rw [← hs8] at hA8
  have HS8 := Lib.hid hs8
  generalize ((W7.drewN k7).setCell _ _) = W8 at hA8 hH8 hB8 ⊢
  clear hs8 hA7 hH7 hB7
  go_simp
  have i1 : (Tryd.prog.info? 114).map (·.size) = some (u32s s8).length := by simp only [u32s_length, hl8]; kernel_rfl
  have i2 : (Tryd.prog.info? 114).map (·.size) = some (u32s s8).toArray.size := by simp only [List.size_toArray, u32s_length, hl8]; kernel_rfl
  have t2 : W8.there h 0 (u32s s8).toArray.size := by have := hH8.there; simpa [hl8] using this
  have HI1 := Lib.hid i1
  have HI2 := Lib.hid i2
  have HT2 := Lib.hid t2
  clear i1 i2 t2
  go_wp2_with first
    | (refine wpList_load_mid rfl 114 (.tmp 5) rfl g 0 rfl (u32s s8) _ hA8.range Tryd.underlying114 rfl HI1.out ?_)
    | (refine wpList_store_mid rfl 114 (.tmp 10) (.tmp 87) rfl h 0 (u32s s8).toArray rfl rfl HT2.out HI2.out (all_oneCell_toArray (u32s_oneCell s8)) ?_)
  have hr' := hH8.setAll (u32s s8) (by simp [hl8])
  have he : s8 = quarterL s0 a b c d := by rw [HS8.out, HS7.out, HS6.out, HS5.out, HS4.out, HS3.out, HS2.out, HS1.out]; rfl
  refine bodyPost_ret (results_cell_row rfl _ _ h _ _ _ _ rfl hr' Tryd.underlying114 rfl HI2.out) rfl ?_
  rw [← he, ← HG.out]
  exact ⟨rfl, hB8.trans (below_setCells hgh _ _ _)⟩
end Go.Proofs.YtnmhfomnlnlflaaDoor
/- The walk of (*state).quarter. No condition. -/
namespace Go.Proofs.YtnmhfomnlnlflaaDoor
open Go.RowKit
def qAt (s : List UInt32) (a b c d : Nat) : Nat → List UInt32
  | 0 => s
  | 1 => halfQ s a b c d 16 12
  | _ => quarterL s a b c d
theorem qAt_length (s : List UInt32) (a b c d r : Nat) : (qAt s a b c d r).length = s.length := by
  unfold qAt; split <;> simp
set_option maxRecDepth 100000 in
set_option maxHeartbeats 4000000 in
theorem quarter_any (g : Nat) (a b c d : Nat) (ha : a < 16) (hb : b < 16) (hc : c < 16) (hd : d < 16) (s : List UInt32) (hs : s.length = 16) (w : World) (hA : Arr w g 115 (u32s s)) :
    Calls Tryd.prog 88 #[.pointer (some ⟨g, 0, none⟩), .int .i64 a, .int .i64 b, .int .i64 c, .int .i64 d] w fun e w' => (∃ v, e = .returned v) ∧ Arr w' g 115 (u32s (quarterL s a b c d)) ∧ Below g w w' := by
  have hx0 : ∀ w, (Instr.index 154 (.agg #[.int .i64 16, .int .i64 12, .int .i64 8, .int .i64 7]) (.int .i64 0)).run Tryd.prog w = .ok (.agg #[.int .i64 16, .int .i64 12]) w := fun w => by kernel_rfl
  have hx1 : ∀ w, (Instr.index 154 (.agg #[.int .i64 16, .int .i64 12, .int .i64 8, .int .i64 7]) (.int .i64 1)).run Tryd.prog w = .ok (.agg #[.int .i64 8, .int .i64 7]) w := fun w => by kernel_rfl
  go_enter Tryd.func88, Tryd.ntmps88
  go_wp2_with fail
  go_loopw [15] (fun i wr => ∃ r : Nat, r ≤ 2 ∧ i = .int .i64 r ∧ Arr wr g 115 (u32s (qAt s a b c d r)) ∧ Below g w wr) (fun i _ => 2 - (intOf i).toNat)
  case atStart => exact ⟨0, by omega, rfl, hA, Below.refl _ _⟩
  case round =>
    obtain ⟨r, hr, rfl, hAr, hBr⟩ := hrel
    obtain h0 | h1 | h2 : r = 0 ∨ r = 1 ∨ r = 2 := by omega
    · subst h0
      obtain ⟨s0, hs0⟩ : ∃ s0, s0 = qAt s a b c d 0 := ⟨_, rfl⟩
      have hl0 : s0.length = 16 := by rw [hs0, qAt_length, hs]
      rw [← hs0] at hAr
      have HS0 := Lib.hid hs0
      clear hs0
      go_wp2_with fail
      have hA0 := hAr.alloc (.cells #[.int .i64 16, .int .i64 12] 153)
      have hH0 : Arr (wr.alloc (.cells #[.int .i64 16, .int .i64 12] 153)) wr.heap.size 153 [.int .i64 16, .int .i64 12] := Arr.new wr _ _
      have hB0 : Below g w (wr.alloc (.cells #[.int .i64 16, .int .i64 12] 153)) := hBr.alloc (Nat.le_of_lt hAr.lt) _
      have hhg : wr.heap.size ≠ g := Nat.ne_of_gt hAr.lt
      generalize (wr.alloc (.cells #[.int .i64 16, .int .i64 12] 153)) = W0 at hA0 hH0 hB0 ⊢
      generalize wr.heap.size = h at hH0 hhg ⊢
      clear hAr hBr hx0 hx1 hA
      refine wp_region_st (by kernel_rfl) [IsV (.pointer (some ⟨g, 0, none⟩)), IsV (.int .i64 (a : Nat)), IsV (.pointer (some ⟨g, 0, none⟩)), IsV (.pointer (some ⟨g, a, none⟩)), IsV (.int .u32 (s0.getD a 0).toNat), IsV (.pointer (some ⟨g, 0, none⟩)), IsV (.int .i64 (b : Nat)), IsV (.pointer (some ⟨g, 0, none⟩)), IsV (.pointer (some ⟨g, b, none⟩)), IsV (.int .u32 (s0.getD b 0).toNat), IsV (.int .u32 ((s0.getD a 0 + s0.getD b 0)).toNat), IsV (.pointer (some ⟨g, 0, none⟩)), IsV (.pointer (some ⟨g, a, none⟩))] 13 _ rfl rfl rfl (by kernel_rfl) (by kernel_rfl) ?_ (⟨g, a, none⟩ : Addr) (.int .u32 ((s0.getD a 0 + s0.getD b 0)).toNat) ?_ ?_ ?_
      · intro φ hφ
        simp only [List.mem_cons, List.not_mem_nil, or_false] at hφ
        rcases hφ with rfl | rfl | rfl | rfl | rfl | rfl | rfl | rfl | rfl | rfl | rfl | rfl | rfl <;> exact ⟨_, rfl⟩
      · refine ⟨?_, ?_, ?_, ?_, ?_, ?_, ?_, ?_, ?_, ?_, ?_, ?_, ?_, trivial⟩
        · intro a1 w1 hG hF
          exact d_old rfl (wants0 rfl) (.tmp 0) (.inr rfl) (.pointer (some ⟨g, 0, none⟩)) (hF.ol 0 (by kernel_rfl)) rfl
        · intro a1 w1 hG hF
          exact d_old rfl (wants0 rfl) (.tmp 1) (.inr rfl) (.int .i64 (a : Nat)) (hF.ol 1 (by kernel_rfl)) rfl
        · intro a1 w1 hG hF
          obtain ⟨_, e18, rfl⟩ := hF.dp 0 18 (by kernel_rfl)
          exact d_is rfl (wants0 rfl) _ rfl (run_nil e18)
        · intro a1 w1 hG hF
          obtain ⟨_, e20, rfl⟩ := hF.dp 2 20 (by kernel_rfl)
          obtain ⟨_, e19, rfl⟩ := hF.dp 1 19 (by kernel_rfl)
          exact d_is rfl (wants0 rfl) _ rfl (run_idx Tryd.underlying115 (by kernel_rfl) e20 e19 (by omega))
        · intro a1 w1 hG hF
          obtain ⟨_, e21, rfl⟩ := hF.dp 3 21 (by kernel_rfl)
          exact d_is rfl (wants0 rfl) _ rfl (run_load1 Tryd.underlying83 e21 ((hG.cell _).trans (hA0.u32 (by omega))))
        · intro a1 w1 hG hF
          exact d_old rfl (wants0 rfl) (.tmp 0) (.inr rfl) (.pointer (some ⟨g, 0, none⟩)) (hF.ol 0 (by kernel_rfl)) rfl
        · intro a1 w1 hG hF
          exact d_old rfl (wants0 rfl) (.tmp 2) (.inr rfl) (.int .i64 (b : Nat)) (hF.ol 2 (by kernel_rfl)) rfl
        · intro a1 w1 hG hF
          obtain ⟨_, e23, rfl⟩ := hF.dp 5 23 (by kernel_rfl)
          exact d_is rfl (wants0 rfl) _ rfl (run_nil e23)
        · intro a1 w1 hG hF
          obtain ⟨_, e25, rfl⟩ := hF.dp 7 25 (by kernel_rfl)
          obtain ⟨_, e24, rfl⟩ := hF.dp 6 24 (by kernel_rfl)
          exact d_is rfl (wants0 rfl) _ rfl (run_idx Tryd.underlying115 (by kernel_rfl) e25 e24 (by omega))
        · intro a1 w1 hG hF
          obtain ⟨_, e26, rfl⟩ := hF.dp 8 26 (by kernel_rfl)
          exact d_is rfl (wants0 rfl) _ rfl (run_load1 Tryd.underlying83 e26 ((hG.cell _).trans (hA0.u32 (by omega))))
        · intro a1 w1 hG hF
          obtain ⟨_, e22, rfl⟩ := hF.dp 4 22 (by kernel_rfl)
          obtain ⟨_, e27, rfl⟩ := hF.dp 9 27 (by kernel_rfl)
          exact d_is rfl (wants0 rfl) _ rfl (run_add32 e22 e27)
        · intro a1 w1 hG hF
          obtain ⟨_, e18, rfl⟩ := hF.dp 0 18 (by kernel_rfl)
          exact d_is rfl (wants0 rfl) _ rfl (run_nil e18)
        · intro a1 w1 hG hF
          obtain ⟨_, e29, rfl⟩ := hF.dp 11 29 (by kernel_rfl)
          obtain ⟨_, e19, rfl⟩ := hF.dp 1 19 (by kernel_rfl)
          exact d_is rfl (wants0 rfl) _ rfl (run_idx Tryd.underlying115 (by kernel_rfl) e29 e19 (by omega))
      · intro a1 w1 hG hF
        obtain ⟨_, e30, rfl⟩ := hF.dp 12 30 (by kernel_rfl)
        obtain ⟨_, e28, rfl⟩ := hF.dp 10 28 (by kernel_rfl)
        exact ⟨wants0 rfl, run_store1 (by kernel_rfl) e30 e28 (by rw [hG.cell]; exact (Option.isSome_iff_exists.2 ⟨_, hA0.u32 (by omega)⟩)) (by rw [hG.frozen]; exact hA0.frozen _)⟩
      intro vs k0 hf
      clear hf
      simp only [putAll, Nat.zero_add, Nat.reduceAdd]
      have hA1 := (hA0.dr ⟨k0, rfl⟩).add a b
      have hH1 := (hH0.dr ⟨k0, rfl⟩).other (a := ⟨g, a, none⟩) hhg (.int .u32 (s0.getD a 0 + s0.getD b 0).toNat)
      have hB1 := hB0.trans ((below_dr ⟨k0, rfl⟩).trans (below_setCell (a := ⟨g, a, none⟩) (v := .int .u32 (s0.getD a 0 + s0.getD b 0).toNat) (Nat.le_refl g)))
      obtain ⟨s1, hs1⟩ : ∃ z, z = addS s0 a b := ⟨_, rfl⟩
      have hl1 : s1.length = 16 := by rw [hs1]; simp [hl0]
      rw [← hs1] at hA1
      have HS1 := Lib.hid hs1
      generalize ((W0.drewN k0).setCell _ _) = W1 at hA1 hH1 hB1 ⊢
      clear hs1 hA0 hH0 hB0
      go_simp
      go_wp2_with fail
      refine wp_region_st (by kernel_rfl) [IsV (.pointer (some ⟨g, 0, none⟩)), IsV (.int .i64 (d : Nat)), IsV (.pointer (some ⟨g, 0, none⟩)), IsV (.int .i64 (d : Nat)), IsV (.pointer (some ⟨g, 0, none⟩)), IsV (.pointer (some ⟨g, d, none⟩)), IsV (.int .u32 (s1.getD d 0).toNat), IsV (.pointer (some ⟨g, 0, none⟩)), IsV (.int .i64 (a : Nat)), IsV (.pointer (some ⟨g, 0, none⟩)), IsV (.pointer (some ⟨g, a, none⟩)), IsV (.int .u32 (s1.getD a 0).toNat), IsV (.int .u32 ((s1.getD d 0 ^^^ s1.getD a 0)).toNat), IsV (.pointer (some ⟨h, 0, none⟩)), IsV (.int .i64 (16)), IsV (.int .u32 (leftU (s1.getD d 0 ^^^ s1.getD a 0) 16).toNat), IsV (.pointer (some ⟨g, 0, none⟩)), IsV (.pointer (some ⟨g, d, none⟩))] 18 _ rfl rfl rfl (by kernel_rfl) (by kernel_rfl) ?_ (⟨g, d, none⟩ : Addr) (.int .u32 (leftU (s1.getD d 0 ^^^ s1.getD a 0) 16).toNat) ?_ ?_ ?_
      · intro φ hφ
        simp only [List.mem_cons, List.not_mem_nil, or_false] at hφ
        rcases hφ with rfl | rfl | rfl | rfl | rfl | rfl | rfl | rfl | rfl | rfl | rfl | rfl | rfl | rfl | rfl | rfl | rfl | rfl <;> exact ⟨_, rfl⟩
      · refine ⟨?_, ?_, ?_, ?_, ?_, ?_, ?_, ?_, ?_, ?_, ?_, ?_, ?_, ?_, ?_, ?_, ?_, ?_, trivial⟩
        · intro a1 w1 hG hF
          exact d_old rfl (wants0 rfl) (.tmp 0) (.inr rfl) (.pointer (some ⟨g, 0, none⟩)) (hF.ol 0 (by kernel_rfl)) rfl
        · intro a1 w1 hG hF
          exact d_old rfl (wants0 rfl) (.tmp 4) (.inr rfl) (.int .i64 (d : Nat)) (hF.ol 4 (by kernel_rfl)) rfl
        · intro a1 w1 hG hF
          exact d_old rfl (wants0 rfl) (.tmp 0) (.inr rfl) (.pointer (some ⟨g, 0, none⟩)) (hF.ol 0 (by kernel_rfl)) rfl
        · intro a1 w1 hG hF
          exact d_old rfl (wants0 rfl) (.tmp 4) (.inr rfl) (.int .i64 (d : Nat)) (hF.ol 4 (by kernel_rfl)) rfl
        · intro a1 w1 hG hF
          obtain ⟨_, e33, rfl⟩ := hF.dp 2 33 (by kernel_rfl)
          exact d_is rfl (wants0 rfl) _ rfl (run_nil e33)
        · intro a1 w1 hG hF
          obtain ⟨_, e35, rfl⟩ := hF.dp 4 35 (by kernel_rfl)
          obtain ⟨_, e34, rfl⟩ := hF.dp 3 34 (by kernel_rfl)
          exact d_is rfl (wants0 rfl) _ rfl (run_idx Tryd.underlying115 (by kernel_rfl) e35 e34 (by omega))
        · intro a1 w1 hG hF
          obtain ⟨_, e36, rfl⟩ := hF.dp 5 36 (by kernel_rfl)
          exact d_is rfl (wants0 rfl) _ rfl (run_load1 Tryd.underlying83 e36 ((hG.cell _).trans (hA1.u32 (by omega))))
        · intro a1 w1 hG hF
          exact d_old rfl (wants0 rfl) (.tmp 0) (.inr rfl) (.pointer (some ⟨g, 0, none⟩)) (hF.ol 0 (by kernel_rfl)) rfl
        · intro a1 w1 hG hF
          exact d_old rfl (wants0 rfl) (.tmp 1) (.inr rfl) (.int .i64 (a : Nat)) (hF.ol 1 (by kernel_rfl)) rfl
        · intro a1 w1 hG hF
          obtain ⟨_, e38, rfl⟩ := hF.dp 7 38 (by kernel_rfl)
          exact d_is rfl (wants0 rfl) _ rfl (run_nil e38)
        · intro a1 w1 hG hF
          obtain ⟨_, e40, rfl⟩ := hF.dp 9 40 (by kernel_rfl)
          obtain ⟨_, e39, rfl⟩ := hF.dp 8 39 (by kernel_rfl)
          exact d_is rfl (wants0 rfl) _ rfl (run_idx Tryd.underlying115 (by kernel_rfl) e40 e39 (by omega))
        · intro a1 w1 hG hF
          obtain ⟨_, e41, rfl⟩ := hF.dp 10 41 (by kernel_rfl)
          exact d_is rfl (wants0 rfl) _ rfl (run_load1 Tryd.underlying83 e41 ((hG.cell _).trans (hA1.u32 (by omega))))
        · intro a1 w1 hG hF
          obtain ⟨_, e37, rfl⟩ := hF.dp 6 37 (by kernel_rfl)
          obtain ⟨_, e42, rfl⟩ := hF.dp 11 42 (by kernel_rfl)
          exact d_is rfl (wants0 rfl) _ rfl (run_xor32 e37 e42)
        · intro a1 w1 hG hF
          have e11 : a1.eval (.tmp 11) = .pointer (some ⟨h, 0, none⟩) := hF.ol 11 (by kernel_rfl)
          exact d_is rfl (wants0 rfl) _ rfl (run_idx (i := 0) Tryd.underlying153 (by kernel_rfl) e11 rfl (by omega))
        · intro a1 w1 hG hF
          obtain ⟨_, e44, rfl⟩ := hF.dp 13 44 (by kernel_rfl)
          exact d_is rfl (wants0 rfl) _ rfl (run_load1 Tryd.underlying3 e44 ((hG.cell _).trans (hH1.cell rfl)))
        · intro a1 w1 hG hF
          obtain ⟨_, e43, rfl⟩ := hF.dp 12 43 (by kernel_rfl)
          obtain ⟨_, e45, rfl⟩ := hF.dp 14 45 (by kernel_rfl)
          exact d_call rfl (wants0 rfl) _ rfl _ _ (by simp only [execOp, resolve, invoke, List.map_toArray, List.map_cons, List.map_nil, e43, e45]; go_simp) ((left_any _ _ w1).mono fun e w2 ⟨he, hw⟩ => ⟨he, hw ▸ Dr.refl _⟩)
        · intro a1 w1 hG hF
          obtain ⟨_, e31, rfl⟩ := hF.dp 0 31 (by kernel_rfl)
          exact d_is rfl (wants0 rfl) _ rfl (run_nil e31)
        · intro a1 w1 hG hF
          obtain ⟨_, e47, rfl⟩ := hF.dp 16 47 (by kernel_rfl)
          obtain ⟨_, e32, rfl⟩ := hF.dp 1 32 (by kernel_rfl)
          exact d_is rfl (wants0 rfl) _ rfl (run_idx Tryd.underlying115 (by kernel_rfl) e47 e32 (by omega))
      · intro a1 w1 hG hF
        obtain ⟨_, e48, rfl⟩ := hF.dp 17 48 (by kernel_rfl)
        obtain ⟨_, e46, rfl⟩ := hF.dp 15 46 (by kernel_rfl)
        exact ⟨wants0 rfl, run_store1 (by kernel_rfl) e48 e46 (by rw [hG.cell]; exact (Option.isSome_iff_exists.2 ⟨_, hA1.u32 (by omega)⟩)) (by rw [hG.frozen]; exact hA1.frozen _)⟩
      intro vs k1 hf
      clear hf
      simp only [putAll, Nat.zero_add, Nat.reduceAdd]
      have hA2 := (hA1.dr ⟨k1, rfl⟩).xor d a 16
      have hH2 := (hH1.dr ⟨k1, rfl⟩).other (a := ⟨g, d, none⟩) hhg (.int .u32 (leftU (s1.getD d 0 ^^^ s1.getD a 0) 16).toNat)
      have hB2 := hB1.trans ((below_dr ⟨k1, rfl⟩).trans (below_setCell (a := ⟨g, d, none⟩) (v := .int .u32 (leftU (s1.getD d 0 ^^^ s1.getD a 0) 16).toNat) (Nat.le_refl g)))
      obtain ⟨s2, hs2⟩ : ∃ z, z = xorS s1 d a 16 := ⟨_, rfl⟩
      have hl2 : s2.length = 16 := by rw [hs2]; simp [hl1]
      rw [← hs2] at hA2
      have HS2 := Lib.hid hs2
      generalize ((W1.drewN k1).setCell _ _) = W2 at hA2 hH2 hB2 ⊢
      clear hs2 hA1 hH1 hB1
      go_simp
      go_wp2_with fail
      refine wp_region_st (by kernel_rfl) [IsV (.pointer (some ⟨g, 0, none⟩)), IsV (.int .i64 (c : Nat)), IsV (.pointer (some ⟨g, 0, none⟩)), IsV (.pointer (some ⟨g, c, none⟩)), IsV (.int .u32 (s2.getD c 0).toNat), IsV (.pointer (some ⟨g, 0, none⟩)), IsV (.int .i64 (d : Nat)), IsV (.pointer (some ⟨g, 0, none⟩)), IsV (.pointer (some ⟨g, d, none⟩)), IsV (.int .u32 (s2.getD d 0).toNat), IsV (.int .u32 ((s2.getD c 0 + s2.getD d 0)).toNat), IsV (.pointer (some ⟨g, 0, none⟩)), IsV (.pointer (some ⟨g, c, none⟩))] 13 _ rfl rfl rfl (by kernel_rfl) (by kernel_rfl) ?_ (⟨g, c, none⟩ : Addr) (.int .u32 ((s2.getD c 0 + s2.getD d 0)).toNat) ?_ ?_ ?_
      · intro φ hφ
        simp only [List.mem_cons, List.not_mem_nil, or_false] at hφ
        rcases hφ with rfl | rfl | rfl | rfl | rfl | rfl | rfl | rfl | rfl | rfl | rfl | rfl | rfl <;> exact ⟨_, rfl⟩
      · refine ⟨?_, ?_, ?_, ?_, ?_, ?_, ?_, ?_, ?_, ?_, ?_, ?_, ?_, trivial⟩
        · intro a1 w1 hG hF
          exact d_old rfl (wants0 rfl) (.tmp 0) (.inr rfl) (.pointer (some ⟨g, 0, none⟩)) (hF.ol 0 (by kernel_rfl)) rfl
        · intro a1 w1 hG hF
          exact d_old rfl (wants0 rfl) (.tmp 3) (.inr rfl) (.int .i64 (c : Nat)) (hF.ol 3 (by kernel_rfl)) rfl
        · intro a1 w1 hG hF
          obtain ⟨_, e49, rfl⟩ := hF.dp 0 49 (by kernel_rfl)
          exact d_is rfl (wants0 rfl) _ rfl (run_nil e49)
        · intro a1 w1 hG hF
          obtain ⟨_, e51, rfl⟩ := hF.dp 2 51 (by kernel_rfl)
          obtain ⟨_, e50, rfl⟩ := hF.dp 1 50 (by kernel_rfl)
          exact d_is rfl (wants0 rfl) _ rfl (run_idx Tryd.underlying115 (by kernel_rfl) e51 e50 (by omega))
        · intro a1 w1 hG hF
          obtain ⟨_, e52, rfl⟩ := hF.dp 3 52 (by kernel_rfl)
          exact d_is rfl (wants0 rfl) _ rfl (run_load1 Tryd.underlying83 e52 ((hG.cell _).trans (hA2.u32 (by omega))))
        · intro a1 w1 hG hF
          exact d_old rfl (wants0 rfl) (.tmp 0) (.inr rfl) (.pointer (some ⟨g, 0, none⟩)) (hF.ol 0 (by kernel_rfl)) rfl
        · intro a1 w1 hG hF
          exact d_old rfl (wants0 rfl) (.tmp 4) (.inr rfl) (.int .i64 (d : Nat)) (hF.ol 4 (by kernel_rfl)) rfl
        · intro a1 w1 hG hF
          obtain ⟨_, e54, rfl⟩ := hF.dp 5 54 (by kernel_rfl)
          exact d_is rfl (wants0 rfl) _ rfl (run_nil e54)
        · intro a1 w1 hG hF
          obtain ⟨_, e56, rfl⟩ := hF.dp 7 56 (by kernel_rfl)
          obtain ⟨_, e55, rfl⟩ := hF.dp 6 55 (by kernel_rfl)
          exact d_is rfl (wants0 rfl) _ rfl (run_idx Tryd.underlying115 (by kernel_rfl) e56 e55 (by omega))
        · intro a1 w1 hG hF
          obtain ⟨_, e57, rfl⟩ := hF.dp 8 57 (by kernel_rfl)
          exact d_is rfl (wants0 rfl) _ rfl (run_load1 Tryd.underlying83 e57 ((hG.cell _).trans (hA2.u32 (by omega))))
        · intro a1 w1 hG hF
          obtain ⟨_, e53, rfl⟩ := hF.dp 4 53 (by kernel_rfl)
          obtain ⟨_, e58, rfl⟩ := hF.dp 9 58 (by kernel_rfl)
          exact d_is rfl (wants0 rfl) _ rfl (run_add32 e53 e58)
        · intro a1 w1 hG hF
          obtain ⟨_, e49, rfl⟩ := hF.dp 0 49 (by kernel_rfl)
          exact d_is rfl (wants0 rfl) _ rfl (run_nil e49)
        · intro a1 w1 hG hF
          obtain ⟨_, e60, rfl⟩ := hF.dp 11 60 (by kernel_rfl)
          obtain ⟨_, e50, rfl⟩ := hF.dp 1 50 (by kernel_rfl)
          exact d_is rfl (wants0 rfl) _ rfl (run_idx Tryd.underlying115 (by kernel_rfl) e60 e50 (by omega))
      · intro a1 w1 hG hF
        obtain ⟨_, e61, rfl⟩ := hF.dp 12 61 (by kernel_rfl)
        obtain ⟨_, e59, rfl⟩ := hF.dp 10 59 (by kernel_rfl)
        exact ⟨wants0 rfl, run_store1 (by kernel_rfl) e61 e59 (by rw [hG.cell]; exact (Option.isSome_iff_exists.2 ⟨_, hA2.u32 (by omega)⟩)) (by rw [hG.frozen]; exact hA2.frozen _)⟩
      intro vs k2 hf
      clear hf
      simp only [putAll, Nat.zero_add, Nat.reduceAdd]
      have hA3 := (hA2.dr ⟨k2, rfl⟩).add c d
      have hH3 := (hH2.dr ⟨k2, rfl⟩).other (a := ⟨g, c, none⟩) hhg (.int .u32 (s2.getD c 0 + s2.getD d 0).toNat)
      have hB3 := hB2.trans ((below_dr ⟨k2, rfl⟩).trans (below_setCell (a := ⟨g, c, none⟩) (v := .int .u32 (s2.getD c 0 + s2.getD d 0).toNat) (Nat.le_refl g)))
      obtain ⟨s3, hs3⟩ : ∃ z, z = addS s2 c d := ⟨_, rfl⟩
      have hl3 : s3.length = 16 := by rw [hs3]; simp [hl2]
      rw [← hs3] at hA3
      have HS3 := Lib.hid hs3
      generalize ((W2.drewN k2).setCell _ _) = W3 at hA3 hH3 hB3 ⊢
      clear hs3 hA2 hH2 hB2
      go_simp
      go_wp2_with fail
      refine wp_region_st (by kernel_rfl) [IsV (.pointer (some ⟨g, 0, none⟩)), IsV (.int .i64 (b : Nat)), IsV (.pointer (some ⟨g, 0, none⟩)), IsV (.int .i64 (b : Nat)), IsV (.pointer (some ⟨g, 0, none⟩)), IsV (.pointer (some ⟨g, b, none⟩)), IsV (.int .u32 (s3.getD b 0).toNat), IsV (.pointer (some ⟨g, 0, none⟩)), IsV (.int .i64 (c : Nat)), IsV (.pointer (some ⟨g, 0, none⟩)), IsV (.pointer (some ⟨g, c, none⟩)), IsV (.int .u32 (s3.getD c 0).toNat), IsV (.int .u32 ((s3.getD b 0 ^^^ s3.getD c 0)).toNat), IsV (.pointer (some ⟨h, 1, none⟩)), IsV (.int .i64 (12)), IsV (.int .u32 (leftU (s3.getD b 0 ^^^ s3.getD c 0) 12).toNat), IsV (.pointer (some ⟨g, 0, none⟩)), IsV (.pointer (some ⟨g, b, none⟩))] 18 _ rfl rfl rfl (by kernel_rfl) (by kernel_rfl) ?_ (⟨g, b, none⟩ : Addr) (.int .u32 (leftU (s3.getD b 0 ^^^ s3.getD c 0) 12).toNat) ?_ ?_ ?_
      · intro φ hφ
        simp only [List.mem_cons, List.not_mem_nil, or_false] at hφ
        rcases hφ with rfl | rfl | rfl | rfl | rfl | rfl | rfl | rfl | rfl | rfl | rfl | rfl | rfl | rfl | rfl | rfl | rfl | rfl <;> exact ⟨_, rfl⟩
      · refine ⟨?_, ?_, ?_, ?_, ?_, ?_, ?_, ?_, ?_, ?_, ?_, ?_, ?_, ?_, ?_, ?_, ?_, ?_, trivial⟩
        · intro a1 w1 hG hF
          exact d_old rfl (wants0 rfl) (.tmp 0) (.inr rfl) (.pointer (some ⟨g, 0, none⟩)) (hF.ol 0 (by kernel_rfl)) rfl
        · intro a1 w1 hG hF
          exact d_old rfl (wants0 rfl) (.tmp 2) (.inr rfl) (.int .i64 (b : Nat)) (hF.ol 2 (by kernel_rfl)) rfl
        · intro a1 w1 hG hF
          exact d_old rfl (wants0 rfl) (.tmp 0) (.inr rfl) (.pointer (some ⟨g, 0, none⟩)) (hF.ol 0 (by kernel_rfl)) rfl
        · intro a1 w1 hG hF
          exact d_old rfl (wants0 rfl) (.tmp 2) (.inr rfl) (.int .i64 (b : Nat)) (hF.ol 2 (by kernel_rfl)) rfl
        · intro a1 w1 hG hF
          obtain ⟨_, e64, rfl⟩ := hF.dp 2 64 (by kernel_rfl)
          exact d_is rfl (wants0 rfl) _ rfl (run_nil e64)
        · intro a1 w1 hG hF
          obtain ⟨_, e66, rfl⟩ := hF.dp 4 66 (by kernel_rfl)
          obtain ⟨_, e65, rfl⟩ := hF.dp 3 65 (by kernel_rfl)
          exact d_is rfl (wants0 rfl) _ rfl (run_idx Tryd.underlying115 (by kernel_rfl) e66 e65 (by omega))
        · intro a1 w1 hG hF
          obtain ⟨_, e67, rfl⟩ := hF.dp 5 67 (by kernel_rfl)
          exact d_is rfl (wants0 rfl) _ rfl (run_load1 Tryd.underlying83 e67 ((hG.cell _).trans (hA3.u32 (by omega))))
        · intro a1 w1 hG hF
          exact d_old rfl (wants0 rfl) (.tmp 0) (.inr rfl) (.pointer (some ⟨g, 0, none⟩)) (hF.ol 0 (by kernel_rfl)) rfl
        · intro a1 w1 hG hF
          exact d_old rfl (wants0 rfl) (.tmp 3) (.inr rfl) (.int .i64 (c : Nat)) (hF.ol 3 (by kernel_rfl)) rfl
        · intro a1 w1 hG hF
          obtain ⟨_, e69, rfl⟩ := hF.dp 7 69 (by kernel_rfl)
          exact d_is rfl (wants0 rfl) _ rfl (run_nil e69)
        · intro a1 w1 hG hF
          obtain ⟨_, e71, rfl⟩ := hF.dp 9 71 (by kernel_rfl)
          obtain ⟨_, e70, rfl⟩ := hF.dp 8 70 (by kernel_rfl)
          exact d_is rfl (wants0 rfl) _ rfl (run_idx Tryd.underlying115 (by kernel_rfl) e71 e70 (by omega))
        · intro a1 w1 hG hF
          obtain ⟨_, e72, rfl⟩ := hF.dp 10 72 (by kernel_rfl)
          exact d_is rfl (wants0 rfl) _ rfl (run_load1 Tryd.underlying83 e72 ((hG.cell _).trans (hA3.u32 (by omega))))
        · intro a1 w1 hG hF
          obtain ⟨_, e68, rfl⟩ := hF.dp 6 68 (by kernel_rfl)
          obtain ⟨_, e73, rfl⟩ := hF.dp 11 73 (by kernel_rfl)
          exact d_is rfl (wants0 rfl) _ rfl (run_xor32 e68 e73)
        · intro a1 w1 hG hF
          have e11 : a1.eval (.tmp 11) = .pointer (some ⟨h, 0, none⟩) := hF.ol 11 (by kernel_rfl)
          exact d_is rfl (wants0 rfl) _ rfl (run_idx (i := 1) Tryd.underlying153 (by kernel_rfl) e11 rfl (by omega))
        · intro a1 w1 hG hF
          obtain ⟨_, e75, rfl⟩ := hF.dp 13 75 (by kernel_rfl)
          exact d_is rfl (wants0 rfl) _ rfl (run_load1 Tryd.underlying3 e75 ((hG.cell _).trans (hH3.cell rfl)))
        · intro a1 w1 hG hF
          obtain ⟨_, e74, rfl⟩ := hF.dp 12 74 (by kernel_rfl)
          obtain ⟨_, e76, rfl⟩ := hF.dp 14 76 (by kernel_rfl)
          exact d_call rfl (wants0 rfl) _ rfl _ _ (by simp only [execOp, resolve, invoke, List.map_toArray, List.map_cons, List.map_nil, e74, e76]; go_simp) ((left_any _ _ w1).mono fun e w2 ⟨he, hw⟩ => ⟨he, hw ▸ Dr.refl _⟩)
        · intro a1 w1 hG hF
          obtain ⟨_, e62, rfl⟩ := hF.dp 0 62 (by kernel_rfl)
          exact d_is rfl (wants0 rfl) _ rfl (run_nil e62)
        · intro a1 w1 hG hF
          obtain ⟨_, e78, rfl⟩ := hF.dp 16 78 (by kernel_rfl)
          obtain ⟨_, e63, rfl⟩ := hF.dp 1 63 (by kernel_rfl)
          exact d_is rfl (wants0 rfl) _ rfl (run_idx Tryd.underlying115 (by kernel_rfl) e78 e63 (by omega))
      · intro a1 w1 hG hF
        obtain ⟨_, e79, rfl⟩ := hF.dp 17 79 (by kernel_rfl)
        obtain ⟨_, e77, rfl⟩ := hF.dp 15 77 (by kernel_rfl)
        exact ⟨wants0 rfl, run_store1 (by kernel_rfl) e79 e77 (by rw [hG.cell]; exact (Option.isSome_iff_exists.2 ⟨_, hA3.u32 (by omega)⟩)) (by rw [hG.frozen]; exact hA3.frozen _)⟩
      intro vs k3 hf
      clear hf
      simp only [putAll, Nat.zero_add, Nat.reduceAdd]
      have hA4 := (hA3.dr ⟨k3, rfl⟩).xor b c 12
      have hH4 := (hH3.dr ⟨k3, rfl⟩).other (a := ⟨g, b, none⟩) hhg (.int .u32 (leftU (s3.getD b 0 ^^^ s3.getD c 0) 12).toNat)
      have hB4 := hB3.trans ((below_dr ⟨k3, rfl⟩).trans (below_setCell (a := ⟨g, b, none⟩) (v := .int .u32 (leftU (s3.getD b 0 ^^^ s3.getD c 0) 12).toNat) (Nat.le_refl g)))
      obtain ⟨s4, hs4⟩ : ∃ z, z = xorS s3 b c 12 := ⟨_, rfl⟩
      have hl4 : s4.length = 16 := by rw [hs4]; simp [hl3]
      rw [← hs4] at hA4
      have HS4 := Lib.hid hs4
      generalize ((W3.drewN k3).setCell _ _) = W4 at hA4 hH4 hB4 ⊢
      clear hs4 hA3 hH3 hB3
      go_simp
      go_wp2_with fail
      have he : qAt s a b c d 1 = s4 := by rw [HS4.out, HS3.out, HS2.out, HS1.out, HS0.out]; rfl
      exact ⟨⟨1, by omega, rfl, he ▸ hA4, hB4⟩, by simp [intOf]⟩
    · subst h1
      obtain ⟨s0, hs0⟩ : ∃ s0, s0 = qAt s a b c d 1 := ⟨_, rfl⟩
      have hl0 : s0.length = 16 := by rw [hs0, qAt_length, hs]
      rw [← hs0] at hAr
      have HS0 := Lib.hid hs0
      clear hs0
      go_wp2_with fail
      have hA0 := hAr.alloc (.cells #[.int .i64 8, .int .i64 7] 153)
      have hH0 : Arr (wr.alloc (.cells #[.int .i64 8, .int .i64 7] 153)) wr.heap.size 153 [.int .i64 8, .int .i64 7] := Arr.new wr _ _
      have hB0 : Below g w (wr.alloc (.cells #[.int .i64 8, .int .i64 7] 153)) := hBr.alloc (Nat.le_of_lt hAr.lt) _
      have hhg : wr.heap.size ≠ g := Nat.ne_of_gt hAr.lt
      generalize (wr.alloc (.cells #[.int .i64 8, .int .i64 7] 153)) = W0 at hA0 hH0 hB0 ⊢
      generalize wr.heap.size = h at hH0 hhg ⊢
      clear hAr hBr hx0 hx1 hA
      refine wp_region_st (by kernel_rfl) [IsV (.pointer (some ⟨g, 0, none⟩)), IsV (.int .i64 (a : Nat)), IsV (.pointer (some ⟨g, 0, none⟩)), IsV (.pointer (some ⟨g, a, none⟩)), IsV (.int .u32 (s0.getD a 0).toNat), IsV (.pointer (some ⟨g, 0, none⟩)), IsV (.int .i64 (b : Nat)), IsV (.pointer (some ⟨g, 0, none⟩)), IsV (.pointer (some ⟨g, b, none⟩)), IsV (.int .u32 (s0.getD b 0).toNat), IsV (.int .u32 ((s0.getD a 0 + s0.getD b 0)).toNat), IsV (.pointer (some ⟨g, 0, none⟩)), IsV (.pointer (some ⟨g, a, none⟩))] 13 _ rfl rfl rfl (by kernel_rfl) (by kernel_rfl) ?_ (⟨g, a, none⟩ : Addr) (.int .u32 ((s0.getD a 0 + s0.getD b 0)).toNat) ?_ ?_ ?_
      · intro φ hφ
        simp only [List.mem_cons, List.not_mem_nil, or_false] at hφ
        rcases hφ with rfl | rfl | rfl | rfl | rfl | rfl | rfl | rfl | rfl | rfl | rfl | rfl | rfl <;> exact ⟨_, rfl⟩
      · refine ⟨?_, ?_, ?_, ?_, ?_, ?_, ?_, ?_, ?_, ?_, ?_, ?_, ?_, trivial⟩
        · intro a1 w1 hG hF
          exact d_old rfl (wants0 rfl) (.tmp 0) (.inr rfl) (.pointer (some ⟨g, 0, none⟩)) (hF.ol 0 (by kernel_rfl)) rfl
        · intro a1 w1 hG hF
          exact d_old rfl (wants0 rfl) (.tmp 1) (.inr rfl) (.int .i64 (a : Nat)) (hF.ol 1 (by kernel_rfl)) rfl
        · intro a1 w1 hG hF
          obtain ⟨_, e18, rfl⟩ := hF.dp 0 18 (by kernel_rfl)
          exact d_is rfl (wants0 rfl) _ rfl (run_nil e18)
        · intro a1 w1 hG hF
          obtain ⟨_, e20, rfl⟩ := hF.dp 2 20 (by kernel_rfl)
          obtain ⟨_, e19, rfl⟩ := hF.dp 1 19 (by kernel_rfl)
          exact d_is rfl (wants0 rfl) _ rfl (run_idx Tryd.underlying115 (by kernel_rfl) e20 e19 (by omega))
        · intro a1 w1 hG hF
          obtain ⟨_, e21, rfl⟩ := hF.dp 3 21 (by kernel_rfl)
          exact d_is rfl (wants0 rfl) _ rfl (run_load1 Tryd.underlying83 e21 ((hG.cell _).trans (hA0.u32 (by omega))))
        · intro a1 w1 hG hF
          exact d_old rfl (wants0 rfl) (.tmp 0) (.inr rfl) (.pointer (some ⟨g, 0, none⟩)) (hF.ol 0 (by kernel_rfl)) rfl
        · intro a1 w1 hG hF
          exact d_old rfl (wants0 rfl) (.tmp 2) (.inr rfl) (.int .i64 (b : Nat)) (hF.ol 2 (by kernel_rfl)) rfl
        · intro a1 w1 hG hF
          obtain ⟨_, e23, rfl⟩ := hF.dp 5 23 (by kernel_rfl)
          exact d_is rfl (wants0 rfl) _ rfl (run_nil e23)
        · intro a1 w1 hG hF
          obtain ⟨_, e25, rfl⟩ := hF.dp 7 25 (by kernel_rfl)
          obtain ⟨_, e24, rfl⟩ := hF.dp 6 24 (by kernel_rfl)
          exact d_is rfl (wants0 rfl) _ rfl (run_idx Tryd.underlying115 (by kernel_rfl) e25 e24 (by omega))
        · intro a1 w1 hG hF
          obtain ⟨_, e26, rfl⟩ := hF.dp 8 26 (by kernel_rfl)
          exact d_is rfl (wants0 rfl) _ rfl (run_load1 Tryd.underlying83 e26 ((hG.cell _).trans (hA0.u32 (by omega))))
        · intro a1 w1 hG hF
          obtain ⟨_, e22, rfl⟩ := hF.dp 4 22 (by kernel_rfl)
          obtain ⟨_, e27, rfl⟩ := hF.dp 9 27 (by kernel_rfl)
          exact d_is rfl (wants0 rfl) _ rfl (run_add32 e22 e27)
        · intro a1 w1 hG hF
          obtain ⟨_, e18, rfl⟩ := hF.dp 0 18 (by kernel_rfl)
          exact d_is rfl (wants0 rfl) _ rfl (run_nil e18)
        · intro a1 w1 hG hF
          obtain ⟨_, e29, rfl⟩ := hF.dp 11 29 (by kernel_rfl)
          obtain ⟨_, e19, rfl⟩ := hF.dp 1 19 (by kernel_rfl)
          exact d_is rfl (wants0 rfl) _ rfl (run_idx Tryd.underlying115 (by kernel_rfl) e29 e19 (by omega))
      · intro a1 w1 hG hF
        obtain ⟨_, e30, rfl⟩ := hF.dp 12 30 (by kernel_rfl)
        obtain ⟨_, e28, rfl⟩ := hF.dp 10 28 (by kernel_rfl)
        exact ⟨wants0 rfl, run_store1 (by kernel_rfl) e30 e28 (by rw [hG.cell]; exact (Option.isSome_iff_exists.2 ⟨_, hA0.u32 (by omega)⟩)) (by rw [hG.frozen]; exact hA0.frozen _)⟩
      intro vs k0 hf
      clear hf
      simp only [putAll, Nat.zero_add, Nat.reduceAdd]
      have hA1 := (hA0.dr ⟨k0, rfl⟩).add a b
      have hH1 := (hH0.dr ⟨k0, rfl⟩).other (a := ⟨g, a, none⟩) hhg (.int .u32 (s0.getD a 0 + s0.getD b 0).toNat)
      have hB1 := hB0.trans ((below_dr ⟨k0, rfl⟩).trans (below_setCell (a := ⟨g, a, none⟩) (v := .int .u32 (s0.getD a 0 + s0.getD b 0).toNat) (Nat.le_refl g)))
      obtain ⟨s1, hs1⟩ : ∃ z, z = addS s0 a b := ⟨_, rfl⟩
      have hl1 : s1.length = 16 := by rw [hs1]; simp [hl0]
      rw [← hs1] at hA1
      have HS1 := Lib.hid hs1
      generalize ((W0.drewN k0).setCell _ _) = W1 at hA1 hH1 hB1 ⊢
      clear hs1 hA0 hH0 hB0
      go_simp
      go_wp2_with fail
      refine wp_region_st (by kernel_rfl) [IsV (.pointer (some ⟨g, 0, none⟩)), IsV (.int .i64 (d : Nat)), IsV (.pointer (some ⟨g, 0, none⟩)), IsV (.int .i64 (d : Nat)), IsV (.pointer (some ⟨g, 0, none⟩)), IsV (.pointer (some ⟨g, d, none⟩)), IsV (.int .u32 (s1.getD d 0).toNat), IsV (.pointer (some ⟨g, 0, none⟩)), IsV (.int .i64 (a : Nat)), IsV (.pointer (some ⟨g, 0, none⟩)), IsV (.pointer (some ⟨g, a, none⟩)), IsV (.int .u32 (s1.getD a 0).toNat), IsV (.int .u32 ((s1.getD d 0 ^^^ s1.getD a 0)).toNat), IsV (.pointer (some ⟨h, 0, none⟩)), IsV (.int .i64 (8)), IsV (.int .u32 (leftU (s1.getD d 0 ^^^ s1.getD a 0) 8).toNat), IsV (.pointer (some ⟨g, 0, none⟩)), IsV (.pointer (some ⟨g, d, none⟩))] 18 _ rfl rfl rfl (by kernel_rfl) (by kernel_rfl) ?_ (⟨g, d, none⟩ : Addr) (.int .u32 (leftU (s1.getD d 0 ^^^ s1.getD a 0) 8).toNat) ?_ ?_ ?_
      · intro φ hφ
        simp only [List.mem_cons, List.not_mem_nil, or_false] at hφ
        rcases hφ with rfl | rfl | rfl | rfl | rfl | rfl | rfl | rfl | rfl | rfl | rfl | rfl | rfl | rfl | rfl | rfl | rfl | rfl <;> exact ⟨_, rfl⟩
      · refine ⟨?_, ?_, ?_, ?_, ?_, ?_, ?_, ?_, ?_, ?_, ?_, ?_, ?_, ?_, ?_, ?_, ?_, ?_, trivial⟩
        · intro a1 w1 hG hF
          exact d_old rfl (wants0 rfl) (.tmp 0) (.inr rfl) (.pointer (some ⟨g, 0, none⟩)) (hF.ol 0 (by kernel_rfl)) rfl
        · intro a1 w1 hG hF
          exact d_old rfl (wants0 rfl) (.tmp 4) (.inr rfl) (.int .i64 (d : Nat)) (hF.ol 4 (by kernel_rfl)) rfl
        · intro a1 w1 hG hF
          exact d_old rfl (wants0 rfl) (.tmp 0) (.inr rfl) (.pointer (some ⟨g, 0, none⟩)) (hF.ol 0 (by kernel_rfl)) rfl
        · intro a1 w1 hG hF
          exact d_old rfl (wants0 rfl) (.tmp 4) (.inr rfl) (.int .i64 (d : Nat)) (hF.ol 4 (by kernel_rfl)) rfl
        · intro a1 w1 hG hF
          obtain ⟨_, e33, rfl⟩ := hF.dp 2 33 (by kernel_rfl)
          exact d_is rfl (wants0 rfl) _ rfl (run_nil e33)
        · intro a1 w1 hG hF
          obtain ⟨_, e35, rfl⟩ := hF.dp 4 35 (by kernel_rfl)
          obtain ⟨_, e34, rfl⟩ := hF.dp 3 34 (by kernel_rfl)
          exact d_is rfl (wants0 rfl) _ rfl (run_idx Tryd.underlying115 (by kernel_rfl) e35 e34 (by omega))
        · intro a1 w1 hG hF
          obtain ⟨_, e36, rfl⟩ := hF.dp 5 36 (by kernel_rfl)
          exact d_is rfl (wants0 rfl) _ rfl (run_load1 Tryd.underlying83 e36 ((hG.cell _).trans (hA1.u32 (by omega))))
        · intro a1 w1 hG hF
          exact d_old rfl (wants0 rfl) (.tmp 0) (.inr rfl) (.pointer (some ⟨g, 0, none⟩)) (hF.ol 0 (by kernel_rfl)) rfl
        · intro a1 w1 hG hF
          exact d_old rfl (wants0 rfl) (.tmp 1) (.inr rfl) (.int .i64 (a : Nat)) (hF.ol 1 (by kernel_rfl)) rfl
        · intro a1 w1 hG hF
          obtain ⟨_, e38, rfl⟩ := hF.dp 7 38 (by kernel_rfl)
          exact d_is rfl (wants0 rfl) _ rfl (run_nil e38)
        · intro a1 w1 hG hF
          obtain ⟨_, e40, rfl⟩ := hF.dp 9 40 (by kernel_rfl)
          obtain ⟨_, e39, rfl⟩ := hF.dp 8 39 (by kernel_rfl)
          exact d_is rfl (wants0 rfl) _ rfl (run_idx Tryd.underlying115 (by kernel_rfl) e40 e39 (by omega))
        · intro a1 w1 hG hF
          obtain ⟨_, e41, rfl⟩ := hF.dp 10 41 (by kernel_rfl)
          exact d_is rfl (wants0 rfl) _ rfl (run_load1 Tryd.underlying83 e41 ((hG.cell _).trans (hA1.u32 (by omega))))
        · intro a1 w1 hG hF
          obtain ⟨_, e37, rfl⟩ := hF.dp 6 37 (by kernel_rfl)
          obtain ⟨_, e42, rfl⟩ := hF.dp 11 42 (by kernel_rfl)
          exact d_is rfl (wants0 rfl) _ rfl (run_xor32 e37 e42)
        · intro a1 w1 hG hF
          have e11 : a1.eval (.tmp 11) = .pointer (some ⟨h, 0, none⟩) := hF.ol 11 (by kernel_rfl)
          exact d_is rfl (wants0 rfl) _ rfl (run_idx (i := 0) Tryd.underlying153 (by kernel_rfl) e11 rfl (by omega))
        · intro a1 w1 hG hF
          obtain ⟨_, e44, rfl⟩ := hF.dp 13 44 (by kernel_rfl)
          exact d_is rfl (wants0 rfl) _ rfl (run_load1 Tryd.underlying3 e44 ((hG.cell _).trans (hH1.cell rfl)))
        · intro a1 w1 hG hF
          obtain ⟨_, e43, rfl⟩ := hF.dp 12 43 (by kernel_rfl)
          obtain ⟨_, e45, rfl⟩ := hF.dp 14 45 (by kernel_rfl)
          exact d_call rfl (wants0 rfl) _ rfl _ _ (by simp only [execOp, resolve, invoke, List.map_toArray, List.map_cons, List.map_nil, e43, e45]; go_simp) ((left_any _ _ w1).mono fun e w2 ⟨he, hw⟩ => ⟨he, hw ▸ Dr.refl _⟩)
        · intro a1 w1 hG hF
          obtain ⟨_, e31, rfl⟩ := hF.dp 0 31 (by kernel_rfl)
          exact d_is rfl (wants0 rfl) _ rfl (run_nil e31)
        · intro a1 w1 hG hF
          obtain ⟨_, e47, rfl⟩ := hF.dp 16 47 (by kernel_rfl)
          obtain ⟨_, e32, rfl⟩ := hF.dp 1 32 (by kernel_rfl)
          exact d_is rfl (wants0 rfl) _ rfl (run_idx Tryd.underlying115 (by kernel_rfl) e47 e32 (by omega))
      · intro a1 w1 hG hF
        obtain ⟨_, e48, rfl⟩ := hF.dp 17 48 (by kernel_rfl)
        obtain ⟨_, e46, rfl⟩ := hF.dp 15 46 (by kernel_rfl)
        exact ⟨wants0 rfl, run_store1 (by kernel_rfl) e48 e46 (by rw [hG.cell]; exact (Option.isSome_iff_exists.2 ⟨_, hA1.u32 (by omega)⟩)) (by rw [hG.frozen]; exact hA1.frozen _)⟩
      intro vs k1 hf
      clear hf
      simp only [putAll, Nat.zero_add, Nat.reduceAdd]
      have hA2 := (hA1.dr ⟨k1, rfl⟩).xor d a 8
      have hH2 := (hH1.dr ⟨k1, rfl⟩).other (a := ⟨g, d, none⟩) hhg (.int .u32 (leftU (s1.getD d 0 ^^^ s1.getD a 0) 8).toNat)
      have hB2 := hB1.trans ((below_dr ⟨k1, rfl⟩).trans (below_setCell (a := ⟨g, d, none⟩) (v := .int .u32 (leftU (s1.getD d 0 ^^^ s1.getD a 0) 8).toNat) (Nat.le_refl g)))
      obtain ⟨s2, hs2⟩ : ∃ z, z = xorS s1 d a 8 := ⟨_, rfl⟩
      have hl2 : s2.length = 16 := by rw [hs2]; simp [hl1]
      rw [← hs2] at hA2
      have HS2 := Lib.hid hs2
      generalize ((W1.drewN k1).setCell _ _) = W2 at hA2 hH2 hB2 ⊢
      clear hs2 hA1 hH1 hB1
      go_simp
      go_wp2_with fail
      refine wp_region_st (by kernel_rfl) [IsV (.pointer (some ⟨g, 0, none⟩)), IsV (.int .i64 (c : Nat)), IsV (.pointer (some ⟨g, 0, none⟩)), IsV (.pointer (some ⟨g, c, none⟩)), IsV (.int .u32 (s2.getD c 0).toNat), IsV (.pointer (some ⟨g, 0, none⟩)), IsV (.int .i64 (d : Nat)), IsV (.pointer (some ⟨g, 0, none⟩)), IsV (.pointer (some ⟨g, d, none⟩)), IsV (.int .u32 (s2.getD d 0).toNat), IsV (.int .u32 ((s2.getD c 0 + s2.getD d 0)).toNat), IsV (.pointer (some ⟨g, 0, none⟩)), IsV (.pointer (some ⟨g, c, none⟩))] 13 _ rfl rfl rfl (by kernel_rfl) (by kernel_rfl) ?_ (⟨g, c, none⟩ : Addr) (.int .u32 ((s2.getD c 0 + s2.getD d 0)).toNat) ?_ ?_ ?_
      · intro φ hφ
        simp only [List.mem_cons, List.not_mem_nil, or_false] at hφ
        rcases hφ with rfl | rfl | rfl | rfl | rfl | rfl | rfl | rfl | rfl | rfl | rfl | rfl | rfl <;> exact ⟨_, rfl⟩
      · refine ⟨?_, ?_, ?_, ?_, ?_, ?_, ?_, ?_, ?_, ?_, ?_, ?_, ?_, trivial⟩
        · intro a1 w1 hG hF
          exact d_old rfl (wants0 rfl) (.tmp 0) (.inr rfl) (.pointer (some ⟨g, 0, none⟩)) (hF.ol 0 (by kernel_rfl)) rfl
        · intro a1 w1 hG hF
          exact d_old rfl (wants0 rfl) (.tmp 3) (.inr rfl) (.int .i64 (c : Nat)) (hF.ol 3 (by kernel_rfl)) rfl
        · intro a1 w1 hG hF
          obtain ⟨_, e49, rfl⟩ := hF.dp 0 49 (by kernel_rfl)
          exact d_is rfl (wants0 rfl) _ rfl (run_nil e49)
        · intro a1 w1 hG hF
          obtain ⟨_, e51, rfl⟩ := hF.dp 2 51 (by kernel_rfl)
          obtain ⟨_, e50, rfl⟩ := hF.dp 1 50 (by kernel_rfl)
          exact d_is rfl (wants0 rfl) _ rfl (run_idx Tryd.underlying115 (by kernel_rfl) e51 e50 (by omega))
        · intro a1 w1 hG hF
          obtain ⟨_, e52, rfl⟩ := hF.dp 3 52 (by kernel_rfl)
          exact d_is rfl (wants0 rfl) _ rfl (run_load1 Tryd.underlying83 e52 ((hG.cell _).trans (hA2.u32 (by omega))))
        · intro a1 w1 hG hF
          exact d_old rfl (wants0 rfl) (.tmp 0) (.inr rfl) (.pointer (some ⟨g, 0, none⟩)) (hF.ol 0 (by kernel_rfl)) rfl
        · intro a1 w1 hG hF
          exact d_old rfl (wants0 rfl) (.tmp 4) (.inr rfl) (.int .i64 (d : Nat)) (hF.ol 4 (by kernel_rfl)) rfl
        · intro a1 w1 hG hF
          obtain ⟨_, e54, rfl⟩ := hF.dp 5 54 (by kernel_rfl)
          exact d_is rfl (wants0 rfl) _ rfl (run_nil e54)
        · intro a1 w1 hG hF
          obtain ⟨_, e56, rfl⟩ := hF.dp 7 56 (by kernel_rfl)
          obtain ⟨_, e55, rfl⟩ := hF.dp 6 55 (by kernel_rfl)
          exact d_is rfl (wants0 rfl) _ rfl (run_idx Tryd.underlying115 (by kernel_rfl) e56 e55 (by omega))
        · intro a1 w1 hG hF
          obtain ⟨_, e57, rfl⟩ := hF.dp 8 57 (by kernel_rfl)
          exact d_is rfl (wants0 rfl) _ rfl (run_load1 Tryd.underlying83 e57 ((hG.cell _).trans (hA2.u32 (by omega))))
        · intro a1 w1 hG hF
          obtain ⟨_, e53, rfl⟩ := hF.dp 4 53 (by kernel_rfl)
          obtain ⟨_, e58, rfl⟩ := hF.dp 9 58 (by kernel_rfl)
          exact d_is rfl (wants0 rfl) _ rfl (run_add32 e53 e58)
        · intro a1 w1 hG hF
          obtain ⟨_, e49, rfl⟩ := hF.dp 0 49 (by kernel_rfl)
          exact d_is rfl (wants0 rfl) _ rfl (run_nil e49)
        · intro a1 w1 hG hF
          obtain ⟨_, e60, rfl⟩ := hF.dp 11 60 (by kernel_rfl)
          obtain ⟨_, e50, rfl⟩ := hF.dp 1 50 (by kernel_rfl)
          exact d_is rfl (wants0 rfl) _ rfl (run_idx Tryd.underlying115 (by kernel_rfl) e60 e50 (by omega))
      · intro a1 w1 hG hF
        obtain ⟨_, e61, rfl⟩ := hF.dp 12 61 (by kernel_rfl)
        obtain ⟨_, e59, rfl⟩ := hF.dp 10 59 (by kernel_rfl)
        exact ⟨wants0 rfl, run_store1 (by kernel_rfl) e61 e59 (by rw [hG.cell]; exact (Option.isSome_iff_exists.2 ⟨_, hA2.u32 (by omega)⟩)) (by rw [hG.frozen]; exact hA2.frozen _)⟩
      intro vs k2 hf
      clear hf
      simp only [putAll, Nat.zero_add, Nat.reduceAdd]
      have hA3 := (hA2.dr ⟨k2, rfl⟩).add c d
      have hH3 := (hH2.dr ⟨k2, rfl⟩).other (a := ⟨g, c, none⟩) hhg (.int .u32 (s2.getD c 0 + s2.getD d 0).toNat)
      have hB3 := hB2.trans ((below_dr ⟨k2, rfl⟩).trans (below_setCell (a := ⟨g, c, none⟩) (v := .int .u32 (s2.getD c 0 + s2.getD d 0).toNat) (Nat.le_refl g)))
      obtain ⟨s3, hs3⟩ : ∃ z, z = addS s2 c d := ⟨_, rfl⟩
      have hl3 : s3.length = 16 := by rw [hs3]; simp [hl2]
      rw [← hs3] at hA3
      have HS3 := Lib.hid hs3
      generalize ((W2.drewN k2).setCell _ _) = W3 at hA3 hH3 hB3 ⊢
      clear hs3 hA2 hH2 hB2
      go_simp
      go_wp2_with fail
      refine wp_region_st (by kernel_rfl) [IsV (.pointer (some ⟨g, 0, none⟩)), IsV (.int .i64 (b : Nat)), IsV (.pointer (some ⟨g, 0, none⟩)), IsV (.int .i64 (b : Nat)), IsV (.pointer (some ⟨g, 0, none⟩)), IsV (.pointer (some ⟨g, b, none⟩)), IsV (.int .u32 (s3.getD b 0).toNat), IsV (.pointer (some ⟨g, 0, none⟩)), IsV (.int .i64 (c : Nat)), IsV (.pointer (some ⟨g, 0, none⟩)), IsV (.pointer (some ⟨g, c, none⟩)), IsV (.int .u32 (s3.getD c 0).toNat), IsV (.int .u32 ((s3.getD b 0 ^^^ s3.getD c 0)).toNat), IsV (.pointer (some ⟨h, 1, none⟩)), IsV (.int .i64 (7)), IsV (.int .u32 (leftU (s3.getD b 0 ^^^ s3.getD c 0) 7).toNat), IsV (.pointer (some ⟨g, 0, none⟩)), IsV (.pointer (some ⟨g, b, none⟩))] 18 _ rfl rfl rfl (by kernel_rfl) (by kernel_rfl) ?_ (⟨g, b, none⟩ : Addr) (.int .u32 (leftU (s3.getD b 0 ^^^ s3.getD c 0) 7).toNat) ?_ ?_ ?_
      · intro φ hφ
        simp only [List.mem_cons, List.not_mem_nil, or_false] at hφ
        rcases hφ with rfl | rfl | rfl | rfl | rfl | rfl | rfl | rfl | rfl | rfl | rfl | rfl | rfl | rfl | rfl | rfl | rfl | rfl <;> exact ⟨_, rfl⟩
      · refine ⟨?_, ?_, ?_, ?_, ?_, ?_, ?_, ?_, ?_, ?_, ?_, ?_, ?_, ?_, ?_, ?_, ?_, ?_, trivial⟩
        · intro a1 w1 hG hF
          exact d_old rfl (wants0 rfl) (.tmp 0) (.inr rfl) (.pointer (some ⟨g, 0, none⟩)) (hF.ol 0 (by kernel_rfl)) rfl
        · intro a1 w1 hG hF
          exact d_old rfl (wants0 rfl) (.tmp 2) (.inr rfl) (.int .i64 (b : Nat)) (hF.ol 2 (by kernel_rfl)) rfl
        · intro a1 w1 hG hF
          exact d_old rfl (wants0 rfl) (.tmp 0) (.inr rfl) (.pointer (some ⟨g, 0, none⟩)) (hF.ol 0 (by kernel_rfl)) rfl
        · intro a1 w1 hG hF
          exact d_old rfl (wants0 rfl) (.tmp 2) (.inr rfl) (.int .i64 (b : Nat)) (hF.ol 2 (by kernel_rfl)) rfl
        · intro a1 w1 hG hF
          obtain ⟨_, e64, rfl⟩ := hF.dp 2 64 (by kernel_rfl)
          exact d_is rfl (wants0 rfl) _ rfl (run_nil e64)
        · intro a1 w1 hG hF
          obtain ⟨_, e66, rfl⟩ := hF.dp 4 66 (by kernel_rfl)
          obtain ⟨_, e65, rfl⟩ := hF.dp 3 65 (by kernel_rfl)
          exact d_is rfl (wants0 rfl) _ rfl (run_idx Tryd.underlying115 (by kernel_rfl) e66 e65 (by omega))
        · intro a1 w1 hG hF
          obtain ⟨_, e67, rfl⟩ := hF.dp 5 67 (by kernel_rfl)
          exact d_is rfl (wants0 rfl) _ rfl (run_load1 Tryd.underlying83 e67 ((hG.cell _).trans (hA3.u32 (by omega))))
        · intro a1 w1 hG hF
          exact d_old rfl (wants0 rfl) (.tmp 0) (.inr rfl) (.pointer (some ⟨g, 0, none⟩)) (hF.ol 0 (by kernel_rfl)) rfl
        · intro a1 w1 hG hF
          exact d_old rfl (wants0 rfl) (.tmp 3) (.inr rfl) (.int .i64 (c : Nat)) (hF.ol 3 (by kernel_rfl)) rfl
        · intro a1 w1 hG hF
          obtain ⟨_, e69, rfl⟩ := hF.dp 7 69 (by kernel_rfl)
          exact d_is rfl (wants0 rfl) _ rfl (run_nil e69)
        · intro a1 w1 hG hF
          obtain ⟨_, e71, rfl⟩ := hF.dp 9 71 (by kernel_rfl)
          obtain ⟨_, e70, rfl⟩ := hF.dp 8 70 (by kernel_rfl)
          exact d_is rfl (wants0 rfl) _ rfl (run_idx Tryd.underlying115 (by kernel_rfl) e71 e70 (by omega))
        · intro a1 w1 hG hF
          obtain ⟨_, e72, rfl⟩ := hF.dp 10 72 (by kernel_rfl)
          exact d_is rfl (wants0 rfl) _ rfl (run_load1 Tryd.underlying83 e72 ((hG.cell _).trans (hA3.u32 (by omega))))
        · intro a1 w1 hG hF
          obtain ⟨_, e68, rfl⟩ := hF.dp 6 68 (by kernel_rfl)
          obtain ⟨_, e73, rfl⟩ := hF.dp 11 73 (by kernel_rfl)
          exact d_is rfl (wants0 rfl) _ rfl (run_xor32 e68 e73)
        · intro a1 w1 hG hF
          have e11 : a1.eval (.tmp 11) = .pointer (some ⟨h, 0, none⟩) := hF.ol 11 (by kernel_rfl)
          exact d_is rfl (wants0 rfl) _ rfl (run_idx (i := 1) Tryd.underlying153 (by kernel_rfl) e11 rfl (by omega))
        · intro a1 w1 hG hF
          obtain ⟨_, e75, rfl⟩ := hF.dp 13 75 (by kernel_rfl)
          exact d_is rfl (wants0 rfl) _ rfl (run_load1 Tryd.underlying3 e75 ((hG.cell _).trans (hH3.cell rfl)))
        · intro a1 w1 hG hF
          obtain ⟨_, e74, rfl⟩ := hF.dp 12 74 (by kernel_rfl)
          obtain ⟨_, e76, rfl⟩ := hF.dp 14 76 (by kernel_rfl)
          exact d_call rfl (wants0 rfl) _ rfl _ _ (by simp only [execOp, resolve, invoke, List.map_toArray, List.map_cons, List.map_nil, e74, e76]; go_simp) ((left_any _ _ w1).mono fun e w2 ⟨he, hw⟩ => ⟨he, hw ▸ Dr.refl _⟩)
        · intro a1 w1 hG hF
          obtain ⟨_, e62, rfl⟩ := hF.dp 0 62 (by kernel_rfl)
          exact d_is rfl (wants0 rfl) _ rfl (run_nil e62)
        · intro a1 w1 hG hF
          obtain ⟨_, e78, rfl⟩ := hF.dp 16 78 (by kernel_rfl)
          obtain ⟨_, e63, rfl⟩ := hF.dp 1 63 (by kernel_rfl)
          exact d_is rfl (wants0 rfl) _ rfl (run_idx Tryd.underlying115 (by kernel_rfl) e78 e63 (by omega))
      · intro a1 w1 hG hF
        obtain ⟨_, e79, rfl⟩ := hF.dp 17 79 (by kernel_rfl)
        obtain ⟨_, e77, rfl⟩ := hF.dp 15 77 (by kernel_rfl)
        exact ⟨wants0 rfl, run_store1 (by kernel_rfl) e79 e77 (by rw [hG.cell]; exact (Option.isSome_iff_exists.2 ⟨_, hA3.u32 (by omega)⟩)) (by rw [hG.frozen]; exact hA3.frozen _)⟩
      intro vs k3 hf
      clear hf
      simp only [putAll, Nat.zero_add, Nat.reduceAdd]
      have hA4 := (hA3.dr ⟨k3, rfl⟩).xor b c 7
      have hH4 := (hH3.dr ⟨k3, rfl⟩).other (a := ⟨g, b, none⟩) hhg (.int .u32 (leftU (s3.getD b 0 ^^^ s3.getD c 0) 7).toNat)
      have hB4 := hB3.trans ((below_dr ⟨k3, rfl⟩).trans (below_setCell (a := ⟨g, b, none⟩) (v := .int .u32 (leftU (s3.getD b 0 ^^^ s3.getD c 0) 7).toNat) (Nat.le_refl g)))
      obtain ⟨s4, hs4⟩ : ∃ z, z = xorS s3 b c 7 := ⟨_, rfl⟩
      have hl4 : s4.length = 16 := by rw [hs4]; simp [hl3]
      rw [← hs4] at hA4
      have HS4 := Lib.hid hs4
      generalize ((W3.drewN k3).setCell _ _) = W4 at hA4 hH4 hB4 ⊢
      clear hs4 hA3 hH3 hB3
      go_simp
      go_wp2_with fail
      have he : qAt s a b c d 2 = s4 := by rw [HS4.out, HS3.out, HS2.out, HS1.out, HS0.out]; rfl
      exact ⟨⟨2, by omega, rfl, he ▸ hA4, hB4⟩, by simp [intOf]⟩
    · subst h2
      clear hx0 hx1 hA
      go_wp2_with fail
      go_end0
      exact ⟨⟨_, rfl⟩, hAr, hBr⟩
end Go.Proofs.YtnmhfomnlnlflaaDoor
/- The walk of (*state).rounds. No condition. -/
namespace Go.Proofs.YtnmhfomnlnlflaaDoor
open Go.RowKit
def colsAt (s : List UInt32) : Nat → List UInt32
  | 0 => s
  | k + 1 => quarterL (colsAt s k) k (4 + k) (8 + k) (12 + k)
def diagsAt (s : List UInt32) : Nat → List UInt32
  | 0 => s
  | k + 1 => quarterL (diagsAt s k) k (4 + (k + 1) % 4) (8 + (k + 2) % 4) (12 + (k + 3) % 4)
def roundL (s : List UInt32) : List UInt32 := diagsAt (colsAt s 4) 4
@[simp] theorem colsAt_length (s : List UInt32) (k : Nat) : (colsAt s k).length = s.length := by
  induction k with
  | zero => rfl
  | succ k ih => rw [colsAt, quarterL_length, ih]
@[simp] theorem diagsAt_length (s : List UInt32) (k : Nat) : (diagsAt s k).length = s.length := by
  induction k with
  | zero => rfl
  | succ k ih => rw [diagsAt, quarterL_length, ih]
@[simp] theorem roundL_length (s : List UInt32) : (roundL s).length = s.length := by simp [roundL]
set_option maxRecDepth 100000 in
theorem rounds_any (g : Nat) (s : List UInt32) (hs : s.length = 16) (w : World) (hA : Arr w g 115 (u32s s)) :
    Calls Tryd.prog 68 #[.pointer (some ⟨g, 0, none⟩)] w fun e w' => (∃ v, e = .returned v) ∧ Arr w' g 115 (u32s (roundL s)) ∧ Below g w w' := by
  go_enter Tryd.func68, Tryd.ntmps68
  go_wp2_with fail
  go_loopw [4] (fun i wr => ∃ r : Nat, r ≤ 4 ∧ i = .int .i64 r ∧ Arr wr g 115 (u32s (colsAt s r)) ∧ Below g w wr) (fun i _ => 4 - (intOf i).toNat)
  case atStart => exact ⟨0, by omega, rfl, hA, Below.refl _ _⟩
  case round =>
    obtain ⟨r, hr, rfl, hAr, hBr⟩ := hrel
    by_cases hlt : r < 4
    · have hl : (colsAt s r).length = 16 := by simp [hs]
      go_wp2_with (go_at_call 88; rw [show (4 : Int) + (r : Int) = ((4 + r : Nat) : Int) by omega, show (8 : Int) + (r : Int) = ((8 + r : Nat) : Int) by omega, show (12 : Int) + (r : Int) = ((12 + r : Nat) : Int) by omega]; refine (quarter_any g r (4 + r) (8 + r) (12 + r) (by omega) (by omega) (by omega) (by omega) (colsAt s r) hl _ hAr).mono ?_; rintro e w1 ⟨⟨v, rfl⟩, hA1, hB1⟩)
      go_roundw
      case rel => exact ⟨r + 1, by omega, by go_num, hA1, hBr.trans hB1⟩
      case measure => simp [intOf]; omega
    · obtain rfl : r = 4 := by omega
      obtain ⟨s4, hs4⟩ : ∃ z, z = colsAt s 4 := ⟨_, rfl⟩
      have hl4 : s4.length = 16 := by rw [hs4]; simp [hs]
      rw [← hs4] at hAr
      have HS := Lib.hid hs4
      clear hs4 hA
      simp only [show ((4 : Nat) : Int) = 4 from rfl]
      go_wp2_with fail
      go_loopw [17] (fun i wr2 => ∃ r : Nat, r ≤ 4 ∧ i = .int .i64 r ∧ Arr wr2 g 115 (u32s (diagsAt s4 r)) ∧ Below g w wr2) (fun i _ => 4 - (intOf i).toNat)
      case atStart => exact ⟨0, by omega, rfl, hAr, hBr⟩
      case round =>
        obtain ⟨r, hr, rfl, hAd, hBd⟩ := hrel
        by_cases hlt : r < 4
        · have hl : (diagsAt s4 r).length = 16 := by simp [hl4]
          go_wp2_with (go_at_call 88; rw [show (4 : Int) + ((r : Int) + 1) % 4 = ((4 + (r + 1) % 4 : Nat) : Int) by omega, show (8 : Int) + ((r : Int) + 2) % 4 = ((8 + (r + 2) % 4 : Nat) : Int) by omega, show (12 : Int) + ((r : Int) + 3) % 4 = ((12 + (r + 3) % 4 : Nat) : Int) by omega]; refine (quarter_any g r (4 + (r + 1) % 4) (8 + (r + 2) % 4) (12 + (r + 3) % 4) (by omega) (by omega) (by omega) (by omega) (diagsAt s4 r) hl _ hAd).mono ?_; rintro e w1 ⟨⟨v, rfl⟩, hA1, hB1⟩)
          go_roundw
          case rel =>
            exact ⟨r + 1, by omega, by go_num, hA1, hBd.trans hB1⟩
          case measure => simp [intOf]; omega
        · obtain rfl : r = 4 := by omega
          go_wp2_with fail
          go_end0
          refine ⟨⟨_, rfl⟩, ?_, hBd⟩
          rw [HS.out] at hAd
          exact hAd
end Go.Proofs.YtnmhfomnlnlflaaDoor
/- The walk of begin. No condition. -/
namespace Go.Proofs.YtnmhfomnlnlflaaDoor
open Go.RowKit
/-- The word of four bytes, the k-th, the lowest first. -/
def w4 (l : List UInt8) (k : Nat) : UInt32 := UInt32.ofNat (leNat ((l.drop (4 * k)).take 4))
def sigma : List UInt32 := [1634760805, 857760878, 2036477234, 1797285236, 0, 0, 0, 0, 0, 0, 0, 0, 0, 0, 0, 0]
def keyAt (K : List UInt8) : Nat → List UInt32
  | 0 => sigma
  | k + 1 => (keyAt K k).set (4 + k) (w4 K k)
def nonceAt (s : List UInt32) (N : List UInt8) : Nat → List UInt32
  | 0 => s
  | k + 1 => (nonceAt s N k).set (13 + k) (w4 N k)
def beginL (K : List UInt8) (c : UInt32) (N : List UInt8) : List UInt32 := nonceAt ((keyAt K 8).set 12 c) N 3
@[simp] theorem keyAt_length (K : List UInt8) (k : Nat) : (keyAt K k).length = 16 := by
  induction k with
  | zero => rfl
  | succ k ih => rw [keyAt, List.length_set, ih]
@[simp] theorem nonceAt_length (s : List UInt32) (N : List UInt8) (k : Nat) : (nonceAt s N k).length = s.length := by
  induction k with
  | zero => rfl
  | succ k ih => rw [nonceAt, List.length_set, ih]
@[simp] theorem beginL_length (K : List UInt8) (c : UInt32) (N : List UInt8) : (beginL K c N).length = 16 := by simp [beginL]
theorem w4_nat (l : List UInt8) (k : Nat) : (w4 l k).toNat = leNat ((l.drop (4 * k)).take 4) := by
  have h := leNat_lt ((l.drop (4 * k)).take 4)
  have h2 : 256 ^ ((l.drop (4 * k)).take 4).length ≤ 256 ^ 4 := Nat.pow_le_pow_right (by omega) (by rw [List.length_take]; omega)
  unfold w4
  rw [UInt32.toNat_ofNat']
  omega
set_option maxRecDepth 100000 in
theorem begin_any (K : List UInt8) (hK : K.length = 32) (c : UInt32) (N : List UInt8) (hN : N.length = 12) (w : World) :
    Calls Tryd.prog 67 #[.agg (u8s K).toArray, .int .u32 c.toNat, .agg (u8s N).toArray] w fun e w' => e = .returned (.agg (u32s (beginL K c N)).toArray) ∧ Below w.heap.size w w' := by
  go_enter Tryd.func67, Tryd.ntmps67
  go_wp2_with fail
  generalize hW : (((w.alloc _).alloc _).alloc _).alloc _ = W
  have hk : Arr W w.heap.size 22 (u8s K) := by rw [← hW]; exact (((Arr.newAt rfl rfl).alloc _).alloc _).alloc _
  have hn : Arr W (w.heap.size + 1) 68 (u8s N) := by rw [← hW]; exact ((Arr.newAt (by simp only [asz]) rfl).alloc _).alloc _
  have hr : Arr W (w.heap.size + 1 + 1) 115 (u32s (List.replicate 16 0)) := by rw [← hW]; exact (Arr.newAt (by simp only [asz]) (by kernel_rfl)).alloc _
  have hs : Arr W (w.heap.size + 1 + 1 + 1) 115 (u32s (keyAt K 0)) := by rw [← hW]; exact Arr.newAt (by simp only [asz]) (by kernel_rfl)
  have hb : Below w.heap.size w W := by rw [← hW]; exact ((((Below.refl _ _).alloc (by omega) _).alloc (by simp only [asz]; omega) _).alloc (by simp only [asz]; omega) _).alloc (by simp only [asz]; omega) _
  obtain ⟨gk, hgk⟩ : ∃ g, g = w.heap.size := ⟨_, rfl⟩
  have hW' := Lib.hid hW
  clear hW
  go_loopw [11] (fun i wr => ∃ r : Nat, r ≤ 8 ∧ i = .int .i64 r ∧ Arr wr w.heap.size 22 (u8s K) ∧ Arr wr (w.heap.size + 1) 68 (u8s N) ∧ Arr wr (w.heap.size + 1 + 1) 115 (u32s (List.replicate 16 0)) ∧ Arr wr (w.heap.size + 1 + 1 + 1) 115 (u32s (keyAt K r)) ∧ Below w.heap.size w wr) (fun i _ => 8 - (intOf i).toNat)
  case atStart => exact ⟨0, by omega, rfl, hk, hn, hr, hs, hb⟩
  case round =>
    obtain ⟨r, hr8, rfl, hk, hn, hr, hs, hb⟩ := hrel
    by_cases hlt : r < 8
    · have hc := run_cutA (P := Tryd.prog) Tryd.underlying22 (by kernel_rfl) w.heap.size (4 * r) (4 * r + 4) (by omega) (by omega) (by omega) (4 * (r : Int)) (4 * (r : Int) + 4) (by omega) (by omega) wr
      rw [show 4 * r + 4 - 4 * r = 4 by omega] at hc
      have hrd := hk.rd (4 * r) 4 (by simp [hK]; omega)
      rw [u8s_drop, u8s_take] at hrd
      have hlo := low32_any _ (32 - 4 * r) _ _ hrd
      have c1 := hs.u32 (a := 4 + r) (by simp; omega)
      have f1 := hs.frozen (4 + r)
      rw [← w4_nat] at hlo
      go_wp2_with (go_at_call 87; refine hlo.mono ?_; rintro e w1 ⟨rfl, rfl⟩)
      go_roundw
      case rel =>
        have hs' := hs.set (4 + r) (.int .u32 ((w4 K r).toNat : Int))
        rw [u32s_set] at hs'
        exact ⟨r + 1, by omega, by go_num, hk.other (by simp only []; omega) _, hn.other (by simp only []; omega) _, hr.other (by simp only []; omega) _, hs', hb.trans (below_setCell (by simp only []; omega))⟩
      case measure => simp [intOf]; omega
    · obtain rfl : r = 8 := by omega
      obtain ⟨s8, hs8⟩ : ∃ z, z = keyAt K 8 := ⟨_, rfl⟩
      rw [← hs8] at hs
      have hl8 : s8.length = 16 := by rw [hs8]; simp
      have HS := Lib.hid hs8
      clear hs8
      have c1 := hs.u32 (a := 12) (by omega)
      have f1 := hs.frozen 12
      simp only [show ((8 : Nat) : Int) = 8 from rfl]
      go_wp2_with fail
      go_loopw [30] (fun i wr => ∃ r : Nat, r ≤ 3 ∧ i = .int .i64 r ∧ Arr wr (w.heap.size + 1) 68 (u8s N) ∧ Arr wr (w.heap.size + 1 + 1) 115 (u32s (List.replicate 16 0)) ∧ Arr wr (w.heap.size + 1 + 1 + 1) 115 (u32s (nonceAt (s8.set 12 c) N r)) ∧ Below w.heap.size w wr) (fun i _ => 3 - (intOf i).toNat)
      case atStart =>
        have hs' := hs.set 12 (.int .u32 (c.toNat : Int))
        rw [u32s_set] at hs'
        exact ⟨0, by omega, rfl, hn.other (by simp only []; omega) _, hr.other (by simp only []; omega) _, hs', hb.trans (below_setCell (by simp only []; omega))⟩
      case round =>
        obtain ⟨r, hr8, rfl, hn, hr, hs, hb⟩ := hrel
        by_cases hlt : r < 3
        · have hc := run_cutA (P := Tryd.prog) Tryd.underlying68 (by kernel_rfl) (w.heap.size + 1) (4 * r) (4 * r + 4) (by omega) (by omega) (by omega) (4 * (r : Int)) (4 * (r : Int) + 4) (by omega) (by omega) wr
          rw [show 4 * r + 4 - 4 * r = 4 by omega] at hc
          have hrd := hn.rd (4 * r) 4 (by simp [hN]; omega)
          rw [u8s_drop, u8s_take] at hrd
          have hlo := low32_any _ (12 - 4 * r) _ _ hrd
          have c1 := hs.u32 (a := 13 + r) (by simp; omega)
          have f1 := hs.frozen (13 + r)
          rw [← w4_nat] at hlo
          go_wp2_with (go_at_call 87; refine hlo.mono ?_; rintro e w1 ⟨rfl, rfl⟩)
          go_roundw
          case rel =>
            have hs' := hs.set (13 + r) (.int .u32 ((w4 N r).toNat : Int))
            rw [u32s_set] at hs'
            exact ⟨r + 1, by omega, by go_num, hn.other (by simp only []; omega) _, hr.other (by simp only []; omega) _, hs', hb.trans (below_setCell (by simp only []; omega))⟩
          case measure => simp [intOf]; omega
        · obtain rfl : r = 3 := by omega
          obtain ⟨s9, hs9⟩ : ∃ z, z = nonceAt (s8.set 12 c) N 3 := ⟨_, rfl⟩
          rw [← hs9] at hs
          have hl9 : s9.length = 16 := by rw [hs9]; simp [hl8]
          have HS9 := Lib.hid hs9
          clear hs9 c1 f1 hk
          simp only [show ((3 : Nat) : Int) = 3 from rfl]
          have i1 : (Tryd.prog.info? 115).map (·.size) = some (u32s s9).length := by simp only [u32s_length, hl9]; kernel_rfl
          have i2 : (Tryd.prog.info? 115).map (·.size) = some (u32s s9).toArray.size := by simp only [List.size_toArray, u32s_length, hl9]; kernel_rfl
          have t2 : wr.there (w.heap.size + 1 + 1) 0 (u32s s9).toArray.size := by have := hr.there; simpa [hl9] using this
          have HI1 := Lib.hid i1
          have HI2 := Lib.hid i2
          have HT2 := Lib.hid t2
          clear i1 i2 t2
          go_wp2_with first
            | (refine wpList_load_mid rfl 115 (.tmp 7) rfl (w.heap.size + 1 + 1 + 1) 0 rfl (u32s s9) _ hs.range Tryd.underlying115 rfl HI1.out ?_)
            | (refine wpList_store_mid rfl 115 (.tmp 6) (.tmp 47) rfl (w.heap.size + 1 + 1) 0 (u32s s9).toArray rfl rfl HT2.out HI2.out (all_oneCell_toArray (u32s_oneCell s9)) ?_)
          have hr' := hr.setAll (u32s s9) (by simp [hl9])
          have hB := hb.trans (below_setCells (B := w.heap.size) (g := w.heap.size + 1 + 1) (by omega) (u32s s9) wr 0)
          have he : s9 = beginL K c N := by rw [HS9.out, HS.out]; rfl
          refine bodyPost_ret (results_cell_row rfl _ _ (w.heap.size + 1 + 1) _ _ _ _ rfl hr' Tryd.underlying115 rfl HI2.out) rfl ?_
          rw [← he]
          exact ⟨rfl, hB⟩
end Go.Proofs.YtnmhfomnlnlflaaDoor
/- The walk of Block. No condition. -/
namespace Go.Proofs.YtnmhfomnlnlflaaDoor
open Go.RowKit
def roundsAt (s : List UInt32) : Nat → List UInt32
  | 0 => s
  | k + 1 => roundL (roundsAt s k)
@[simp] theorem roundsAt_length (s : List UInt32) (k : Nat) : (roundsAt s k).length = s.length := by
  induction k with
  | zero => rfl
  | succ k ih => rw [roundsAt, roundL_length, ih]
def outAt (s f : List UInt32) : Nat → List UInt8
  | 0 => []
  | k + 1 => outAt s f k ++ leBytes 4 (s.getD k 0 + f.getD k 0).toNat
@[simp] theorem outAt_length (s f : List UInt32) (k : Nat) : (outAt s f k).length = 4 * k := by
  induction k with
  | zero => rfl
  | succ k ih => rw [outAt, List.length_append, ih, leBytes_length]; omega
def blockL (K : List UInt8) (c : UInt32) (N : List UInt8) : List UInt8 := outAt (roundsAt (beginL K c N) 10) (beginL K c N) 16
@[simp] theorem blockL_length (K : List UInt8) (c : UInt32) (N : List UInt8) : (blockL K c N).length = 64 := by simp [blockL]
theorem block_start {w w1 : World} {k n : Array Value} {t1 t2 t3 : TypeId} {z : Array Value} (hz : z.size = 64) (hb : Below (((w.alloc (.cells k t1)).alloc (.cells n t2)).alloc (.cells z t3)).heap.size (((w.alloc (.cells k t1)).alloc (.cells n t2)).alloc (.cells z t3)) w1) :
    ∃ Z, Z.length = 64 ∧ Arr w1 (w.heap.size + 1 + 1) t3 Z ∧ Below w.heap.size w w1 := by
  refine ⟨z.toList, by simpa using hz, ?_, ?_⟩
  · exact (Arr.newAt (by simp only [asz]) rfl).below hb (by simp only [asz]; omega)
  · exact ((((Below.refl _ _).alloc (by omega) _).alloc (by simp only [asz]; omega) _).alloc (by simp only [asz]; omega) _).trans (hb.mono (by simp only [asz]; omega))
set_option maxRecDepth 100000 in
set_option maxHeartbeats 4000000 in
theorem block_any (K : List UInt8) (hK : K.length = 32) (c : UInt32) (N : List UInt8) (hN : N.length = 12) (w : World) :
    Calls Tryd.prog 51 #[.agg (u8s K).toArray, .int .u32 c.toNat, .agg (u8s N).toArray] w fun e w' => e = .returned (.agg (u8s (blockL K c N)).toArray) ∧ Below w.heap.size w w' := by
  have i1 : (Tryd.prog.info? 22).map (·.size) = some (u8s K).length := by simp only [u8s_length, hK]; kernel_rfl
  have HI1 := Lib.hid i1
  clear i1
  have i2 : (Tryd.prog.info? 68).map (·.size) = some (u8s N).length := by simp only [u8s_length, hN]; kernel_rfl
  have HI2 := Lib.hid i2
  clear i2
  obtain ⟨f, hf⟩ : ∃ f, f = beginL K c N := ⟨_, rfl⟩
  have hl : f.length = 16 := by rw [hf]; simp
  have i3 : (Tryd.prog.info? 115).map (·.size) = some (u32s f).length := by simp only [u32s_length, hl]; kernel_rfl
  have HI3 := Lib.hid i3
  have i4 : (Tryd.prog.info? 115).map (·.size) = some (u32s f).toArray.size := by simp only [List.size_toArray, u32s_length, hl]; kernel_rfl
  have HI4 := Lib.hid i4
  have hbeg := fun w => begin_any K hK c N hN w
  rw [← hf] at hbeg
  have HF := Lib.hid hf
  have HL := Lib.hid hl
  clear i3 i4 hf hl
  go_enter Tryd.func51, Tryd.ntmps51
  go_wp2_with first
    | (refine wpList_load_mid rfl 22 (.tmp 3) rfl w.heap.size 0 rfl (u8s K) _ (((Arr.newAt rfl rfl).alloc _).alloc _).range Tryd.underlying22 rfl HI1.out ?_)
    | (refine wpList_load_mid rfl 68 (.tmp 5) rfl (w.heap.size + 1) 0 rfl (u8s N) _ ((Arr.newAt (asz _ _) rfl).alloc _).range Tryd.underlying68 rfl HI2.out ?_)
    | (go_at_call 67; refine (hbeg _).mono ?_; rintro e w1 ⟨rfl, hB1⟩; obtain ⟨Z, hZ, h6, hB⟩ := block_start rfl hB1; clear hB1; have l6 := h6.lt)
    | (refine wpList_new rfl 115 (.tmp 7) (.tmp 15) rfl _ (u32s f) rfl rfl rfl (by simp only [u32s_length, HL.out]; rfl) HI3.out (u32s_oneCell f) ?_; intro w2 h7 hG2; have l7 := h7.lt)
    | (refine wpList_load_mid rfl 115 (.tmp 7) rfl w1.heap.size 0 rfl (u32s f) _ h7.range Tryd.underlying115 rfl HI3.out ?_)
    | (refine wpList_new rfl 115 (.tmp 8) (.tmp 16) rfl _ (u32s f) rfl rfl rfl (by simp only [u32s_length, HL.out]; rfl) HI3.out (u32s_oneCell f) ?_; intro w3 h8 hG3)
  have h6 := h6.gr (hG2.trans hG3)
  have h7 := h7.gr hG3
  have l6 : w.heap.size + 1 + 1 < w1.heap.size := by assumption
  have l7 : w1.heap.size < w2.heap.size := by assumption
  have hB3 : Below w.heap.size w w3 := hB.trans ((hG2.trans hG3).mono hB.size)
  clear hG2 hG3 hB hbeg
  have l5 : w.heap.size < w.heap.size + 1 + 1 := by omega
  generalize w.heap.size + 1 + 1 = g6 at h6 l5 l6 ⊢
  generalize w1.heap.size = g7 at h7 l6 l7 ⊢
  generalize w2.heap.size = g8 at h8 l7 ⊢
  go_loopw [17] (fun i wr => ∃ r : Nat, r ≤ 10 ∧ i = .int .i64 r ∧ Arr wr g8 115 (u32s (roundsAt f r)) ∧ Below g8 w3 wr) (fun i _ => 10 - (intOf i).toNat)
  case atStart => exact ⟨0, by omega, rfl, h8, Below.refl _ _⟩
  case round =>
    obtain ⟨r, hr, rfl, h8r, hBr⟩ := hrel
    by_cases hlt : r < 10
    · go_wp2_with (go_at_call 68; refine (rounds_any g8 (roundsAt f r) (by simp [HL.out]) _ h8r).mono ?_; rintro e w4 ⟨⟨v, rfl⟩, h8n, hBn⟩)
      go_roundw
      case rel => exact ⟨r + 1, by omega, by go_num, h8n, hBr.trans hBn⟩
      case measure => simp [intOf]; omega
    · obtain rfl : r = 10 := by omega
      have h6 := h6.below hBr (by omega)
      have h7 := h7.below hBr (by omega)
      obtain ⟨s, hs⟩ : ∃ s, s = roundsAt f 10 := ⟨_, rfl⟩
      have hls : s.length = 16 := by rw [hs]; simp [HL.out]
      rw [← hs] at h8r
      have i5 : (Tryd.prog.info? 115).map (·.size) = some (u32s s).length := by simp only [u32s_length, hls]; kernel_rfl
      have HI5 := Lib.hid i5
      have HS := Lib.hid hs
      have HLS := Lib.hid hls
      clear i5 hs hls
      simp only [show ((10 : Nat) : Int) = 10 from rfl]
      go_wp2_with (refine wpList_load_mid rfl 115 (.tmp 8) rfl g8 0 rfl (u32s s) _ h8r.range Tryd.underlying115 rfl HI5.out ?_)
      obtain ⟨i0, hi0, hz0, hz1, hz2⟩ := info_parts Tryd.info5
      obtain ⟨B, hBs⟩ : ∃ B, B = wr.heap.size := ⟨_, rfl⟩
      have g7B : g7 < B := by rw [hBs]; exact h7.lt
      have g6B : g6 < B := by rw [hBs]; exact h6.lt
      have hBw : Below w.heap.size w wr := hB3.trans (hBr.mono (by have := hB3.size; omega))
      generalize wr = W5 at h6 h7 h8r hBr hBw hBs ⊢
      go_loopw [9, 22] (fun v i wq => ∃ r : Nat, r ≤ 16 ∧ i = .int .i64 r ∧ wq.ownsRow B 5 1 v (4 * r) (u8s (outAt s f r)) ∧ Below B W5 wq) (fun _ i _ => 16 - (intOf i).toNat)
      case atStart => exact ⟨0, by omega, rfl, World.ownsRow_nil _ _ _ _, Below.refl _ _⟩
      case round =>
        obtain ⟨r, hr, rfl, hown, hBq⟩ := hrel
        by_cases hlt : r < 16
        · have h7q := h7.below hBq (by omega)
          have hbs : B ≤ wr.heap.size := by have := hBq.size; omega
          obtain ⟨x, hx⟩ : ∃ x, x = s.getD r 0 := ⟨_, rfl⟩
          obtain ⟨y, hy⟩ : ∃ y, y = f.getD r 0 := ⟨_, rfl⟩
          have c1 := h7q.u32 (a := r) (by rw [HL.out]; exact hlt)
          rw [← hy] at c1
          have hix := run_indexA (P := Tryd.prog) Tryd.underlying115 Tryd.underlying83 (by kernel_rfl) (u32s_at (l := s) (i := r) (x := x) (by rw [hx]; simp [List.getD_eq_getElem?_getD, HLS.out, hlt])) hlt wr
          have HO : Hid (outAt s f (r + 1) = outAt s f r ++ leBytes 4 (x + y).toNat) := by show _ = _; rw [hx, hy]; rfl
          have hp := putLow_k (x + y).toNat 4 (by have := (x + y).toNat_lt; omega) (by omega) wr
          rw [← wrap_add32, IntKind.wrap_u32'] at hp
          clear hx hy
          go_wp2_with first
            | (go_at_call 49; refine hp.mono ?_; rintro e w6 ⟨v6, rfl, ho6, hB6⟩; obtain ⟨A6, c6, rfl, hc6, hA6⟩ := own_form ho6; have hown6 := Gr.own hB6 hown)
            | (at_builtin; go_must (refine wpList_app _ rfl (.tmp 26) (.tmp 33) 27 rfl B 5 i0 (.int .u8 0) 1 Tryd.underlying27 hi0 hz0 hz1 hz2 rfl u9 (4 * r) _ rfl hown6 A6 4 c6 _ rfl (Rd.of_own ho6) (u8s_oneCell _) (by omega) (by unfold maxLen; omega) (by have := hB6.size; omega) ?_; rintro v7 w7 hA7))
          refine ⟨⟨r + 1, by omega, by go_num, ?_, hBq.trans ((hB6.mono hbs).trans (hA7.below hown6 (by have := hB6.size; omega)))⟩, by simp [intOf]; omega⟩
          rw [HO.out, u8s_append, show 4 * (r + 1) = 4 * r + 4 by omega]
          exact hA7.own
        · obtain rfl : r = 16 := by omega
          obtain ⟨o, ho⟩ : ∃ o, o = outAt s f 16 := ⟨_, rfl⟩
          have hlo : o.length = 64 := by rw [ho]; simp
          rw [← ho] at hown
          have HO := Lib.hid ho
          clear ho
          obtain ⟨go, co, rfl, _, hgB, hgo⟩ := own_at hown (by omega)
          have hrg : wr.rangeAt go 0 (u8s o) := fun j v hv => by have := hown.cells (g := go) rfl j v hv; rw [add_row] at this; exact this
          have h6q := h6.below hBq g6B
          have i6 : (Tryd.prog.info? 103).map (·.size) = some (u8s o).length := by simp only [u8s_length, hlo]; kernel_rfl
          have i7 : (Tryd.prog.info? 103).map (·.size) = some (u8s o).toArray.size := by simp only [List.size_toArray, u8s_length, hlo]; kernel_rfl
          have t6 : wr.there g6 0 (u8s o).toArray.size := by have := h6q.there; simpa [hlo, hZ] using this
          have HI6 := Lib.hid i6
          have HI7 := Lib.hid i7
          have HT6 := Lib.hid t6
          have ha := fun w => run_arrAt (P := Tryd.prog) Tryd.underlying103 (A := some ⟨go, 0, none⟩) (c := co) (Nat.le_refl 64) w
          clear i6 i7 t6
          simp only [show ((16 : Nat) : Int) = 16 from rfl, show 4 * 16 = 64 from rfl]
          go_wp2_with first
            | (refine wpList_load_mid rfl 103 (.tmp 37) rfl go 0 rfl (u8s o) _ hrg Tryd.underlying103 rfl HI6.out ?_)
            | (refine wpList_store_mid rfl 103 (.tmp 6) (.tmp 38) rfl g6 0 (u8s o).toArray rfl rfl HT6.out HI7.out (all_oneCell_toArray (u8s_oneCell o)) ?_)
          have h6s := h6q.setAll (u8s o) (by simp [hlo, hZ])
          have hE : o = blockL K c N := by rw [HO.out, HS.out, HF.out]; rfl
          refine bodyPost_ret (results_cell_row rfl _ _ g6 _ _ _ _ rfl h6s Tryd.underlying103 rfl HI7.out) rfl ?_
          rw [← hE]
          exact ⟨rfl, hBw.trans ((hBq.mono (by have := hBw.size; omega)).trans (below_setCells (by omega) _ _ _))⟩
end Go.Proofs.YtnmhfomnlnlflaaDoor
/- The walk of the document's Block. No condition. -/
namespace Go.Proofs.YtnmhfomnlnlflaaDoor
open Go.RowKit
theorem info39 (l : List UInt32) (h : l.length = 16) : (Tryd.prog.info? 114).map (·.size) = some (u32s l).length := by simp only [u32s_length, h]; kernel_rfl
theorem refQuarter_int (a b c d : Int) (ha : 0 ≤ a ∧ a < 16) (hb : 0 ≤ b ∧ b < 16) (hc : 0 ≤ c ∧ c < 16) (hd : 0 ≤ d ∧ d < 16) (s : List UInt32) (hs : s.length = 16) (w : World) :
    Calls Tryd.prog 94 #[.agg (u32s s).toArray, .int .i64 a, .int .i64 b, .int .i64 c, .int .i64 d] w fun e w' => e = .returned (.agg (u32s (quarterL s a.toNat b.toNat c.toNat d.toNat)).toArray) ∧ Below w.heap.size w w' := by
  have h := refQuarter_any a.toNat b.toNat c.toNat d.toNat (by omega) (by omega) (by omega) (by omega) s hs w
  rwa [Int.toNat_of_nonneg ha.1, Int.toNat_of_nonneg hb.1, Int.toNat_of_nonneg hc.1, Int.toNat_of_nonneg hd.1] at h
theorem refPut_low4 (x : UInt32) (w : World) :
    Calls Tryd.prog 57 #[.int .u64 (x.toNat : Nat), .int .i64 4, .bool false] w fun e w' => e = .returned (.string ⟨(leBytes 4 x.toNat).toArray⟩) ∧ Below w.heap.size w w' :=
  refPut_any x.toNat (by have := x.toNat_lt; omega) 4 false w
set_option maxRecDepth 100000 in
set_option maxHeartbeats 4000000 in
theorem refBlock_any (K : List UInt8) (hK : K.length = 32) (c : UInt32) (N : List UInt8) (hN : N.length = 12) (w : World) :
    Calls Tryd.prog 78 #[.string ⟨K.toArray⟩, .int .u32 c.toNat, .string ⟨N.toArray⟩] w fun e w' => e = .returned (.string ⟨(blockL K c N).toArray⟩) ∧ Below w.heap.size w w' := by
  go_enter Tryd.func78, Tryd.ntmps78
  go_wp2_with fail
  generalize hW : w.alloc _ = W
  have hs : Arr W w.heap.size 114 (u32s (keyAt K 0)) := by rw [← hW]; exact Arr.newAt rfl (by kernel_rfl)
  have hb : Below w.heap.size w W := by rw [← hW]; exact (Below.refl _ _).alloc (Nat.le_refl _) _
  clear hW
  go_loopw [8] (fun i wr => ∃ r : Nat, r ≤ 8 ∧ i = .int .i64 r ∧ Arr wr w.heap.size 114 (u32s (keyAt K r)) ∧ Below w.heap.size w wr) (fun i _ => 8 - (intOf i).toNat)
  case atStart => exact ⟨0, by omega, rfl, hs, hb⟩
  case round =>
    obtain ⟨r, hr8, rfl, hs, hb⟩ := hrel
    by_cases hlt : r < 8
    · have hc := run_cutS (P := Tryd.prog) Tryd.underlying9 K (4 * r) (4 * r + 4) (4 * (r : Int)) (4 * (r : Int) + 4) (by omega) (by omega) (by omega) (by omega) wr
      rw [show 4 * r + 4 - 4 * r = 4 by omega] at hc
      have hlo := refWord_low ((K.drop (4 * r)).take 4) (by rw [List.length_take]; omega) wr
      have c1 := hs.u32 (a := 4 + r) (by simp; omega)
      have f1 := hs.frozen (4 + r)
      rw [← w4_nat] at hlo
      obtain ⟨x, hx⟩ : ∃ x, x = w4 K r := ⟨_, rfl⟩
      rw [← hx] at hlo
      have e1 : (x.toNat : Int) % 4294967296 = x.toNat := by have := x.toNat_lt; omega
      have HX := Lib.hid hx
      clear hx
      go_wp2_with (go_at_call 92; refine hlo.mono ?_; rintro e w1 ⟨rfl, rfl⟩)
      go_roundw
      case rel =>
        have hs' := hs.set (4 + r) (.int .u32 (x.toNat : Int))
        rw [u32s_set, HX.out] at hs'
        exact ⟨r + 1, by omega, by go_num, HX.out ▸ hs', hb.trans (below_setCell (Nat.le_refl _))⟩
      case measure => simp [intOf]; omega
    · obtain rfl : r = 8 := by omega
      obtain ⟨s8, hs8⟩ : ∃ z, z = keyAt K 8 := ⟨_, rfl⟩
      rw [← hs8] at hs
      have hl8 : s8.length = 16 := by rw [hs8]; simp
      have HS := Lib.hid hs8
      clear hs8
      have c1 := hs.u32 (a := 12) (by omega)
      have f1 := hs.frozen 12
      simp only [show ((8 : Nat) : Int) = 8 from rfl]
      go_wp2_with fail
      go_loopw [9] (fun i wr => ∃ r : Nat, r ≤ 3 ∧ i = .int .i64 r ∧ Arr wr w.heap.size 114 (u32s (nonceAt (s8.set 12 c) N r)) ∧ Below w.heap.size w wr) (fun i _ => 3 - (intOf i).toNat)
      case atStart =>
        have hs' := hs.set 12 (.int .u32 (c.toNat : Int))
        rw [u32s_set] at hs'
        exact ⟨0, by omega, rfl, hs', hb.trans (below_setCell (Nat.le_refl _))⟩
      case round =>
        obtain ⟨r, hr8, rfl, hs, hb⟩ := hrel
        by_cases hlt : r < 3
        · have hc := run_cutS (P := Tryd.prog) Tryd.underlying9 N (4 * r) (4 * r + 4) (4 * (r : Int)) (4 * (r : Int) + 4) (by omega) (by omega) (by omega) (by omega) wr
          rw [show 4 * r + 4 - 4 * r = 4 by omega] at hc
          have hlo := refWord_low ((N.drop (4 * r)).take 4) (by rw [List.length_take]; omega) wr
          have c1 := hs.u32 (a := 13 + r) (by simp; omega)
          have f1 := hs.frozen (13 + r)
          rw [← w4_nat] at hlo
          obtain ⟨x, hx⟩ : ∃ x, x = w4 N r := ⟨_, rfl⟩
          rw [← hx] at hlo
          have e1 : (x.toNat : Int) % 4294967296 = x.toNat := by have := x.toNat_lt; omega
          have HX := Lib.hid hx
          clear hx
          go_wp2_with (go_at_call 92; refine hlo.mono ?_; rintro e w1 ⟨rfl, rfl⟩)
          go_roundw
          case rel =>
            have hs' := hs.set (13 + r) (.int .u32 (x.toNat : Int))
            rw [u32s_set, HX.out] at hs'
            exact ⟨r + 1, by omega, by go_num, HX.out ▸ hs', hb.trans (below_setCell (Nat.le_refl _))⟩
          case measure => simp [intOf]; omega
        · obtain rfl : r = 3 := by omega
          obtain ⟨f, hf0⟩ : ∃ z, z = nonceAt (s8.set 12 c) N 3 := ⟨_, rfl⟩
          rw [← hf0] at hs
          have hlf : f.length = 16 := by rw [hf0]; simp [hl8]
          have HF : Hid (f = beginL K c N) := by show _ = _; rw [hf0, HS.out]; rfl
          clear hf0 HS c1 f1
          simp only [show ((3 : Nat) : Int) = 3 from rfl]
          go_wp2_with first
            | (refine wpList_load_mid rfl 114 (.tmp 7) rfl w.heap.size 0 rfl (u32s f) _ hs.range Tryd.underlying114 rfl (info39 f hlf) ?_)
            | (refine wpList_new rfl 114 (.tmp 10) (.tmp 49) rfl _ (u32s f) rfl rfl rfl (by simp only [u32s_length, hlf]; rfl) (info39 f hlf) (u32s_oneCell f) ?_; intro w3 hv hG3)
          have hf := hs.gr hG3
          have l7 := hs.lt
          have hb3 := hb.trans (hG3.mono (Nat.le_of_lt l7))
          clear hs hb hG3
          generalize wr.heap.size = g10 at hv l7 ⊢
          obtain ⟨g7, hg7⟩ : ∃ g, g = w.heap.size := ⟨_, rfl⟩
          rw [← hg7] at hf l7 hb3 ⊢
          have HG7 := Lib.hid hg7
          clear hg7
          go_loopw [11] (fun i wr => ∃ r : Nat, r ≤ 10 ∧ i = .int .i64 r ∧ Arr wr g10 114 (u32s (roundsAt f r)) ∧ Below g10 w3 wr) (fun i _ => 10 - (intOf i).toNat)
          case atStart => exact ⟨0, by omega, rfl, hv, Below.refl _ _⟩
          case round =>
            obtain ⟨r, hr8, rfl, hv, hbv⟩ := hrel
            by_cases hlt : r < 10
            · obtain ⟨s, hs⟩ : ∃ z, z = roundsAt f r := ⟨_, rfl⟩
              have hl : s.length = 16 := by rw [hs]; simp [hlf]
              rw [← hs] at hv
              have HS := Lib.hid hs
              clear hs
              go_wp2_with first
                | (refine wpList_load_mid rfl 114 (.tmp 10) rfl g10 0 rfl (u32s _) _ hv.range Tryd.underlying114 rfl (info39 _ (by simp only [quarterL_length, hl])) ?_)
                | (go_at_call 94; refine (refQuarter_int _ _ _ _ (by decide) (by decide) (by decide) (by decide) _ (by simp only [quarterL_length, hl]) _).mono ?_; rintro e w4 ⟨rfl, hB4⟩; replace hbv := hbv.trans (hB4.mono (Nat.le_of_lt hv.lt)); replace hv := hv.below hB4 hv.lt; clear hB4)
                | (refine wpList_put hv rfl 114 (.tmp 10) _ rfl (u32s _) rfl rfl (by simp only [u32s_length, quarterL_length]) (info39 _ (by simp only [quarterL_length, hl])) (u32s_oneCell _) ?_; clear hv; intro w5 hv hB5 hO5; replace hbv := hbv.trans hB5; clear hB5 hO5)
              go_roundw
              case rel => exact ⟨r + 1, by omega, by go_num, by rw [roundsAt, ← HS.out]; exact hv, hbv⟩
              case measure => simp [intOf]; omega
            · obtain rfl : r = 10 := by omega
              have hf := hf.below hbv l7
              have hbw := hb3.trans (hbv.mono (by omega))
              obtain ⟨v, hv0⟩ : ∃ z, z = roundsAt f 10 := ⟨_, rfl⟩
              have hlv : v.length = 16 := by rw [hv0]; simp [hlf]
              rw [← hv0] at hv
              have HV := Lib.hid hv0
              clear hv0 hb3 hbv
              simp only [show ((10 : Nat) : Int) = 10 from rfl]
              go_wp2_with fail
              generalize wr = W7 at hv hf hbw ⊢
              go_loopw [12, 13] (fun so i wr => ∃ r : Nat, r ≤ 16 ∧ i = .int .i64 r ∧ so = .string ⟨(outAt v f r).toArray⟩ ∧ Gr W7 wr) (fun _ i _ => 16 - (intOf i).toNat)
              case atStart => exact ⟨0, by omega, rfl, rfl, Gr.refl _⟩
              case round =>
                obtain ⟨r, hr8, rfl, rfl, hgw⟩ := hrel
                by_cases hlt : r < 16
                · have hv := hv.gr hgw
                  have hf := hf.gr hgw
                  have HO : Hid (outAt v f (r + 1) = outAt v f r ++ leBytes 4 (v.getD r 0 + f.getD r 0).toNat) := rfl
                  have hlo : (outAt v f r).length = 4 * r := by simp
                  generalize outAt v f r = o at HO hlo ⊢
                  go_wp2_with fail
                  refine wp_region_ssaL (by kernel_rfl) [IsV (.string ⟨(o).toArray⟩), IsV (.int .i64 (r : Nat)), IsV (.pointer (some ⟨g10, r, none⟩)), IsV (.int .u32 (v.getD r 0).toNat), IsV (.int .i64 (r : Nat)), IsV (.pointer (some ⟨g7, r, none⟩)), IsV (.int .u32 (f.getD r 0).toNat), IsV (.int .u32 (v.getD r 0 + f.getD r 0).toNat), IsV (.int .u64 ((v.getD r 0 + f.getD r 0).toNat : Nat)), IsV (.string ⟨(leBytes 4 (v.getD r 0 + f.getD r 0).toNat).toArray⟩), IsV (.string ⟨(o ++ leBytes 4 (v.getD r 0 + f.getD r 0).toNat).toArray⟩), IsV (.string ⟨(o ++ leBytes 4 (v.getD r 0 + f.getD r 0).toNat).toArray⟩)] (by kernel_rfl) ?_ ?_ ?_
                  · intro φ hφ v w1 w2 h hg
                    simp only [List.mem_cons, List.not_mem_nil, or_false] at hφ
                    rcases hφ with rfl | rfl | rfl | rfl | rfl | rfl | rfl | rfl | rfl | rfl | rfl | rfl
                    all_goals first | exact h | exact RdV.gr h hg
                  · refine ⟨?_, ?_, ?_, ?_, ?_, ?_, ?_, ?_, ?_, ?_, ?_, ?_, trivial⟩
                    · intro a1 w1 hG hF
                      exact s_old rfl (wants0 rfl) (.tmp 12) (.inr rfl) (.string ⟨(o).toArray⟩) (hF.ol 12 (by kernel_rfl)) rfl
                    · intro a1 w1 hG hF
                      exact s_old rfl (wants0 rfl) (.tmp 13) (.inr rfl) (.int .i64 (r : Nat)) (hF.ol 13 (by kernel_rfl)) rfl
                    · intro a1 w1 hG hF
                      have e10 : a1.eval (.tmp 10) = .pointer (some ⟨g10, 0, none⟩) := hF.ol 10 (by kernel_rfl)
                      obtain ⟨_, e75, rfl⟩ := hF.dp 1 75 (by kernel_rfl)
                      exact s_is rfl (wants0 rfl) _ rfl (run_idx Tryd.underlying114 (by kernel_rfl) e10 e75 (by omega))
                    · intro a1 w1 hG hF
                      obtain ⟨_, e76, rfl⟩ := hF.dp 2 76 (by kernel_rfl)
                      exact s_is rfl (wants0 rfl) _ rfl (run_load1 Tryd.underlying83 e76 ((hv.gr ((Gr.drew wr).trans hG)).u32 (by omega)))
                    · intro a1 w1 hG hF
                      exact s_old rfl (wants0 rfl) (.tmp 13) (.inr rfl) (.int .i64 (r : Nat)) (hF.ol 13 (by kernel_rfl)) rfl
                    · intro a1 w1 hG hF
                      have e7 : a1.eval (.tmp 7) = .pointer (some ⟨g7, 0, none⟩) := hF.ol 7 (by kernel_rfl)
                      obtain ⟨_, e78, rfl⟩ := hF.dp 4 78 (by kernel_rfl)
                      exact s_is rfl (wants0 rfl) _ rfl (run_idx Tryd.underlying114 (by kernel_rfl) e7 e78 (by omega))
                    · intro a1 w1 hG hF
                      obtain ⟨_, e79, rfl⟩ := hF.dp 5 79 (by kernel_rfl)
                      exact s_is rfl (wants0 rfl) _ rfl (run_load1 Tryd.underlying83 e79 ((hf.gr ((Gr.drew wr).trans hG)).u32 (by omega)))
                    · intro a1 w1 hG hF
                      obtain ⟨_, e77, rfl⟩ := hF.dp 3 77 (by kernel_rfl)
                      obtain ⟨_, e80, rfl⟩ := hF.dp 6 80 (by kernel_rfl)
                      exact s_is rfl (wants0 rfl) _ rfl (run_add32 e77 e80)
                    · intro a1 w1 hG hF
                      obtain ⟨_, e81, rfl⟩ := hF.dp 7 81 (by kernel_rfl)
                      exact s_is rfl (wants0 rfl) _ rfl (run_conv_u32_u64 Tryd.underlying83 Tryd.underlying39 e81)
                    · intro a1 w1 hG hF
                      obtain ⟨_, e82, rfl⟩ := hF.dp 8 82 (by kernel_rfl)
                      exact s_call rfl (wants0 rfl) _ rfl _ _ (by simp only [execOp, resolve, invoke, List.map_toArray, List.map_cons, List.map_nil, e82]; go_simp) ((refPut_low4 _ w1).mono fun e w2 ⟨he, hb⟩ => ⟨_, he, rfl, hb⟩)
                    · intro a1 w1 hG hF
                      obtain ⟨_, e74, rfl⟩ := hF.dp 0 74 (by kernel_rfl)
                      obtain ⟨_, e83, rfl⟩ := hF.dp 9 83 (by kernel_rfl)
                      exact s_is rfl (wants0 rfl) _ rfl (run_addS (by rw [hlo, leBytes_length]; omega) e74 e83)
                    · intro a1 w1 hG hF
                      exact s_same rfl (wants0 rfl) (.tmp 84) (.inl rfl) (hF.dp 10 84 (by kernel_rfl))
                  · intro vs w1 hG hf
                    have z12 : vs 11 = .string ⟨(o ++ leBytes 4 (v.getD r 0 + f.getD r 0).toNat).toArray⟩ := hf.2.2.2.2.2.2.2.2.2.2.2.1
                    clear hf
                    simp only [putAll, Nat.zero_add, Nat.reduceAdd, z12]
                    clear z12
                    generalize leBytes 4 (v.getD r 0 + f.getD r 0).toNat = q at HO ⊢
                    go_simp
                    go_wp2_with fail
                    go_roundw
                    case rel => exact ⟨r + 1, by omega, by go_num, by rw [HO.out], hgw.trans ((Gr.drew wr).trans hG)⟩
                    case measure => simp [intOf]; omega
                · obtain rfl : r = 16 := by omega
                  have HO : Hid (outAt v f 16 = blockL K c N) := by show _ = _; rw [HV.out, HF.out]; rfl
                  generalize outAt v f 16 = o at HO ⊢
                  go_wp2_with fail
                  go_ret
                  rw [HO.out]
                  exact ⟨rfl, HG7.out ▸ hbw.trans (hgw.mono (by have := hbw.size; have := HG7.out; omega))⟩
end Go.Proofs.YtnmhfomnlnlflaaDoor
/- The helper streams() is true. No condition. -/
namespace Go.Proofs.YtnmhfomnlnlflaaDoor
open Go.RowKit
def key1 : List UInt8 := [1, 0, 0, 0, 0, 0, 0, 0, 0, 0, 0, 0, 0, 0, 0, 0, 0, 0, 0, 0, 0, 0, 0, 0, 0, 0, 0, 0, 0, 0, 0, 0]
def noughts12 : List UInt8 := [0, 0, 0, 0, 0, 0, 0, 0, 0, 0, 0, 0]
def b1 : List UInt8 := [197, 211, 10, 124, 225, 236, 17, 147, 120, 200, 79, 72, 125, 119, 90, 133, 66, 241, 62, 206, 35, 138, 148, 85, 232, 34, 158, 136, 141, 232, 91, 189, 41, 235, 99, 208, 161, 122, 91, 153, 155, 82, 218, 34, 190, 64, 35, 235, 7, 98, 10, 84, 246, 250, 106, 216, 115, 123, 113, 235, 4, 100, 218, 192]
def b2 : List UInt8 := [16, 246, 86, 230, 209, 253, 85, 5, 62, 80, 196, 135, 92, 153, 48, 163, 63, 109, 2, 99, 189, 20, 223, 214, 171, 140, 112, 82, 28, 25, 51, 139, 35, 8, 185, 92, 248, 208, 187, 125, 32, 45, 33, 2, 120, 14, 163, 82, 143, 28, 180, 133, 96, 247, 107, 32, 243, 130, 185, 66, 80, 15, 206, 172]
set_option maxRecDepth 10000 in
theorem b1_is : blockL key1 0 noughts12 = b1 := by decide +kernel
set_option maxRecDepth 10000 in
theorem b2_is : blockL key1 1 noughts12 = b2 := by decide +kernel
theorem key1_lit : (u8s key1).toArray = #[.int .u8 1, .int .u8 0, .int .u8 0, .int .u8 0, .int .u8 0, .int .u8 0, .int .u8 0, .int .u8 0, .int .u8 0, .int .u8 0, .int .u8 0, .int .u8 0, .int .u8 0, .int .u8 0, .int .u8 0, .int .u8 0, .int .u8 0, .int .u8 0, .int .u8 0, .int .u8 0, .int .u8 0, .int .u8 0, .int .u8 0, .int .u8 0, .int .u8 0, .int .u8 0, .int .u8 0, .int .u8 0, .int .u8 0, .int .u8 0, .int .u8 0, .int .u8 0] := by kernel_rfl
theorem noughts12_lit : (u8s noughts12).toArray = #[.int .u8 0, .int .u8 0, .int .u8 0, .int .u8 0, .int .u8 0, .int .u8 0, .int .u8 0, .int .u8 0, .int .u8 0, .int .u8 0, .int .u8 0, .int .u8 0] := by kernel_rfl
theorem toNat_u32_0 : ((0 : UInt32).toNat : Int) = 0 := rfl
theorem toNat_u32_1 : ((1 : UInt32).toNat : Int) = 1 := rfl
end Go.Proofs.YtnmhfomnlnlflaaDoor
/- The walk of the law ChachaBlocks. No condition. -/
namespace Go.Proofs.YtnmhfomnlnlflaaDoor
open Go.RowKit
theorem info24 (l : List UInt8) (h : l.length = 12) : (Tryd.prog.info? 68).map (·.size) = some (u8s l).length := by simp only [u8s_length, h]; kernel_rfl
theorem info25 (l : List UInt8) (h : l.length = 64) : (Tryd.prog.info? 103).map (·.size) = some (u8s l).length := by simp only [u8s_length, h]; kernel_rfl
end Go.Proofs.YtnmhfomnlnlflaaDoor
/- The walk of chacha.Stream. No condition. -/
namespace Go.Proofs.YtnmhfomnlnlflaaDoor
open Go.RowKit
def streamAt (K : List UInt8) (c : UInt32) (N b : List UInt8) : Nat → List UInt8
  | 0 => []
  | k + 1 => streamAt K c N b k ++ mixL (blockL K (c + UInt32.ofNat k) N) (b.drop (64 * k))
def streamL (K : List UInt8) (c : UInt32) (N b : List UInt8) : List UInt8 := streamAt K c N b ((b.length + 63) / 64)
theorem mixL_length (a b : List UInt8) : (mixL a b).length = min a.length b.length := by simp [mixL]
theorem streamAt_length (K : List UInt8) (c : UInt32) (N b : List UInt8) (k : Nat) : (streamAt K c N b k).length = min (64 * k) b.length := by
  induction k with
  | zero => simp [streamAt]
  | succ k ih => rw [streamAt, List.length_append, ih, mixL_length, blockL_length, List.length_drop]; omega
theorem streamL_length (K : List UInt8) (c : UInt32) (N b : List UInt8) : (streamL K c N b).length = b.length := by
  rw [streamL, streamAt_length]; omega
theorem run_cutRd {P : Program} {T e : TypeId} (hT : P.underlying T = some (.slice e)) (hsz : (P.info? e).map (·.size) = some 1) {A : Option Addr} {n c r : Nat} (h1 : 64 * r ≤ n) (w : World) :
    (Instr.sliceAt T (.slice A n c) (some (.int .i64 (64 * (r : Int)))) none none).run P w = .ok (.slice (if c = 64 * r then A else A.map (·.add (64 * r))) (n - 64 * r) (c - 64 * r)) w := by
  have e1 : P.elem T = e := by simp [Program.elem, hT]
  rw [run_sliceAt_slice w T _ _ _ _ (by rw [e1]; exact hT), run_slice_l w T _ _ _ (by rw [e1]; exact hT) _ _ (by omega) (by omega), e1]
  simp only [run_size1 hsz, Result.andThen_ok, sliced, Nat.mul_one]
  have e2 : (64 * (r : Int)).toNat = 64 * r := by omega
  rw [e2]
theorem own_base {w : World} {b b' : Nat} {e : TypeId} {size n : Nat} {v : Value} {xs : List Value} (h : w.ownsRow b e size v n xs) (hb : b' ≤ b) : w.ownsRow b' e size v n xs :=
  ⟨h.1, h.2.imp id fun ⟨g, cap, cur, h1, h2, h3⟩ => ⟨g, cap, cur, h1, Nat.le_trans hb h2, h3⟩⟩
set_option maxRecDepth 100000 in
set_option maxHeartbeats 4000000 in
theorem stream_any (K : List UInt8) (hK : K.length = 32) (c0 : UInt32) (N : List UInt8) (hN : N.length = 12) (A : Option Addr) (n c : Nat) (b : List UInt8) (hn : n ≤ 1000000) (hnc : n ≤ c) (w : World) (hr : Rd w A n (u8s b)) :
    Calls Tryd.prog 34 #[.agg (u8s K).toArray, .int .u32 c0.toNat, .agg (u8s N).toArray, .slice A n c] w fun e w' => ∃ v, e = .returned v ∧
      w'.ownsRow w.heap.size 5 1 v n (u8s (streamL K c0 N b)) ∧ Below w.heap.size w w' := by
  have hl : b.length = n := by simpa using hr.1
  obtain ⟨i0, hi0, hz0, hz1, hz2⟩ := info_parts Tryd.info5
  go_enter Tryd.func34, Tryd.ntmps34
  go_wp2_with fail
  have h4 : Arr ((w.alloc (.cells (u8s K).toArray 22)).alloc (.cells (u8s N).toArray 68)) w.heap.size 22 (u8s K) := (Arr.newAt rfl rfl).alloc _
  have h6 : Arr ((w.alloc (.cells (u8s K).toArray 22)).alloc (.cells (u8s N).toArray 68)) (w.heap.size + 1) 68 (u8s N) := Arr.newAt (asz _ _) rfl
  have hb : Below w.heap.size w ((w.alloc (.cells (u8s K).toArray 22)).alloc (.cells (u8s N).toArray 68)) := ((Below.refl _ _).alloc (Nat.le_refl _) _).alloc (by rw [asz]; omega) _
  have hzW : ((w.alloc (.cells (u8s K).toArray 22)).alloc (.cells (u8s N).toArray 68)).heap.size = w.heap.size + 2 := by simp only [asz]
  have hrW := hr.below hb
  generalize ((w.alloc (.cells (u8s K).toArray 22)).alloc (.cells (u8s N).toArray 68)) = W at h4 h6 hb hzW hrW ⊢
  obtain ⟨B, hB⟩ : ∃ B, B = w.heap.size + 2 := ⟨_, rfl⟩
  rw [← hB] at hzW
  have l4 : w.heap.size < B := by omega
  have l6 : w.heap.size + 1 < B := by omega
  clear hr hB
  go_loopw [1, 9, 10] (fun cv v i wr => ∃ r : Nat, 64 * r ≤ n + 63 ∧ i = .int .i64 (64 * (r : Int)) ∧ cv = .int .u32 ((c0 + UInt32.ofNat r).toNat : Int) ∧ wr.ownsRow B 5 1 v (min (64 * r) n) (u8s (streamAt K c0 N b r)) ∧ Below B W wr) (fun _ _ i _ => n + 63 - (intOf i).toNat)
  case atStart => exact ⟨0, by omega, rfl, by simp, by simpa [streamAt] using World.ownsRow_nil _ _ _ _, Below.refl _ _⟩
  case round =>
    obtain ⟨r, hr64, rfl, rfl, hown, hbw⟩ := hrel
    by_cases hlt : 64 * r < n
    · rw [show min (64 * r) n = 64 * r by omega] at hown
      have h4 := h4.below hbw l4
      have h6 := h6.below hbw l6
      have hrd := hrW.below (hzW ▸ hbw)
      obtain ⟨x, hx⟩ : ∃ x, x = c0 + UInt32.ofNat r := ⟨_, rfl⟩
      obtain ⟨k, hk⟩ : ∃ k, k = blockL K x N := ⟨_, rfl⟩
      have hlk : k.length = 64 := by rw [hk]; simp
      have hc1 := fun w => block_any K hK x N hN w
      rw [← hk] at hc1
      rw [← hx]
      have HX := Lib.hid hx
      have HK := Lib.hid hk
      clear hx hk
      go_wp2_with first
        | (refine wpList_load_mid rfl 22 (.tmp 4) rfl w.heap.size 0 rfl (u8s K) _ h4.range Tryd.underlying22 rfl (info22 K hK) ?_)
        | (refine wpList_load_mid rfl 68 (.tmp 6) rfl (w.heap.size + 1) 0 rfl (u8s N) _ h6.range Tryd.underlying68 rfl (info24 N hN) ?_)
        | (go_at_call 51; refine (hc1 _).mono ?_; rintro e w1 ⟨rfl, hB1⟩)
        | (refine wpList_new rfl 103 (.tmp 11) (.tmp 21) rfl _ (u8s k) rfl rfl rfl (by simp only [u8s_length, hlk]; rfl) (info25 k hlk) (u8s_oneCell k) ?_; intro w3 h11 hG3)
      have hG := Gr.trans hB1 hG3
      have hown0 := Gr.own hG hown
      have hrd0 := hG.rd hrd
      have hbw0 : Below B W w3 := hbw.trans (hG.mono (by have := hbw.size; omega))
      have hn64 : 64 * r ≤ n := by omega
      have hrc := hrd0.cut (k := 64 * r) (cap := c) hn64 hnc
      rw [u8s_drop] at hrc
      have hr11 := h11.rdAll hlk
      have hST : Hid (u8s (streamAt K c0 N b (r + 1)) = u8s (streamAt K c0 N b r) ++ u8s (mixL k (b.drop (64 * r)))) := by show _ = _; rw [HK.out, HX.out, ← u8s_append]; rfl
      have hXN : Hid (((x.toNat : Int) + 1) % 4294967296 = ((c0 + UInt32.ofNat (r + 1)).toNat : Int)) := by
        show _ = _
        rw [HX.out, UInt32.toNat_add, UInt32.toNat_add, UInt32.toNat_ofNat', UInt32.toNat_ofNat']
        omega
      clear hB1 hG3 hG hrd hown hbw hrd0
      generalize w1.heap.size = g11 at h11 hr11 ⊢
      generalize w3 = W0 at h11 hr11 hown0 hrc hbw0 ⊢
      go_simp
      refine wp_region_append (by kernel_rfl) [IsV (u9), IsV (.slice (some ⟨g11, 0, none⟩) 64 64), IsV (.slice A n c), IsV (.int .i64 (64 * (r : Int))), IsV (.slice (if c = 64 * r then A else A.map (·.add (64 * r))) (n - 64 * r) (c - 64 * r)), RdV (min 64 (n - 64 * r)) (mixL k (b.drop (64 * r)))] 6 _ _ 28 9 rfl rfl rfl rfl rfl rfl (.inl rfl) (by kernel_rfl) (by kernel_rfl) (by kernel_rfl) (.tmp 22) (.tmp 27) 27 rfl rfl B 5 i0 (.int .u8 0) 1 Tryd.underlying27 hi0 hz0 hz1 hz2 rfl u9 (64 * r) _ hown0 (by have := hbw0.size; omega) (min 64 (n - 64 * r)) (u8s (mixL k (b.drop (64 * r)))) (u8s_oneCell _) (by omega) (by unfold maxLen; omega) ?_ ?_ ?_ ?_
      · intro φ hφ v w1 w2 h hg
        simp only [List.mem_cons, List.not_mem_nil, or_false] at hφ
        rcases hφ with rfl | rfl | rfl | rfl | rfl | rfl
        all_goals first | exact h | exact RdV.gr h hg
      · refine ⟨?_, ?_, ?_, ?_, ?_, ?_, trivial⟩
        · intro a1 w1 hG hF
          exact s_old rfl (wants0 rfl) (.tmp 9) (.inr rfl) (u9) (hF.ol 9 (by kernel_rfl)) rfl
        · intro a1 w1 hG hF
          have e11 : a1.eval (.tmp 11) = .pointer (some ⟨g11, 0, none⟩) := hF.ol 11 (by kernel_rfl)
          exact s_is rfl (wants0 rfl) _ rfl (by simp only [execOp, e11, Option.map, Sem.run_bind, run_cutAll (P := Tryd.prog) Tryd.underlying103 (by kernel_rfl), Result.andThen_ok, Sem.run_pure])
        · intro a1 w1 hG hF
          exact s_old rfl (wants0 rfl) (.tmp 3) (.inr rfl) (.slice A n c) (hF.ol 3 (by kernel_rfl)) rfl
        · intro a1 w1 hG hF
          exact s_old rfl (wants0 rfl) (.tmp 10) (.inr rfl) (.int .i64 (64 * (r : Int))) (hF.ol 10 (by kernel_rfl)) rfl
        · intro a1 w1 hG hF
          obtain ⟨_, e24, rfl⟩ := hF.dp 2 24 (by kernel_rfl)
          obtain ⟨_, e25, rfl⟩ := hF.dp 3 25 (by kernel_rfl)
          exact s_is rfl (wants0 rfl) _ rfl (by simp only [execOp, e24, e25, Option.map, Sem.run_bind, run_cutRd (P := Tryd.prog) Tryd.underlying27 (by kernel_rfl) hn64, Result.andThen_ok, Sem.run_pure])
        · intro a1 w1 hG hF
          obtain ⟨_, e23, rfl⟩ := hF.dp 1 23 (by kernel_rfl)
          obtain ⟨_, e26, rfl⟩ := hF.dp 4 26 (by kernel_rfl)
          exact s_call rfl (wants0 rfl) _ rfl _ _ (by simp only [execOp, resolve, invoke, List.map_toArray, List.map_cons, List.map_nil, e23, e26]; go_simp) ((mix_any _ _ _ 64 _ (c - 64 * r) _ _ (by omega) w1 (Gr.rd ((Gr.drew W0).trans hG) hr11) (Gr.rd ((Gr.drew W0).trans hG) hrc)).mono fun e w2 ⟨v, he, ho, hb⟩ => ⟨_, he, RdV.own ho, hb⟩)
      · intro a1 w1 hG hF
        obtain ⟨_, e22, rfl⟩ := hF.dp 0 22 (by kernel_rfl)
        obtain ⟨_, e27, A27, c27, rfl, hc27, r27⟩ := hF.dp 5 27 (by kernel_rfl)
        exact ⟨e22, _, _, e27, r27⟩
      · intro vs v9 w1 hO9 hB9
        simp only [List.take_succ_cons, List.take_zero, putAll, Nat.zero_add, Nat.reduceAdd]
        clear hown0 hrc hr11 h11
        go_simp
        go_wp2_with fail
        go_roundw
        case rel =>
          refine ⟨r + 1, by omega, by go_num, by rw [hXN.out], ?_, hbw0.trans hB9⟩
          rw [hST.out, show min (64 * (r + 1)) n = 64 * r + min 64 (n - 64 * r) by omega]
          exact hO9
        case measure => simp [intOf]; omega
    · have hfin : streamAt K c0 N b r = streamL K c0 N b := by
        rw [streamL]; congr 1; omega
      rw [hfin, show min (64 * r) n = n by omega] at hown
      go_wp2_with fail
      go_ret
      exact ⟨_, rfl, own_base hown (by omega), hb.trans (hbw.mono (by omega))⟩
end Go.Proofs.YtnmhfomnlnlflaaDoor
/- The walk of the document's Stream. No condition. -/
namespace Go.Proofs.YtnmhfomnlnlflaaDoor
open Go.RowKit
theorem strCells_list (l : List UInt8) : Lib.strCells ⟨l.toArray⟩ = u8s l := by simp [Lib.strCells, u8s]
theorem size_list (l : List UInt8) : (⟨l.toArray⟩ : ByteArray).size = l.length := rfl
theorem own_slLen {w : World} {b : Nat} {e : TypeId} {size n : Nat} {v : Value} {xs : List Value} (h : w.ownsRow b e size v n xs) : slLen v = n := by
  obtain ⟨A, c, rfl, _⟩ := own_form h
  rfl
set_option maxRecDepth 100000 in
set_option maxHeartbeats 4000000 in
theorem refStream_any (K : List UInt8) (hK : K.length = 32) (c0 : UInt32) (N : List UInt8) (hN : N.length = 12) (b : List UInt8) (hn : b.length ≤ 1000000) (w : World) :
    Calls Tryd.prog 58 #[.string ⟨K.toArray⟩, .int .u32 c0.toNat, .string ⟨N.toArray⟩, .string ⟨b.toArray⟩] w fun e w' => e = .returned (.string ⟨(streamL K c0 N b).toArray⟩) ∧ Below w.heap.size w w' := by
  obtain ⟨i0, hi0, hz0, hz1, hz2⟩ := info_parts Tryd.info5
  obtain ⟨n, hln⟩ : ∃ n, n = b.length := ⟨_, rfl⟩
  have hsz : (⟨b.toArray⟩ : ByteArray).size = n := by rw [hln]; rfl
  go_enter Tryd.func58, Tryd.ntmps58
  go_wp2_with fail
  go_loopw [1, 9] (fun cv v wr => ∃ r : Nat, 64 * r ≤ n + 63 ∧ cv = .int .u32 ((c0 + UInt32.ofNat r).toNat : Int) ∧ wr.ownsRow w.heap.size 5 1 v (min (64 * r) n) (u8s (streamAt K c0 N b r)) ∧ Below w.heap.size w wr) (fun _ v _ => n - slLen v)
  case atStart => exact ⟨0, by omega, by simp, by simpa [streamAt] using World.ownsRow_nil _ _ _ _, Below.refl _ _⟩
  case round =>
    obtain ⟨r, hr64, rfl, hown, hbw⟩ := hrel
    obtain ⟨A, c, rfl, hc, hA⟩ := own_form hown
    by_cases hlt : 64 * r < n
    · rw [show min (64 * r) n = 64 * r by omega] at hown hc ⊢
      obtain ⟨x, hx⟩ : ∃ x, x = c0 + UInt32.ofNat r := ⟨_, rfl⟩
      obtain ⟨k, hk⟩ : ∃ k, k = blockL K x N := ⟨_, rfl⟩
      have hlk : k.length = 64 := by rw [hk]; simp
      have hc1 := fun w => refBlock_any K hK x N hN w
      rw [← hk] at hc1
      rw [← hx]
      have HX := Lib.hid hx
      have HK := Lib.hid hk
      have hsl := fun w => run_cutS_l (P := Tryd.prog) Tryd.underlying9 b (64 * r) ((64 * r : Nat) : Int) rfl (by omega) w
      obtain ⟨d, hd⟩ : ∃ d, d = b.drop (64 * r) := ⟨_, rfl⟩
      have hsl2 := fun w => run_cutS_l (P := Tryd.prog) Tryd.underlying9 b (64 * r) (64 * (r : Int)) (by omega) (by omega) w
      rw [← hd] at hsl hsl2
      have hld : d.length = n - 64 * r := by rw [hd, List.length_drop, hln]
      have hmx := fun w => refMix_any k d (by omega) (by omega) w
      obtain ⟨q, hq⟩ : ∃ q, q = mixL k d := ⟨_, rfl⟩
      have hlq : q.length = min 64 (n - 64 * r) := by rw [hq, mixL_length, hlk, hld]
      rw [← hq] at hmx
      have hlq' : (⟨q.toArray⟩ : ByteArray).size = min 64 (n - 64 * r) := hlq
      have hST : Hid (u8s (streamAt K c0 N b (r + 1)) = u8s (streamAt K c0 N b r) ++ u8s q) := by show _ = _; rw [hq, HK.out, HX.out, hd, ← u8s_append]; rfl
      have hXN : Hid (((x.toNat : Int) + 1) % 4294967296 = ((c0 + UInt32.ofNat (r + 1)).toNat : Int)) := by
        show _ = _
        rw [HX.out, UInt32.toNat_add, UInt32.toNat_add, UInt32.toNat_ofNat', UInt32.toNat_ofNat']
        omega
      clear hx hk hd hq
      have hbs := hbw.size
      go_wp2_with first
        | (go_at_call 78; refine (hc1 _).mono ?_; rintro e w1 ⟨rfl, hB1⟩)
        | (go_at_call 79; refine (hmx _).mono ?_; rintro e w2 ⟨rfl, hB2⟩; have hG := Gr.trans hB1 hB2; have hown2 := Gr.own hG hown; have hbs2 := hG.size)
        | (at_builtin; go_must (refine Lib.wpList_append_own_string _ rfl (.tmp 20) (.tmp 26) 27 9 rfl w.heap.size 5 i0 Tryd.underlying27 Tryd.underlying9 hi0 hz0 hz1 hz2 _ (64 * r) _ rfl hown2 ⟨q.toArray⟩ rfl (by unfold maxLen; omega) (by omega) (by omega) ?_; intro v3 w3 hO3 hg3 _h3))
      rw [strCells_list, hlq'] at hO3
      have hm : min (64 * (r + 1)) n = 64 * r + min 64 (n - 64 * r) := by omega
      have hsl3 := own_slLen hO3
      refine ⟨⟨r + 1, by omega, by rw [hXN.out], by rw [hST.out, hm]; exact hO3, hbw.trans ((hG.mono hbs).trans ((Below.refl _ _).grown hg3 (by omega) (fun k hk => (hown2.lt k hk).1)))⟩, ?_⟩
      rw [hsl3]
      show n - _ < n - 64 * r
      omega
    · have hfin : streamAt K c0 N b r = streamL K c0 N b := by
        rw [streamL]; congr 1; omega
      rw [hfin, show min (64 * r) n = n by omega] at hown
      rw [show min (64 * r) n = n by omega]
      have hcv := run_str (P := Tryd.prog) (c := c) wr Tryd.underlying27 Tryd.underlying5 Tryd.underlying9 (Rd.of_own hown)
      subst hln
      go_wp2_with fail
      go_ret
      exact ⟨rfl, hbw⟩
end Go.Proofs.YtnmhfomnlnlflaaDoor
/- The walk of the law ChachaCounts. No condition. -/
namespace Go.Proofs.YtnmhfomnlnlflaaDoor
open Go.RowKit
def blocksL (K : List UInt8) (c : UInt32) (N : List UInt8) : Nat → List UInt8
  | 0 => []
  | k + 1 => blocksL K c N k ++ blockL K (c + UInt32.ofNat k) N
@[simp] theorem blocksL_length (K : List UInt8) (c : UInt32) (N : List UInt8) (k : Nat) : (blocksL K c N k).length = 64 * k := by
  induction k with
  | zero => rfl
  | succ k ih => rw [blocksL, List.length_append, ih, blockL_length]; omega
theorem mixL_noughts (a : List UInt8) (n : Nat) (h : a.length ≤ n) : mixL a (List.replicate n 0) = a := by
  unfold mixL
  induction a generalizing n with
  | nil => simp
  | cons x a ih =>
    obtain ⟨m, rfl⟩ : ∃ m, n = m + 1 := ⟨n - 1, by simp at h; omega⟩
    rw [List.replicate_succ, List.zipWith_cons_cons, ih m (by simp at h; omega)]
    simp
theorem streamAt_noughts (K : List UInt8) (c : UInt32) (N : List UInt8) (m : Nat) : ∀ k, k ≤ m → streamAt K c N (List.replicate (64 * m) 0) k = blocksL K c N k := by
  intro k
  induction k with
  | zero => intro _; rfl
  | succ k ih =>
    intro hk
    rw [streamAt, blocksL, ih (by omega), List.drop_replicate, mixL_noughts _ _ (by rw [blockL_length]; omega)]
theorem streamL_noughts (K : List UInt8) (c : UInt32) (N : List UInt8) (m : Nat) : streamL K c N (List.replicate (64 * m) 0) = blocksL K c N m := by
  rw [streamL, List.length_replicate, show (64 * m + 63) / 64 = m by omega, streamAt_noughts K c N m m (Nat.le_refl _)]
theorem Arr.range1 {w : World} {g : Nat} {t : TypeId} {x : Value} {l : List Value} (h : Arr w g t (x :: l)) : w.rangeAt g 1 l := fun j v hv => by
  rw [Nat.add_comm]; exact h.cell (i := j + 1) (by simpa using hv)
theorem Arr.rd1 {w : World} {g : Nat} {t : TypeId} {x : Value} {l : List UInt8} (h : Arr w g t (x :: u8s l)) {n : Nat} (hn : l.length = n) : Rd w (some ⟨g, 1, none⟩) n (u8s l) := by
  subst hn
  have := h.rd 1 l.length (by simp; omega)
  rwa [List.drop_one, List.tail_cons, List.take_of_length_le (by simp)] at this
theorem wrap_rem (z : Int) (m : Nat) (hm : 0 < m) (hm2 : m < 1000) : ∃ i : Nat, i < m ∧ wrap64 ((IntKind.u64.wrap z).tmod m) = i := by
  have h0 : 0 ≤ z % 18446744073709551616 := Int.emod_nonneg _ (by omega)
  refine ⟨((z % 18446744073709551616) % m).toNat, ?_, ?_⟩
  · have := Int.emod_lt_of_pos (z % 18446744073709551616) (b := m) (by omega)
    have := Int.emod_nonneg (z % 18446744073709551616) (b := m) (by omega)
    omega
  · have h1 := Int.emod_lt_of_pos (z % 18446744073709551616) (b := m) (by omega)
    have h2 := Int.emod_nonneg (z % 18446744073709551616) (b := m) (by omega)
    rw [IntKind.wrap_u64, Int.tmod_eq_emod_of_nonneg h0, Int.toNat_of_nonneg h2]
    exact IntWalk.wrap64_in _ (by omega)
theorem run_field {P : Program} {ev : Operand → Value} {d : Option Tmp} {t T : TypeId} {s : String} {af : Array Edge} {gd : Option (Nat × Bool)} {w : World} {x : Operand} {g i o k : Nat} {fs : Array Field} {f : Field} (hT : P.underlying T = some (.struct fs)) (hf : fs[i]? = some f) (ho : f.offset = o)
    (hsz : (P.info? f.type).map (·.size) = some (k + 1)) (h1 : ev x = .pointer (some ⟨g, 0, none⟩)) :
    (execOp ev ⟨d, .fieldAddr T x i, t, s, af, gd⟩).run P w = .ok (.value (.pointer (some ⟨g, o, none⟩))) w := by
  subst ho
  have hs : (sizeOf f.type).run P w = .ok (k + 1) w := by
    cases hq : P.info? f.type with
    | none => simp [hq] at hsz
    | some ti =>
      have h2 : ti.size = k + 1 := by simpa [hq] using hsz
      simp [sizeOf, typeInfo, hq, h2]
  simp [execOp, h1, Instr.fieldAt, Instr.sureAddr, run_underlying hT, hf, fieldPlace, hs, add_row]
end Go.Proofs.YtnmhfomnlnlflaaDoor
