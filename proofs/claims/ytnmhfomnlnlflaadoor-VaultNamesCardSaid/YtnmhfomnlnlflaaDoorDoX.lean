/- A byte of a row of one's own, set in place. No condition. -/
import Derived.Test.YtnmhfomnlnlflaaDoorDoC
namespace Go.Proofs.YtnmhfomnlnlflaaDoor
open Go.RowKit
/-- The block of a row of bytes may turn. -/
def rowT (A : Option Addr) : Nat → Obj → Bool := fun k o => (match A with | some ad => k == ad.block | none => false) && (match o with | .cells _ t _ => t == 5 | _ => false)
theorem own_setC {w : World} {base : Nat} {A : Option Addr} {n c : Nat} {xs : List Value} (h : w.ownsRow base 5 1 (.slice A n c) n xs) {i : Nat} (hi : i < n) (u : Value) :
    ∃ g cs, A = some ⟨g, 0, none⟩ ∧ n ≤ cs.length ∧ cs.take n = xs ∧ Arr w g 5 cs ∧ (w.setCell ⟨g, i, none⟩ u).ownsRow base 5 1 (.slice A n c) n (xs.set i u) ∧ Tn (rowT A) base w (w.setCell ⟨g, i, none⟩ u) := by
  have hx := h.1
  rcases h.2 with ⟨_, e2⟩ | ⟨g, cap, cur, e1, h1, h2, h3, h4, h5, h6⟩
  · omega
  · have e1' := e1
    injection e1' with eA _ _
    subst eA
    have hA : Arr w g 5 cur.toList := by show w.heap[g]? = _; simpa using h2
    have hs := hA.set i u
    have hl : cur.toList.length = cap := by simpa using h5
    refine ⟨g, cur.toList, rfl, by omega, by simpa using h6, hA, ⟨by simpa using hx, .inr ⟨g, cap, (cur.toList.set i u).toArray, e1, h1, hs, h3, h4, by simpa using hl, ?_⟩⟩, Tn.cell hA h1 (fun C f => by simp [rowT]) i u⟩
    have h7 : cur.toList.take n = xs := by simpa using h6
    rw [← h7]
    simp [List.take_set]
theorem own_setAny {w : World} {base : Nat} {A : Option Addr} {n c : Nat} {l : List UInt8} (h : w.ownsRow base 5 1 (.slice A n c) n (u8s l)) {g : Nat} {cs : List Value} (hA : Arr w g 5 cs) (i : Nat) (b : UInt8) :
    ∃ l2, (w.setCell ⟨g, i, none⟩ (.int .u8 (b.toNat : Int))).ownsRow base 5 1 (.slice A n c) n (u8s l2) := by
  have hx := h.1
  rcases h.2 with h2 | ⟨g', cap, cur, e1, h1, h2, h3, h4, h5, h6⟩
  · exact ⟨l, hx, .inl h2⟩
  · have hA' : Arr w g' 5 cur.toList := by show w.heap[g']? = _; simpa using h2
    by_cases hg : g' = g
    · subst hg
      have hs := hA'.set i (.int .u8 (b.toNat : Int))
      refine ⟨l.set i b, by simpa using hx, .inr ⟨g', cap, (cur.toList.set i (.int .u8 (b.toNat : Int))).toArray, e1, h1, hs, h3, h4, by simpa using h5, ?_⟩⟩
      have h7 : cur.toList.take n = u8s l := by simpa using h6
      rw [← u8s_set, ← h7]
      simp [List.take_set]
    · have hs : Arr (w.setCell ⟨g, i, none⟩ (.int .u8 (b.toNat : Int))) g' 5 cur.toList := hA'.other hg _
      exact ⟨l, hx, .inr ⟨g', cap, cur, e1, h1, by have : _ = _ := hs; simpa using this, h3, h4, h5, h6⟩⟩
theorem wpList_setT {ops : Array Oper} {rest : List Oper} {o : Oper} {a : Act} {Q : Exit → Act → World → Prop} {w : World} {base : Nat} {A : Option Addr} {n c : Nat} {l : List UInt8} (hgd : o.guard = none) (x y : Operand) (ho : o.op = .store 5 x y) (h : w.ownsRow base 5 1 (.slice A n c) n (u8s l)) {i : Nat} (b : UInt8) {g : Nat} (hA : A = some ⟨g, 0, none⟩) (hx : a.eval x = .pointer (some ⟨g, i, none⟩)) (hy : a.eval y = .int .u8 (b.toNat : Int)) (hi : i < n)
    (hK : ∀ w2, w2.ownsRow base 5 1 (.slice A n c) n (u8s (l.set i b)) → Tn (rowT A) base w w2 → (∀ base' A' n' c' l', w.ownsRow base' 5 1 (.slice A' n' c') n' (u8s l') → ∃ l2, w2.ownsRow base' 5 1 (.slice A' n' c') n' (u8s l2)) → wpList Tryd.prog ops Q rest (a.put o.dst undef) w2) : wpList Tryd.prog ops Q (o :: rest) a w := by
  obtain ⟨g', cs, hA', hl, ht, hc, h2, hT⟩ := own_setC h hi (.int .u8 (b.toNat : Int))
  have hgg : g' = g := by
    rw [hA] at hA'
    injection hA' with hA'
    injection hA' with hA'
    exact hA'.symm
  subst hgg
  refine wpList_plain hgd fun K hKK => ?_
  unfold Oper.wp
  obtain ⟨dst, op, tt, ps, af, gd⟩ := o
  simp only at ho
  subst ho
  rw [run_store1 (by kernel_rfl) hx hy (by rw [hc.cell (List.getElem?_eq_getElem (show i < cs.length by omega))]; rfl) (hc.frozen i)]
  rw [u8s_set] at h2
  exact hKK _ _ (hK _ h2 hT (fun base' A' n' c' l' h' => own_setAny h' hc i b))
theorem own_byte {w : World} {base : Nat} {A : Option Addr} {n c : Nat} {l : List UInt8} (h : w.ownsRow base 5 1 (.slice A n c) n (u8s l)) {i : Nat} (hi : i < n) : ∃ g b, A = some ⟨g, 0, none⟩ ∧ l[i]? = some b ∧ w.cell? ⟨g, i, none⟩ = some (.int .u8 (b.toNat : Int)) := by
  have hl : l.length = n := by have := h.1; simpa using this
  obtain ⟨g, e, hc⟩ := own_at1 h hi (u8s_at (List.getElem?_eq_getElem (show i < l.length by omega)))
  exact ⟨g, _, e, List.getElem?_eq_getElem (show i < l.length by omega), hc⟩
/-- All that a byte set in place leaves. -/
theorem own_turn {w : World} {base : Nat} {A : Option Addr} {n c : Nat} {l : List UInt8} (h : w.ownsRow base 5 1 (.slice A n c) n (u8s l)) {i : Nat} (hi : i < n) :
    ∃ g b, A = some ⟨g, 0, none⟩ ∧ l[i]? = some b ∧ w.cell? ⟨g, i, none⟩ = some (.int .u8 (b.toNat : Int)) ∧ w.frozen? ⟨g, i, none⟩ = false ∧
      ∀ b' : UInt8, (w.setCell ⟨g, i, none⟩ (.int .u8 (b'.toNat : Int))).ownsRow base 5 1 (.slice A n c) n (u8s (l.set i b')) ∧ Tn (rowT A) base w (w.setCell ⟨g, i, none⟩ (.int .u8 (b'.toNat : Int))) ∧
        ∀ base' A' n' c' l', w.ownsRow base' 5 1 (.slice A' n' c') n' (u8s l') → ∃ l2, (w.setCell ⟨g, i, none⟩ (.int .u8 (b'.toNat : Int))).ownsRow base' 5 1 (.slice A' n' c') n' (u8s l2) := by
  obtain ⟨g, b, hA, hl, hc⟩ := own_byte h hi
  obtain ⟨g', cs, hA', _, _, hcs, _, _⟩ := own_setC h hi undef
  have hgg : g' = g := by
    rw [hA] at hA'
    injection hA' with hA'
    injection hA' with hA'
    exact hA'.symm
  subst hgg
  refine ⟨g', b, hA, hl, hc, hcs.frozen i, fun b' => ?_⟩
  obtain ⟨g2, cs2, hA2, _, _, _, h2, hT⟩ := own_setC h hi (.int .u8 (b'.toNat : Int))
  have hgg : g2 = g' := by
    rw [hA] at hA2
    injection hA2 with hA2
    injection hA2 with hA2
    exact hA2.symm
  subst hgg
  rw [u8s_set] at h2
  exact ⟨h2, hT, fun base' A' n' c' l' h' => own_setAny h' hcs i b'⟩
theorem xor_one (b : UInt8) : bits BinOp.xor IntKind.u8 (b.toNat : Int) 1 = ((b ^^^ 1).toNat : Int) := u8_xor_nat b.toNat 1 b.toNat_lt (by omega)
theorem rowT_at {A : Option Addr} {k : Nat} {o : Obj} (h : rowT A k o = true) : ∃ ad, A = some ad ∧ k = ad.block := by
  unfold rowT at h
  simp only [Bool.and_eq_true] at h
  cases A with
  | none => simp at h
  | some ad => exact ⟨ad, rfl, by simpa using h.1⟩
theorem own_lt {w : World} {base : Nat} {e : TypeId} {A : Option Addr} {n c : Nat} {xs : List Value} (h : w.ownsRow base e 1 (.slice A n c) n xs) : ∀ ad, A = some ad → ad.block < w.heap.size := by
  intro ad hA
  rcases h.2 with ⟨e1, _⟩ | ⟨g, cap, cur, e1, _, h2, _⟩
  · injection e1 with e1; rw [e1] at hA; cases hA
  · injection e1 with e1
    rw [e1] at hA
    injection hA with hA
    subst hA
    exact (Array.getElem?_eq_some_iff.1 h2).1
/-- A byte of another row, perhaps of this one, was turned: it is still a row of bytes. -/
def XorR (A : Option Addr) (n c : Nat) (A' : Option Addr) (n' c' base : Nat) (w0 : World) (i : Value) (w : World) : Prop := ∃ (j : Nat) (l l' : List UInt8), j ≤ n ∧ i = .int .i64 (j : Int) ∧ w.ownsRow base 5 1 (.slice A n c) n (u8s l) ∧ w.ownsRow base 5 1 (.slice A' n' c') n' (u8s l') ∧ Tn (rowT A) base w0 w
theorem eqBlD (D : List UInt8) (hD : D.length = 32) (w : World) : (Op.equalIn 10000 31 (.agg (u8s D).toArray) (.agg (u8s D).toArray)).run Tryd.prog w = .ok true w := by
  have h := run_equalIn_bytes (P := Tryd.prog) w 9998 31 5 32 Tryd.underlying31 Tryd.underlying5 (fun w => by kernel_rfl) D D hD hD
  rw [beq_self_eq_true] at h
  exact h
/-- '[]byte(s)': its room may be written, its bytes too. -/
structure ConvF (P : Program) (src dst : TypeId) (l : List UInt8) (n : Nat) (cap : World → Nat) (W : World → World) (w : World) : Prop where
  run : (convert src dst (.string ⟨l.toArray⟩)).run P w = .ok (.slice (some ⟨w.heap.size, 0, none⟩) n (cap w)) (W w)
  own : OwnG (W w) w.heap.size (some ⟨w.heap.size, 0, none⟩) n (cap w) (u8s l)
  free : ∀ j, j < n → (W w).frozen? ⟨w.heap.size, j, none⟩ = false
  below : Below w.heap.size w (W w)
theorem conv_free {P : Program} (src dst e : TypeId) (l : List UInt8) (n : Nat) (hn : l.length = n) (hl : n ≤ 1000000000) (hs : P.underlying src = some .string) (hd : P.underlying dst = some (.slice e)) (he : P.underlying e = some (.int .u8)) :
    ∃ (cap : World → Nat) (W : World → World), ∀ w, ConvF P src dst l n cap W w := by
  obtain ⟨cap, W, h⟩ := conv_own src dst e l n hn hl hs hd he
  refine ⟨cap, W, fun w => ⟨(h w).run, (h w).own, fun j hj => ?_, (h w).below⟩⟩
  subst hn
  have hr := (h w).run
  rw [run_bytes_of_string w src dst e ⟨l.toArray⟩ hs hd he] at hr
  injection hr with _ hr
  rw [← hr]
  have e0 : (⟨l.toArray⟩ : ByteArray).size = l.length := rfl
  have hge := grownCap_ge w l.length 0 e
  rw [e0]
  generalize grownCap w l.length 0 e = G at hge
  have hsz : (bytesRow ⟨l.toArray⟩ G).size = G := by
    simp [bytesRow, ByteArray.size]
    omega
  have hg : (w.drew.alloc (.cells (bytesRow ⟨l.toArray⟩ G) e ((bytesRow ⟨l.toArray⟩ G).size, (bytesRow ⟨l.toArray⟩ G).size + 1))).heap[w.heap.size]? = some (.cells (bytesRow ⟨l.toArray⟩ G) e ((bytesRow ⟨l.toArray⟩ G).size, (bytesRow ⟨l.toArray⟩ G).size + 1)) := by
    show (w.heap.push _)[w.heap.size]? = _
    simp
  unfold World.frozen?
  simp only [hg]
  simp
  omega
theorem wpList_setF {ops : Array Oper} {rest : List Oper} {o : Oper} {a : Act} {Q : Exit → Act → World → Prop} {w : World} {g n : Nat} {l : List UInt8} (hgd : o.guard = none) (x y : Operand) (ho : o.op = .store 5 x y) (h : Rd w (some ⟨g, 0, none⟩) n (u8s l)) {i : Nat} (b : UInt8) (hx : a.eval x = .pointer (some ⟨g, i, none⟩)) (hy : a.eval y = .int .u8 (b.toNat : Int)) (hi : i < n) (hf : w.frozen? ⟨g, i, none⟩ = false)
    (hK : ∀ w2, Rd w2 (some ⟨g, 0, none⟩) n (u8s (l.set i b)) → Below g w w2 → wpList Tryd.prog ops Q rest (a.put o.dst undef) w2) : wpList Tryd.prog ops Q (o :: rest) a w := by
  have hll : l.length = n := by simpa using h.1
  obtain ⟨ad, e, hc⟩ := h.2 i _ (u8s_at (List.getElem?_eq_getElem (show i < l.length by omega)))
  injection e with e
  subst e
  have hc' : w.cell? ⟨g, i, none⟩ = some (.int .u8 ((l[i]'(by omega)).toNat : Int)) := by rw [add_row, Nat.zero_add] at hc; exact hc
  refine wpList_plain hgd fun K hKK => ?_
  unfold Oper.wp
  obtain ⟨dst, op, tt, ps, af, gd⟩ := o
  simp only at ho
  subst ho
  rw [run_store1 (by kernel_rfl) hx hy (by rw [hc']; rfl) hf]
  refine hKK _ _ (hK _ ⟨by simpa using h.1, fun j u hu => ⟨_, rfl, ?_⟩⟩ (below_setCell (Nat.le_refl _)))
  rw [add_row, Nat.zero_add]
  rw [← u8s_set, List.getElem?_set] at hu
  by_cases hj : i = j
  · subst hj
    rw [if_pos rfl] at hu
    split at hu
    · injection hu with hu
      rw [← hu]
      exact World.cell?_setCell_same _ _ _ hc'
    · cases hu
  · rw [if_neg hj] at hu
    obtain ⟨ad, e, hcj⟩ := h.2 j u hu
    injection e with e
    subst e
    rw [add_row, Nat.zero_add] at hcj
    exact (World.cell?_setCell_other w ⟨g, i, none⟩ ⟨g, j, none⟩ _ (fun e => hj (by injection e))).trans hcj
/-- What a done act leaves. -/
def DoQ (B : Nat) (w : World) (g b1 b2 b3 r : Nat) (ideal : Bool) (N : Nat) : Prop := ∃ v2, VIs allT B w g b1 b2 b3 v2 ∧ RIs B w r v2 ∧ Good v2 (N + 1) ∧ v2.ideal = ideal
end Go.Proofs.YtnmhfomnlnlflaaDoor
