/- What may turn while a point is appended to the ring's row; small runs. No condition. -/
import Derived.Test.YtmcnnjcbgbdeeaaDoorRNear
namespace Go.Proofs.YtmcnnjcbgbdeeaaDoor
open Go.RowKit
structure NP (B : Nat) (A : Option Addr) (n c : Nat) (xs ys : List Value) (w w' : World) : Prop where
  tn : Tn (blkT A 53) B w w'
  old : w.ownsRow B 53 3 (.slice A n c) n xs → w'.ownsRow B 53 3 (.slice A n c) n xs
  new : ∀ A2 d, w.ownsRow B 53 3 (.slice A2 (n + 1) d) (n + 1) (xs ++ ys) → w'.ownsRow B 53 3 (.slice A2 (n + 1) d) (n + 1) (xs ++ ys)
theorem NP.of_gr {B : Nat} {A : Option Addr} {n c : Nat} {xs ys : List Value} {w w' : World} (h : Gr w w') : NP B A n c xs ys w w' := ⟨Tn.of_gr h, fun k => Gr.own h k, fun _ _ k => Gr.own h k⟩
theorem NP.refl (B : Nat) (A : Option Addr) (n c : Nat) (xs ys : List Value) (w : World) : NP B A n c xs ys w w := NP.of_gr (Gr.refl w)
theorem NP.trans {B : Nat} {A : Option Addr} {n c : Nat} {xs ys : List Value} {a b d : World} (h : NP B A n c xs ys a b) (k : NP B A n c xs ys b d) : NP B A n c xs ys a d := ⟨h.tn.trans k.tn, fun q => k.old (h.old q), fun A2 d q => k.new A2 d (h.new A2 d q)⟩
section
variable {P : Program} {ops : Array Oper} {Q : Exit → Act → World → Prop} {L : List (Value → World → Prop)} {i : Nat} {o : Oper} {a : Act} {w : World} {G : World → World → Prop}
theorem gstepN (hG : ∀ w', Gr w w' → G w w') (h : Step P ops Q L i o a w) : wpOp P ops Q i (fun a' w' => ∃ v, a' = a.put o.dst v ∧ (L.getD i AnyV) v w' ∧ G w w') a w := by
  unfold Step at h
  exact wpOp_mono (fun a' w' ⟨v, h1, h2, h3⟩ => ⟨v, h1, h2, hG _ h3⟩) h
theorem g_valN (hi : ops[i]? = some o) (hg : o.guard = none) (v : Value) (w' : World) (hrun : (execOp a.eval o).run P w = .ok (.value v) w') (hφ : (L.getD i AnyV) v w') (hG : G w w') : wpOp P ops Q i (fun a' w' => ∃ v, a' = a.put o.dst v ∧ (L.getD i AnyV) v w' ∧ G w w') a w := by
  have hw : Region.wanted o (yielded ops a.tmps) = true := by simp [Region.wanted, hg]
  unfold wpOp
  simp only [hi, hw, if_true, Oper.wp, hrun, Oper.upon]
  exact .inl ⟨v, rfl, hφ, hG⟩
end
/-- A slice of one element that was just built. -/
def One1P (S : Nat) (t : TypeId) (cs : List Value) (v : Value) (w : World) : Prop := ∃ g, v = .slice (some ⟨g, 0, none⟩) 1 1 ∧ S ≤ g ∧ Arr w g t cs
/-- The longer row of points. -/
def New1P (B n : Nat) (xs : List Value) (v : Value) (w : World) : Prop := ∃ A c, v = .slice A (n + 1) c ∧ w.ownsRow B 53 3 (.slice A (n + 1) c) (n + 1) xs
theorem One1P.np {S B : Nat} {t : TypeId} {cs : List Value} {v : Value} {A : Option Addr} {n c : Nat} {xs ys : List Value} {w w' : World} (h : One1P S t cs v w) (hA : ∀ ad, A = some ad → ad.block < S) (hG : NP B A n c xs ys w w') : One1P S t cs v w' := by
  obtain ⟨g, e, hs, ha⟩ := h
  exact ⟨g, e, hs, ha.tn hG.tn fun C f => blkT_far (fun ad h => by have := hA ad h; omega) _⟩
theorem New1P.np {B : Nat} {v : Value} {A : Option Addr} {n c : Nat} {xs ys : List Value} {w w' : World} (h : New1P B n (xs ++ ys) v w) (hG : NP B A n c xs ys w w') : New1P B n (xs ++ ys) v w' := by
  obtain ⟨A2, d, e, ho⟩ := h
  exact ⟨A2, d, e, hG.new A2 d ho⟩
section
variable {ev : Operand → Value} {d : Option Tmp} {t : TypeId} {p : String} {af : Array Edge} {gd : Option (Nat × Bool)} {w : World} {x y z : Operand}
theorem run_buildPt {a b c : Int} (h1 : ev x = .agg #[.int .u64 a, .int .i64 b, .int .i64 c]) :
    (execOp ev ⟨d, .buildSlice 47 1 #[(0, x)], t, p, af, gd⟩).run Tryd.prog w = .ok (.value (.slice (some ⟨w.heap.size, 0, none⟩) 1 1)) (w.alloc (.cells #[.int .u64 a, .int .i64 b, .int .i64 c] 53)) := by
  simp only [execOp, List.map_toArray, List.map_cons, List.map_nil, h1]
  go_simp
theorem run_storeSl {P : Program} {T : TypeId} {q : Addr} {A : Option Addr} {n c : Nat} (hT : (P.info? T).map (·.size) = some 1) (h1 : ev x = .pointer (some q)) (h2 : ev y = .slice A n c) (hc : (w.cell? q).isSome = true) (hf : w.frozen? q = false) : (execOp ev ⟨d, .store T x y, t, p, af, gd⟩).run P w = .ok .skip (w.setCell q (.slice A n c)) := by
  obtain ⟨v, hv⟩ := Option.isSome_iff_exists.1 hc
  simp only [execOp, h1, h2]
  go_simp
  simp [run_size1 hT, hv, hf]
end
theorem wpList_setSl {P : Program} {w : World} {g : Nat} {t : TypeId} {cs : List Value} {ops : Array Oper} {rest : List Oper} {op : Oper} {a : Act} {Q : Exit → Act → World → Prop} (h : Arr w g t cs) (hgd : op.guard = none) (ty : TypeId) (x y : Operand) (ho : op.op = .store ty x y)
    (hT : (P.info? ty).map (·.size) = some 1) (i : Nat) {A : Option Addr} {n c : Nat} (hx : a.eval x = .pointer (some ⟨g, i, none⟩)) (hy : a.eval y = .slice A n c) (hi : i < cs.length)
    (hK : ∀ w2, w2 = w.setCell ⟨g, i, none⟩ (.slice A n c) → Arr w2 g t (cs.set i (.slice A n c)) → wpList P ops Q rest (a.put op.dst undef) w2) : wpList P ops Q (op :: rest) a w := by
  refine wpList_plain hgd fun K hKK => ?_
  unfold Oper.wp
  obtain ⟨dst, o, tt, ps, af, gd⟩ := op
  simp only at ho
  subst ho
  rw [run_storeSl hT hx hy (by rw [h.cell (List.getElem?_eq_getElem hi)]; rfl) (h.frozen i)]
  exact hKK _ _ (hK _ rfl (h.set i _))
/-- What a point's digest is made of. -/
def ptP (g r p : Nat) : List Part := [⟨some ⟨g, 0, none⟩, 4, 4, [114, 105, 110, 103]⟩, ⟨some ⟨g + 1, 0, none⟩, 2, 2, [UInt8.ofNat r, UInt8.ofNat p]⟩]
theorem ptP_all (g r p : Nat) : allP (ptP g r p) = ringText r p := rfl
theorem parts_pt (w : World) (t u : TypeId) (f1 f2 : Nat × Nat) (r p : Nat) (hr : r ≤ 255) (hp : p ≤ 255) :
    Parts (((w.alloc (.cells #[.int .u8 114, .int .u8 105, .int .u8 110, .int .u8 103] t f1)).alloc (.cells #[.int .u8 (r : Int), .int .u8 (p : Int)] t f2)).alloc (.cells #[.slice (some ⟨w.heap.size, 0, none⟩) 4 4, .slice (some ⟨w.heap.size + 1, 0, none⟩) 2 2] u)) (some ⟨w.heap.size + 1 + 1, 0, none⟩) 2 (ptP w.heap.size r p) := by
  have hb1 : (r : Int) = ((UInt8.ofNat r).toNat : Int) := by rw [UInt8.toNat_ofNat']; omega
  have hb2 : (p : Int) = ((UInt8.ofNat p).toNat : Int) := by rw [UInt8.toNat_ofNat']; omega
  refine partsN (by simp only [asz]) u _ _ 2 rfl rfl fun q hq => ?_
  simp only [ptP, List.mem_cons, List.not_mem_nil, or_false] at hq
  rcases hq with rfl | rfl
  · exact ⟨(Gr.alloc _ _).rd (rd_made rfl _ _ _ 4 _ rfl rfl), Nat.le_refl _⟩
  · exact ⟨rd_made (by simp only [asz]) _ _ _ 2 _ (by rw [hb1, hb2]; rfl) rfl, Nat.le_refl _⟩
theorem infoPt : (Tryd.prog.info? 53).map (fun i => (i.size, i.bytes, i.zero.map fun z => z.cells.size)) = some (3, 24, some 3) := by kernel_rfl
end Go.Proofs.YtmcnnjcbgbdeeaaDoor
