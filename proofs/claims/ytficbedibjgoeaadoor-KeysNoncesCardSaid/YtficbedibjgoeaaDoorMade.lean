/- Slices of slices just made; arrays of thirty-two bytes compared. No condition. -/
import Derived.Test.YtficbedibjgoeaaDoorParts
import Derived.Test.YtficbedibjgoeaaDoorKitA
import Derived.Test.YtficbedibjgoeaaDoorRem
import Derived.Stop.BytesEq
namespace Go.Proofs.YtficbedibjgoeaaDoor
open Go.RowKit
theorem rd_made {w : World} {g : Nat} (hg : g = w.heap.size) (C : Array Value) (e : TypeId) (fr : Nat × Nat) (n : Nat) (l : List Value) (hC : C.toList = l) (hn : l.length = n) : Rd (w.alloc (.cells C e fr)) (some ⟨g, 0, none⟩) n l := by
  subst hg
  have hs : C.size = n := by rw [← Array.length_toList, hC, hn]
  have hg : (w.alloc (.cells C e fr)).heap[w.heap.size]? = some (.cells C e fr) := by
    show (w.heap.push (.cells C e fr))[w.heap.size]? = _
    simp
  have := Rd.of_row hg 0 n (by omega)
  rwa [hC, List.drop_zero, List.take_of_length_le (by simp [hn])] at this
/-- A slice of one slice. -/
theorem parts1 {w : World} {g : Nat} (hg : g = w.heap.size) (e : TypeId) (p : Part) (h : Rd w p.A p.n (u8s p.l)) (hc : p.n ≤ p.c) : Parts (w.alloc (.cells #[p.val] e)) (some ⟨g, 0, none⟩) 1 [p] :=
  ⟨rd_made hg _ _ _ 1 _ rfl rfl, fun q hq => by simp only [List.mem_singleton] at hq; subst hq; exact ⟨(Gr.alloc _ _).rd h, hc⟩⟩
/-- A slice of slices that lay there. -/
theorem partsN {w : World} {g : Nat} (hg : g = w.heap.size) (e : TypeId) (C : Array Value) (ps : List Part) (n : Nat) (hC : C.toList = ps.map Part.val) (hn : ps.length = n) (h : ∀ p ∈ ps, Rd w p.A p.n (u8s p.l) ∧ p.n ≤ p.c) : Parts (w.alloc (.cells C e)) (some ⟨g, 0, none⟩) n ps :=
  ⟨rd_made hg _ _ _ n _ hC (by simp [hn]), fun q hq => ⟨(Gr.alloc _ _).rd (h q hq).1, (h q hq).2⟩⟩
theorem Arr.rdAllS {w : World} {g : Nat} {t : TypeId} {l : List UInt8} (h : Arr w g t (u8s l)) {n : Nat} (hn : l.length = n) : Rd w (some ⟨g, 0, none⟩) n (u8s l) := by
  subst hn
  have := h.rd 0 l.length (by simp)
  rwa [List.drop_zero, List.take_of_length_le (by simp)] at this
theorem allP_bound {ps : List Part} {s : Nat} (h : ∀ p ∈ ps, p.l.length ≤ s) : (allP ps).length ≤ ps.length * s := by
  induction ps with
  | nil => simp [allP]
  | cons p ps ih =>
    have h1 := h p (by simp)
    have h2 := ih (fun q hq => h q (by simp [hq]))
    have e : allP (p :: ps) = p.l ++ allP ps := by simp [allP]
    rw [e, List.length_append, List.length_cons, Nat.succ_mul]
    omega
/-- A slice of slices that read together as this text. -/
def PartsV (n c : Nat) (l : List UInt8) (v : Value) (w : World) : Prop := ∃ A ps, v = .slice A n c ∧ Parts w A n ps ∧ allP ps = l
theorem PartsV.gr {n c : Nat} {l : List UInt8} {v : Value} {w w' : World} (h : PartsV n c l v w) (g : Gr w w') : PartsV n c l v w' := by
  obtain ⟨A, ps, h1, h2, h3⟩ := h
  exact ⟨A, ps, h1, h2.gr g, h3⟩
theorem run_eqA32 {ev : Operand → Value} {d : Option Tmp} {t : TypeId} {p : String} {af : Array Edge} {gd : Option (Nat × Bool)} {w : World} {x y : Operand} {T : TypeId} {D : List UInt8} (hD : D.length = 32) (h1 : ev x = .agg (u8s D).toArray) (h2 : ev y = .agg (u8s D).toArray) :
    (execOp ev ⟨d, .binOp .eql 22 x y T, t, p, af, gd⟩).run Tryd.prog w = .ok (.value (.bool true)) w := by
  have h3 : (Op.equalIn 10000 22 (.agg (u8s D).toArray) (.agg (u8s D).toArray)).run Tryd.prog w = .ok (D == D) w := run_equalIn_bytes (P := Tryd.prog) w 9998 22 5 32 Tryd.underlying22 Tryd.underlying5 (fun w => by kernel_rfl) D D hD hD
  rw [beq_self_eq_true] at h3
  simp only [execOp, h1, h2]
  go_simp
theorem run_build3S {ev : Operand → Value} {d : Option Tmp} {t : TypeId} {p : String} {af : Array Edge} {gd : Option (Nat × Bool)} {w : World} {x y z : Operand} {A B C : Option Addr} {n c n2 c2 n3 c3 : Nat} (h1 : ev x = .slice A n c) (h2 : ev y = .slice B n2 c2) (h3 : ev z = .slice C n3 c3) :
    (execOp ev ⟨d, .buildSlice 50 3 #[(0, x), (1, y), (2, z)], t, p, af, gd⟩).run Tryd.prog w = .ok (.value (.slice (some ⟨w.heap.size, 0, none⟩) 3 3)) (w.alloc (.cells #[.slice A n c, .slice B n2 c2, .slice C n3 c3] 23)) := by
  simp only [execOp]
  go_simp
theorem eqA32 (D : List UInt8) (hD : D.length = 32) (w : World) : (Op.equalIn 10000 22 (.agg (u8s D).toArray) (.agg (u8s D).toArray)).run Tryd.prog w = .ok true w := by
  have h3 : (Op.equalIn 10000 22 (.agg (u8s D).toArray) (.agg (u8s D).toArray)).run Tryd.prog w = .ok (D == D) w := run_equalIn_bytes (P := Tryd.prog) w 9998 22 5 32 Tryd.underlying22 Tryd.underlying5 (fun w => by kernel_rfl) D D hD hD
  rwa [beq_self_eq_true] at h3
/-- 'append' of one slice in a block of its own, under a guard that says yes. -/
theorem wpList_appW1 {P : Program} (w : World) {ops : Array Oper} {rest : List Oper} {o : Oper} {a : Act} {Q : Exit → Act → World → Prop} (hw : Region.wanted o (yielded ops a.tmps) = true) (s x : Operand) (t : TypeId)
    (ho : o.op = .call { callee := .builtin .append, args := #[s, x], argTypes := #[t, t] })
    (base : Nat) (e : TypeId) (i : TypeInfo) (z : Value) (bytes : Nat) (ht : P.underlying t = some (.slice e)) (hi : P.info? e = some i) (hz : i.zero = some z)
    (hsize : i.size = 1) (hby : i.bytes = bytes) (hzs : z.cells.size = 1)
    (v : Value) (n : Nat) (xs : List Value) (hs : a.eval s = v) (hown : w.ownsRow base e 1 v n xs)
    (y u : Value) (hx : a.eval x = .slice (some ⟨w.heap.size, 0, none⟩) 1 1) (hy : y = u) (h1 : u.oneCell' = true)
    (hbytes : (n + 1) * bytes ≤ 140737488355328) (h63 : n + 1 ≤ maxLen) (hbase : base ≤ w.heap.size)
    (h : ∀ v' w', Apped base e w w' v v' (n + 1) (xs ++ [u]) → wpList P ops Q rest (a.put o.dst v') w') : wpList P ops Q (o :: rest) a (w.alloc (.cells #[y] e)) := by
  subst hy
  refine wpList_step fun K hK => ?_
  rw [if_pos hw]
  refine wp_app (w.alloc (.cells #[y] e)) s x t ho base e i z bytes ht hi hz hsize hby hzs v n xs hs (hown.alloc _) _ 1 1 [y] hx
    ⟨rfl, fun j u hj => ⟨_, rfl, cell_one_new w y e j u hj⟩⟩ (by simpa using h1) hbytes h63 (by simp; omega) fun v' w' hA => hK _ _ (h v' w' ⟨hA.own, ?_, ?_⟩)
  · have h2 := hA.grown
    exact ⟨h2.os, h2.tape, h2.output, by have := h2.size; simp at this; omega, fun k hk hne => (h2.block k (by simp; omega) hne).trans (Below.heap_alloc w _ k hk)⟩
  · rcases hA.lies with e1 | ⟨g, e1, hg⟩
    · exact .inl e1
    · exact .inr ⟨g, e1, by simp at hg; omega⟩
end Go.Proofs.YtficbedibjgoeaaDoor
