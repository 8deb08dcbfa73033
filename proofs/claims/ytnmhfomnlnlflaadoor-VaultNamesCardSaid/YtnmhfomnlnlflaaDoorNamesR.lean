/- Two appends in one statement: what may turn between. No condition. -/
import Derived.Test.YtnmhfomnlnlflaaDoorAppK
import Derived.Test.YtnmhfomnlnlflaaDoorTwinP
import Derived.Test.YtnmhfomnlnlflaaDoorKitB
namespace Go.Proofs.YtnmhfomnlnlflaaDoor
open Go.RowKit
structure NG (B : Nat) (A : Option Addr) (n c : Nat) (xs : List Value) (y : Value) (w w' : World) : Prop where
  tn : Tn (blkT A 9) B w w'
  old : w.ownsRow B 9 1 (.slice A n c) n xs → w'.ownsRow B 9 1 (.slice A n c) n xs
  new : ∀ A2 d, w.ownsRow B 9 1 (.slice A2 (n + 1) d) (n + 1) (xs ++ [y]) → w'.ownsRow B 9 1 (.slice A2 (n + 1) d) (n + 1) (xs ++ [y])
theorem NG.of_gr {B : Nat} {A : Option Addr} {n c : Nat} {xs : List Value} {y : Value} {w w' : World} (h : Gr w w') : NG B A n c xs y w w' := ⟨Tn.of_gr h, fun k => Gr.own h k, fun _ _ k => Gr.own h k⟩
theorem NG.refl (B : Nat) (A : Option Addr) (n c : Nat) (xs : List Value) (y : Value) (w : World) : NG B A n c xs y w w := NG.of_gr (Gr.refl w)
theorem NG.trans {B : Nat} {A : Option Addr} {n c : Nat} {xs : List Value} {y : Value} {a b d : World} (h : NG B A n c xs y a b) (k : NG B A n c xs y b d) : NG B A n c xs y a d := ⟨h.tn.trans k.tn, fun q => k.old (h.old q), fun A2 d q => k.new A2 d (h.new A2 d q)⟩
section
variable {P : Program} {ops : Array Oper} {Q : Exit → Act → World → Prop} {L : List (Value → World → Prop)} {i : Nat} {o : Oper} {a : Act} {w : World} {G : World → World → Prop}
theorem gstep (hG : ∀ w', Gr w w' → G w w') (h : Step P ops Q L i o a w) : wpOp P ops Q i (fun a' w' => ∃ v, a' = a.put o.dst v ∧ (L.getD i AnyV) v w' ∧ G w w') a w := by
  unfold Step at h
  exact wpOp_mono (fun a' w' ⟨v, h1, h2, h3⟩ => ⟨v, h1, h2, hG _ h3⟩) h
theorem g_valW (hi : ops[i]? = some o) (hg : o.guard = none) (v : Value) (w' : World) (hrun : (execOp a.eval o).run P w = .ok (.value v) w') (hφ : (L.getD i AnyV) v w') (hG : G w w') : wpOp P ops Q i (fun a' w' => ∃ v, a' = a.put o.dst v ∧ (L.getD i AnyV) v w' ∧ G w w') a w := by
  have hw : Region.wanted o (yielded ops a.tmps) = true := by simp [Region.wanted, hg]
  unfold wpOp
  simp only [hi, hw, if_true, Oper.wp, hrun, Oper.upon]
  exact .inl ⟨v, rfl, hφ, hG⟩
end
/-- A slice of one element that was just built. -/
def One1 (S : Nat) (t : TypeId) (cs : List Value) (v : Value) (w : World) : Prop := ∃ g, v = .slice (some ⟨g, 0, none⟩) 1 1 ∧ S ≤ g ∧ Arr w g t cs
/-- The longer row of names. -/
def New1 (B n : Nat) (xs : List Value) (v : Value) (w : World) : Prop := ∃ A c, v = .slice A (n + 1) c ∧ w.ownsRow B 9 1 (.slice A (n + 1) c) (n + 1) xs
theorem One1.ng {S B : Nat} {t : TypeId} {cs : List Value} {v : Value} {A : Option Addr} {n c : Nat} {xs : List Value} {y : Value} {w w' : World} (h : One1 S t cs v w) (hA : ∀ ad, A = some ad → ad.block < S) (hG : NG B A n c xs y w w') : One1 S t cs v w' := by
  obtain ⟨g, e, hs, ha⟩ := h
  exact ⟨g, e, hs, ha.tn hG.tn fun C f => blkT_far (fun ad h => by have := hA ad h; omega) _⟩
theorem New1.ng {B : Nat} {v : Value} {A : Option Addr} {n c : Nat} {xs : List Value} {y : Value} {w w' : World} (h : New1 B n (xs ++ [y]) v w) (hG : NG B A n c xs y w w') : New1 B n (xs ++ [y]) v w' := by
  obtain ⟨A2, d, e, ho⟩ := h
  exact ⟨A2, d, e, hG.new A2 d ho⟩
theorem idxOf_inj {l : List (List UInt8)} {a b : List UInt8} (ha : a ∈ l) (h : l.idxOf a = l.idxOf b) : a = b := by
  have h1 : l.idxOf a < l.length := List.idxOf_lt_length_of_mem ha
  have h2 := List.getElem_idxOf h1
  have h3 : l.idxOf b < l.length := h ▸ h1
  have h4 := List.getElem_idxOf h3
  rw [← h2, ← h4]
  congr 1
theorem blind_eq {v : Vt} (hi : v.ideal = true) (hl : v.names.length ≤ 1000) {a b : List UInt8} (ha : a ∈ v.names) (hb : b ∈ v.names) (h : v.blind a = v.blind b) : a = b := by
  unfold Vt.blind Vt.place at h
  rw [hi, if_pos rfl, if_pos rfl] at h
  have h1 := List.idxOf_lt_length_of_mem ha
  have h2 := List.idxOf_lt_length_of_mem hb
  have h3 := drawL_inj (by omega) (by omega) h
  exact idxOf_inj ha (by omega)
theorem blind_named {v : Vt} {a nm : List UInt8} (ha : a ∈ v.names) : (v.named nm).blind a = v.blind a := by
  unfold Vt.named
  split
  · unfold Vt.blind Vt.place
    simp only
    rw [List.idxOf_append, if_pos ha]
  · rfl
theorem mem_named {v : Vt} (hi : v.ideal = true) (nm : List UInt8) : nm ∈ (v.named nm).names := by
  unfold Vt.named
  split
  · simp
  · rename_i h
    by_cases hm : nm ∈ v.names
    · exact hm
    · exact absurd ⟨hi, hm⟩ h
theorem mem_named_of {v : Vt} {a : List UInt8} (nm : List UInt8) (ha : a ∈ v.names) : a ∈ (v.named nm).names := by
  unfold Vt.named
  split
  · simp [ha]
  · exact ha
/-- What may turn while names are asked for: maps, rows of strings, rows of blinds. -/
def rowsT : Nat → Obj → Bool := fun _ o => match o with | .cells _ t _ => t == 9 || t == 31 | _ => false
def namT : Nat → Obj → Bool := fun _ o => match o with | .map _ _ => true | .cells _ t _ => t == 9 || t == 31 | _ => false
def blT : Nat → Obj → Bool := fun _ o => match o with | .cells _ t _ => t == 31 | _ => false
theorem namT_own {b1 b2 b3 : Nat} : ∀ k o, ownV b1 b2 b3 k o = true → namT k o = true := by
  intro k o h
  cases o <;> simp_all [ownV, namT]
theorem rowsT_nam : ∀ k o, rowsT k o = true → namT k o = true := by
  intro k o h
  cases o <;> simp_all [rowsT, namT]
theorem blkT_rows {A : Option Addr} : ∀ k o, blkT A 9 k o = true → rowsT k o = true := by
  intro k o h
  simp only [blkT, Bool.and_eq_true] at h
  obtain ⟨_, h⟩ := h
  cases o <;> simp_all [rowsT]
theorem blT_rows : ∀ k o, blT k o = true → rowsT k o = true := by
  intro k o h
  cases o <;> simp_all [blT, rowsT]
theorem namT2 : ∀ k C f, namT k (.cells C 5 f) = false := fun _ _ _ => rfl
/-- Where the names stand. -/
def NamesR (B g b1 b2 b3 n : Nat) (w0 : World) (nv bv i : Value) (w : World) : Prop :=
  ∃ (k : Nat) (v : Vt) (Ns : List (List UInt8)) (N : Nat) (A : Option Addr) (c : Nat) (D : Option Addr) (d : Nat), k ≤ n ∧ k ≤ 14 ∧ N ≤ k ∧ Ns.length = N ∧ i = .int .i64 (k : Int) ∧ nv = .slice A N c ∧ bv = .slice D N d ∧ VIs namT B w g b1 b2 b3 v ∧ v.ideal = true ∧ Few v k ∧
    (∀ x ∈ Ns, x ∈ v.names) ∧ w.ownsRow B 9 1 (.slice A N c) N (Ns.map strV) ∧ w.ownsRow B 31 32 (.slice D N d) N (Ns.flatMap fun x => u8s (v.blind x)) ∧ Below B w0 w
end Go.Proofs.YtnmhfomnlnlflaaDoor
