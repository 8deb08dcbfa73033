/- A region whose order is open: the laws for one operation, guarded or not. No condition. -/
import Derived.Test.YtbpgodkdbbiadaaDoorSsa
import Derived.Test.YtbpgodkdbbiadaaDoorConv
namespace Go.Proofs.YtbpgodkdbbiadaaDoor
open Go.RowKit

section
variable {P : Program} {ops : Array Oper} {Q : Exit → Act → World → Prop} {L : List (Value → World → Prop)} {i : Nat} {o : Oper} {a a0 : Act} {w : World}

def depB (ops : Array Oper) (o : Oper) (k d : Nat) : Bool := ((ops[k]?).bind (fun o : Oper => o.dst) == some d) && (o.looksAt ops).contains d && o.after.any (fun e => Region.binds .any e && e.on == k)
def oldB (ops : Array Oper) (i : Nat) (o : Oper) (d : Nat) : Bool := (o.looksAt ops).contains d && ((List.range ops.size).all fun k => (match ops[k]? with | some ok => ok.dst != some d | none => true) || k == i || !(o.after.any (fun e => Region.binds .any e && e.on == k)))
theorem Finds.dp {Φ : Nat → Value → World → Prop} (h : Finds ops Φ a0 i o a w) (k d : Nat) (hb : depB ops o k d = true) : ∃ v, a.eval (.tmp d) = v ∧ Φ k v w := by
  unfold depB at hb
  simp only [Bool.and_eq_true] at hb
  exact h.dep_ k d (by simpa using hb.1.1) hb.1.2 hb.2
theorem Finds.ol {Φ : Nat → Value → World → Prop} (h : Finds ops Φ a0 i o a w) (d : Nat) (hb : oldB ops i o d = true) : a.eval (.tmp d) = a0.eval (.tmp d) := by
  unfold oldB at hb
  simp only [Bool.and_eq_true] at hb
  exact h.old_ d hb.1 hb.2

/-- The operation is carried out. -/
def Wanted (ops : Array Oper) (o : Oper) (a : Act) : Prop := Region.wanted o (yielded ops a.tmps) = true
theorem wants0 (hg : o.guard = none) : Wanted ops o a := by simp [Wanted, Region.wanted, hg]
theorem wantsG (hF : Finds ops (fun i => L.getD i AnyV) a0 i o a w) (g d : Nat) (b : Bool) (hg : o.guard = some (g, b)) (hb : depB ops o g d = true) (hφ : L.getD g AnyV = IsV (.bool b)) : Wanted ops o a := by
  unfold depB at hb
  simp only [Bool.and_eq_true] at hb
  obtain ⟨⟨h1, h2⟩, h3⟩ := hb
  have h1 : (ops[g]?).bind (fun o : Oper => o.dst) = some d := by simpa using h1
  cases hk' : ops[g]? with
  | none => rw [hk'] at h1; cases h1
  | some ok =>
    rw [hk'] at h1
    obtain ⟨v, hv, hf⟩ := hF.dep g ok d hk' h1 (by simpa using h2) h3
    simp only [hφ] at hf
    have hf : v = .bool b := hf
    subst hf
    have hy : yielded ops a.tmps g = some b := by
      unfold yielded
      have h1' : ok.dst = some d := h1
      simp [hk', h1', hv]
    simp [Wanted, Region.wanted, hg, hy]

/-- What a step must show. -/
abbrev Step (P : Program) (ops : Array Oper) (Q : Exit → Act → World → Prop) (L : List (Value → World → Prop)) (i : Nat) (o : Oper) (a : Act) (w : World) : Prop :=
  wpOp P ops Q i (fun a' w' => ∃ v, a' = a.put o.dst v ∧ (L.getD i AnyV) v w' ∧ Gr w w') a w

theorem s_val (hi : ops[i]? = some o) (hw : Wanted ops o a) (φ : Value → World → Prop) (hφ : L.getD i AnyV = φ) (v : Value) (w' : World)
    (hrun : (execOp a.eval o).run P w = .ok (.value v) w') (h : φ v w') (hG : Gr w w') : Step P ops Q L i o a w := by
  subst hφ
  unfold Step wpOp
  unfold Wanted at hw
  simp only [hi, hw, if_true, Oper.wp, hrun, Oper.upon]
  exact .inl ⟨v, rfl, h, hG⟩
theorem s_is (hi : ops[i]? = some o) (hw : Wanted ops o a) (x : Value) (hφ : L.getD i AnyV = IsV x) (hrun : (execOp a.eval o).run P w = .ok (.value x) w) : Step P ops Q L i o a w :=
  s_val hi hw _ hφ x w hrun rfl (Gr.refl _)
theorem s_wp (hi : ops[i]? = some o) (hw : Wanted ops o a) (h : o.wp P a w (fun a' w' => ∃ v, a' = a.put o.dst v ∧ (L.getD i AnyV) v w' ∧ Gr w w') Q) : Step P ops Q L i o a w := by
  unfold Step wpOp
  unfold Wanted at hw
  simp only [hi, hw, if_true]
  exact .inl h
/-- What is moved is told as it was. -/
theorem s_same (hi : ops[i]? = some o) (hw : Wanted ops o a) (x : Operand) (ho : o.op = .assign x ∨ o.op = .move x) (h : ∃ v, a.eval x = v ∧ (L.getD i AnyV) v w) : Step P ops Q L i o a w := by
  obtain ⟨v, e1, h⟩ := h
  refine s_val hi hw _ rfl v w ?_ h (Gr.refl _)
  rcases ho with ho | ho <;> simp [execOp, ho, e1]
/-- What was there is moved. -/
theorem s_old (hi : ops[i]? = some o) (hw : Wanted ops o a) (x : Operand) (ho : o.op = .assign x ∨ o.op = .move x) (v : Value) (e : a.eval x = v) (hφ : L.getD i AnyV = IsV v) : Step P ops Q L i o a w :=
  s_same hi hw x ho ⟨v, e, by rw [hφ]; rfl⟩
theorem s_pick (hi : ops[i]? = some o) (hw : Wanted ops o a) (c x y : Operand) (ho : o.op = .pick c x y) (hc : a.eval c = .bool true) (v : Value) (e : a.eval x = v) (hφ : L.getD i AnyV = IsV v) : Step P ops Q L i o a w := by
  refine s_is hi hw v hφ ?_
  simp [execOp, ho, hc, e, asBool]
theorem s_str (hi : ops[i]? = some o) (hw : Wanted ops o a) (src dst e : TypeId) (x : Operand) (ho : o.op = .convert src dst x) (hs : P.underlying src = some (.slice e)) (he : P.underlying e = some (.int .u8)) (hd : P.underlying dst = some .string)
    (A : Option Addr) (n c : Nat) (l : List UInt8) (hx : a.eval x = .slice A n c) (hr : Rd w A n (u8s l)) (hφ : L.getD i AnyV = IsV (.string ⟨l.toArray⟩)) : Step P ops Q L i o a w := by
  refine s_is hi hw _ hφ ?_
  simp only [execOp, ho, hx, Sem.run_bind, run_str w hs he hd hr, Result.andThen_ok, Sem.run_pure]
/-- A slice of n bytes that reads l. -/
def RdV (n : Nat) (l : List UInt8) (v : Value) (w : World) : Prop := ∃ A c, v = .slice A n c ∧ n ≤ c ∧ Rd w A n (u8s l)
theorem RdV.gr {n : Nat} {l : List UInt8} {v : Value} {w w' : World} (h : RdV n l v w) (g : Gr w w') : RdV n l v w' := by
  obtain ⟨A, c, h1, h2, h3⟩ := h
  exact ⟨A, c, h1, h2, g.rd h3⟩
theorem RdV.own {base : Nat} {e : TypeId} {n : Nat} {l : List UInt8} {v : Value} {w : World} (h : w.ownsRow base e 1 v n (u8s l)) : RdV n l v w := by
  obtain ⟨A, c, rfl, hc, _⟩ := own_form h
  exact ⟨A, c, rfl, hc, Rd.of_own h⟩
theorem s_bytes (hi : ops[i]? = some o) (hw : Wanted ops o a) (src dst e : TypeId) (x : Operand) (ho : o.op = .convert src dst x) (hs : P.underlying src = some .string) (hd : P.underlying dst = some (.slice e)) (he : P.underlying e = some (.int .u8))
    (n : Nat) (l : List UInt8) (hn : l.length = n) (hx : a.eval x = .string ⟨l.toArray⟩) (hφ : L.getD i AnyV = RdV n l) : Step P ops Q L i o a w := by
  obtain ⟨cap, W, hW⟩ := conv_bytes' (P := P) src dst e l n hn hs hd he
  refine s_val hi hw _ hφ _ (W w) ?_ ⟨_, _, rfl, (hW w).le, (hW w).rd⟩ (hW w).below
  simp only [execOp, ho, hx, Sem.run_bind, (hW w).run, Result.andThen_ok, Sem.run_pure]
/-- A call. -/
theorem s_call (hi : ops[i]? = some o) (hw : Wanted ops o a) (φ : Value → World → Prop) (hφ : L.getD i AnyV = φ) (f : FuncId) (args : Array Value)
    (hrun : (execOp a.eval o).run P w = .ok (.enter f args) w) (hc : Calls P f args w fun e w' => ∃ v, e = .returned v ∧ φ v w' ∧ Gr w w') : Step P ops Q L i o a w := by
  subst hφ
  refine s_wp hi hw ?_
  simp only [Oper.wp, hrun, Oper.upon]
  refine hc.mono ?_
  rintro e w' ⟨v, rfl, h1, h2⟩
  exact ⟨v, rfl, h1, h2⟩
end
end Go.Proofs.YtbpgodkdbbiadaaDoor
