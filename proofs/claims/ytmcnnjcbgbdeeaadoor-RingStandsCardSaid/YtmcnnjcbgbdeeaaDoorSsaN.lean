/- Drawn regions: operations that a guard leaves out, and operations whose outcome stays open. No condition. -/
import Derived.Test.YtmcnnjcbgbdeeaaDoorKitA
import Derived.Stop.BytesEq
import Derived.Laws.StructEq
import Derived.Laws.Small
namespace Go.Proofs.YtmcnnjcbgbdeeaaDoor
open Go.RowKit
section
variable {P : Program} {ops : Array Oper} {Q : Exit → Act → World → Prop} {L : List (Value → World → Prop)} {i : Nat} {o : Oper} {a a0 : Act} {w : World}
theorem notG (hF : Finds ops (fun i => L.getD i AnyV) a0 i o a w) (g d : Nat) (b : Bool) (v : Value) (hg : o.guard = some (g, b)) (hb : depB ops o g d = true) (hφ : L.getD g AnyV = IsV v) (hne : v ≠ .bool b) : ¬ Wanted ops o a := by
  unfold depB at hb
  simp only [Bool.and_eq_true] at hb
  obtain ⟨⟨h1, h2⟩, h3⟩ := hb
  have h1 : (ops[g]?).bind (fun o : Oper => o.dst) = some d := by simpa using h1
  cases hk' : ops[g]? with
  | none => rw [hk'] at h1; cases h1
  | some ok =>
    rw [hk'] at h1
    obtain ⟨u, hv, hf⟩ := hF.dep g ok d hk' h1 (by simpa using h2) h3
    simp only [hφ] at hf
    have hf : u = v := hf
    subst hf
    have h1' : ok.dst = some d := h1
    intro hw
    simp only [Wanted, Region.wanted, hg, yielded, hk', h1', Option.bind_some, hv] at hw
    cases u <;> simp_all
theorem notN (hF : Finds ops (fun i => L.getD i AnyV) a0 i o a w) (g d : Nat) (b : Bool) (hg : o.guard = some (g, b)) (hb : depB ops o g d = true) (hφ : L.getD g AnyV = IsV (.bool (!b))) : ¬ Wanted ops o a :=
  notG hF g d b _ hg hb hφ (by cases b <;> simp)
theorem notU (hF : Finds ops (fun i => L.getD i AnyV) a0 i o a w) (g d : Nat) (b : Bool) (hg : o.guard = some (g, b)) (hb : depB ops o g d = true) (hφ : L.getD g AnyV = IsV undef) : ¬ Wanted ops o a :=
  notG hF g d b _ hg hb hφ (by simp [undef])
theorem s_not (hi : ops[i]? = some o) (hw : ¬ Wanted ops o a) (hφ : L.getD i AnyV = IsV undef) : Step P ops Q L i o a w := by
  unfold Step wpOp
  unfold Wanted at hw
  simp only [hi, hw]
  exact ⟨undef, rfl, by rw [hφ]; rfl, Gr.refl _⟩
end
section
variable {P : Program} {ev : Operand → Value} {d : Option Tmp} {t T U S e : TypeId} {p : String} {af : Array Edge} {gd : Option (Nat × Bool)} {w : World} {x y : Operand}
theorem run_loadArr {g : Nat} {cs : List Value} (hT : ∃ n e, P.underlying T = some (.array n e)) (hi : (P.info? T).map (·.size) = some cs.length) (h1 : ev x = .pointer (some ⟨g, 0, none⟩)) (h : Arr w g t cs) :
    (execOp ev ⟨d, .load T x, t, p, af, gd⟩).run P w = .ok (.value (.agg cs.toArray)) w := by
  obtain ⟨n, e, hT⟩ := hT
  have h2 := h.loadAt hT hi
  simp only [execOp, h1, Sem.run_bind, h2, Result.andThen_ok, Sem.run_pure]
theorem run_loadMid {g off : Nat} {cs : List Value} (hT : ∃ n e, P.underlying T = some (.array n e)) (hi : (P.info? T).map (·.size) = some cs.length) (h1 : ev x = .pointer (some ⟨g, off, none⟩)) (h : w.rangeAt g off cs) :
    (execOp ev ⟨d, .load T x, t, p, af, gd⟩).run P w = .ok (.value (.agg cs.toArray)) w := by
  obtain ⟨n, e, hT⟩ := hT
  have h2 := run_loadAt_mid (P := P) w g off T cs _ h hT rfl hi
  simp only [execOp, h1, Sem.run_bind, h2, Result.andThen_ok, Sem.run_pure]
theorem run_load1B {ad : Addr} {v : Value} (hT : P.underlying T = some .bool ∨ (∃ k e, P.underlying T = some (.map k e)) ∨ P.underlying T = some .string ∨ (∃ e, P.underlying T = some (.slice e)) ∨ ∃ e, P.underlying T = some (.pointer e)) (h1 : ev x = .pointer (some ad)) (hc : w.cell? ad = some v) :
    (execOp ev ⟨d, .load T x, t, p, af, gd⟩).run P w = .ok (.value v) w := by
  have ha : (isAgg T).run P w = .ok false w := by
    rcases hT with hT | ⟨k, e, hT⟩ | hT | ⟨e, hT⟩ | ⟨e, hT⟩ <;> simp [isAgg, run_underlying hT]
  simp only [execOp, h1]
  go_simp
theorem run_eqBy {n : Nat} (hm : P.eqGuardType P.depth T = false) (ht : P.underlying T = some (.array n e)) (he : P.underlying e = some (.int .u8)) (hsz : ∀ w, (sizeOf e).run P w = .ok 1 w) {D E : List UInt8} (hD : D.length = n) (hE : E.length = n) (h1 : ev x = .agg (u8s D).toArray) (h2 : ev y = .agg (u8s E).toArray) :
    (execOp ev ⟨d, .binOp .eql T x y U, t, p, af, gd⟩).run P w = .ok (.value (.bool (D == E))) w := by
  have h3 : (Op.equalIn 10000 T (.agg (u8s D).toArray) (.agg (u8s E).toArray)).run P w = .ok (D == E) w := run_equalIn_bytes (P := P) w 9998 T e n ht he hsz D E hD hE
  simp only [execOp, h1, h2]
  have hg : (eqGuard .eql T x y (.agg (u8s D).toArray) (.agg (u8s E).toArray)).run P w = .ok () w := run_eqGuard_agg (P := P) w _ T x y _ _ hm
  have h4 := run_eql_struct (P := P) w T (u8s D).toArray (u8s E).toArray
  rw [h3] at h4
  go_simp
theorem run_neBy {n : Nat} (hm : P.eqGuardType P.depth T = false) (ht : P.underlying T = some (.array n e)) (he : P.underlying e = some (.int .u8)) (hsz : ∀ w, (sizeOf e).run P w = .ok 1 w) {D E : List UInt8} (hD : D.length = n) (hE : E.length = n) (h1 : ev x = .agg (u8s D).toArray) (h2 : ev y = .agg (u8s E).toArray) :
    (execOp ev ⟨d, .binOp .neq T x y U, t, p, af, gd⟩).run P w = .ok (.value (.bool (!(D == E)))) w := by
  have h3 : (Op.equalIn 10000 T (.agg (u8s D).toArray) (.agg (u8s E).toArray)).run P w = .ok (D == E) w := run_equalIn_bytes (P := P) w 9998 T e n ht he hsz D E hD hE
  simp only [execOp, h1, h2]
  have hg : (eqGuard .neq T x y (.agg (u8s D).toArray) (.agg (u8s E).toArray)).run P w = .ok () w := run_eqGuard_agg (P := P) w _ T x y _ _ hm
  have h4 := run_neq_struct (P := P) w T (u8s D).toArray (u8s E).toArray
  rw [h3] at h4
  go_simp
theorem run_eqT {b c : Bool} (hT : P.underlying T = some .bool) (h1 : ev x = .bool b) (h2 : ev y = .bool c) : (execOp ev ⟨d, .binOp .eql T x y U, t, p, af, gd⟩).run P w = .ok (.value (.bool (b == c))) w := by
  simp only [execOp, h1, h2]
  have h4 := run_eql_bool (P := P) w T b c hT
  go_simp
theorem run_neT {b c : Bool} (hT : P.underlying T = some .bool) (h1 : ev x = .bool b) (h2 : ev y = .bool c) : (execOp ev ⟨d, .binOp .neq T x y U, t, p, af, gd⟩).run P w = .ok (.value (.bool (!(b == c)))) w := by
  simp only [execOp, h1, h2]
  have h4 := run_neq_bool (P := P) w T b c hT
  go_simp
theorem run_eqI {k : IntKind} {b c : Int} (h1 : ev x = .int k b) (h2 : ev y = .int k c) : (execOp ev ⟨d, .binOp .eql T x y U, t, p, af, gd⟩).run P w = .ok (.value (.bool (b == c))) w := by
  simp only [execOp, h1, h2]
  go_simp
theorem run_neIk {k : IntKind} {b c : Int} (h1 : ev x = .int k b) (h2 : ev y = .int k c) : (execOp ev ⟨d, .binOp .neq T x y U, t, p, af, gd⟩).run P w = .ok (.value (.bool (!(b == c)))) w := by
  simp only [execOp, h1, h2]
  go_simp
  simp only [bne]
theorem run_notT {b : Bool} (h1 : ev x = .bool b) : (execOp ev ⟨d, .unOp .not T x, t, p, af, gd⟩).run P w = .ok (.value (.bool (!b))) w := by
  simp only [execOp, h1]
  go_simp
end
section
variable {P : Program} {ops : Array Oper} {Q : Exit → Act → World → Prop} {rest : List Oper} {o : Oper} {a : Act} {w : World}
/-- A value, behind a guard that holds. -/
theorem wpList_valW (hw : Region.wanted o (yielded ops a.tmps) = true) (v : Value) (w' : World) (hrun : (execOp a.eval o).run P w = .ok (.value v) w') (h : wpList P ops Q rest (a.put o.dst v) w') : wpList P ops Q (o :: rest) a w := by
  refine wpList_step fun K hK => ?_
  rw [if_pos hw]
  unfold Oper.wp
  rw [hrun]
  exact hK _ _ h
/-- A whole array is loaded, behind a guard that holds. -/
theorem wpList_loadW (hw : Region.wanted o (yielded ops a.tmps) = true) (ty : TypeId) (x : Operand) (ho : o.op = .load ty x) {g : Nat} {t : TypeId} {cs : List Value} (hx : a.eval x = .pointer (some ⟨g, 0, none⟩)) (hA : Arr w g t cs)
    (hT : ∃ n e, P.underlying ty = some (.array n e)) (hi : (P.info? ty).map (·.size) = some cs.length) (h : wpList P ops Q rest (a.put o.dst (.agg cs.toArray)) w) : wpList P ops Q (o :: rest) a w := by
  refine wpList_valW hw _ w ?_ h
  obtain ⟨n, e, hT⟩ := hT
  simp only [execOp, ho, hx, Sem.run_bind, hA.loadAt hT hi, Result.andThen_ok, Sem.run_pure]
end
theorem s_pickF {P : Program} {ops : Array Oper} {Q : Exit → Act → World → Prop} {L : List (Value → World → Prop)} {i : Nat} {o : Oper} {a : Act} {w : World} (hi : ops[i]? = some o) (hw : Wanted ops o a) (c x y : Operand) (ho : o.op = .pick c x y) (hc : a.eval c = .bool false) (v : Value) (e : a.eval y = v) (hφ : L.getD i AnyV = IsV v) : Step P ops Q L i o a w := by
  refine s_is hi hw v hφ ?_
  simp [execOp, ho, hc, e, asBool]
end Go.Proofs.YtmcnnjcbgbdeeaaDoor
