/- Two appends of bytes in one statement: what may turn between. The names of a leaf, and its digest. No condition. -/
import Derived.Test.YthpgldfjcancjaaDoorMkKeys
import Derived.Test.YthpgldfjcancjaaDoorMkPl
import Derived.Test.YthpgldfjcancjaaDoorKitM
namespace Go.Proofs.YthpgldfjcancjaaDoor
open Go.RowKit
/-- A row of bytes of one's own that grows by ys: its old part stays, and the longer one too. -/
structure NB (B : Nat) (A : Option Addr) (n c m : Nat) (xs ys : List Value) (w w' : World) : Prop where
  tn : Tn (blkT A 5) B w w'
  old : w.ownsRow B 5 1 (.slice A n c) n xs → w'.ownsRow B 5 1 (.slice A n c) n xs
  new : ∀ A2 d, w.ownsRow B 5 1 (.slice A2 (n + m) d) (n + m) (xs ++ ys) → w'.ownsRow B 5 1 (.slice A2 (n + m) d) (n + m) (xs ++ ys)
section
variable {B : Nat} {A : Option Addr} {n c m : Nat} {xs ys : List Value} {w w' : World}
theorem NB.of_gr (h : Gr w w') : NB B A n c m xs ys w w' := ⟨Tn.of_gr h, fun k => Gr.own h k, fun _ _ k => Gr.own h k⟩
theorem NB.refl (w : World) : NB B A n c m xs ys w w := NB.of_gr (Gr.refl w)
theorem NB.trans {a b d : World} (h : NB B A n c m xs ys a b) (k : NB B A n c m xs ys b d) : NB B A n c m xs ys a d := ⟨h.tn.trans k.tn, fun q => k.old (h.old q), fun A2 d q => k.new A2 d (h.new A2 d q)⟩
end
section
variable {P : Program} {ops : Array Oper} {Q : Exit → Act → World → Prop} {L : List (Value → World → Prop)} {i : Nat} {o : Oper} {a : Act} {w : World} {G : World → World → Prop}
theorem gstepB (hG : ∀ w', Gr w w' → G w w') (h : Step P ops Q L i o a w) : wpOp P ops Q i (fun a' w' => ∃ v, a' = a.put o.dst v ∧ (L.getD i AnyV) v w' ∧ G w w') a w := by
  unfold Step at h
  exact wpOp_mono (fun a' w' ⟨v, h1, h2, h3⟩ => ⟨v, h1, h2, hG _ h3⟩) h
theorem g_valB (hi : ops[i]? = some o) (hg : o.guard = none) (v : Value) (w' : World) (hrun : (execOp a.eval o).run P w = .ok (.value v) w') (hφ : (L.getD i AnyV) v w') (hG : G w w') : wpOp P ops Q i (fun a' w' => ∃ v, a' = a.put o.dst v ∧ (L.getD i AnyV) v w' ∧ G w w') a w := by
  have hw : Region.wanted o (yielded ops a.tmps) = true := by simp [Region.wanted, hg]
  unfold wpOp
  simp only [hi, hw, if_true, Oper.wp, hrun, Oper.upon]
  exact .inl ⟨v, rfl, hφ, hG⟩
end
/-- The longer row of bytes. -/
def NewB (B n : Nat) (xs : List Value) (v : Value) (w : World) : Prop := ∃ A c, v = .slice A n c ∧ w.ownsRow B 5 1 (.slice A n c) n xs
theorem NewB.nb {B : Nat} {v : Value} {A : Option Addr} {n c m : Nat} {xs ys : List Value} {w w' : World} (h : NewB B (n + m) (xs ++ ys) v w) (hG : NB B A n c m xs ys w w') : NewB B (n + m) (xs ++ ys) v w' := by
  obtain ⟨A2, d, e, ho⟩ := h
  exact ⟨A2, d, e, hG.new A2 d ho⟩
theorem u8s_app (a b : List UInt8) : u8s (a ++ b) = u8s a ++ u8s b := by simp [u8s]
end Go.Proofs.YthpgldfjcancjaaDoor
