/- copy into an array that is there. No condition. -/
import Derived.Laws.CopyOwn
import Derived.Test.YtbpgodkdbbiadaaDoorCut2
namespace Go.Proofs.YtbpgodkdbbiadaaDoor
open Go.RowKit
section
variable {P : Program}
theorem wpList_copyA {ops : Array Oper} {rest : List Oper} {o : Oper} {a : Act} {Q : Exit → Act → World → Prop} {w : World} {t : TypeId} {g : Nat} {cs : List Value} (hA : Arr w g t cs) (hgd : o.guard = none) (d s : Operand) (dT sT : TypeId)
    (ho : o.op = .call { callee := .builtin .copy, args := #[d, s], argTypes := #[dT, sT] }) (elem : TypeId) (hu : P.underlying dT = some (.slice elem)) (hsz : (P.info? elem).map (·.size) = some 1)
    (off dLen dCap : Nat) (hd : a.eval d = .slice (some ⟨g, off, none⟩) dLen dCap) (A : Option Addr) (m c : Nat) (hs : a.eval s = .slice A m c) (news : List Value) (hr : Rd w A m news) (h1 : ∀ v ∈ news, v.oneCell' = true) (hm : m ≤ dLen) (hfit : off + dLen ≤ cs.length)
    (h : ∀ w2, Arr w2 g t (cs.take off ++ news ++ cs.drop (off + m)) → Below g w w2 → (∀ g' t' cs', g' ≠ g → Arr w g' t' cs' → Arr w2 g' t' cs') → wpList P ops Q rest (a.put o.dst (goInt m)) w2) : wpList P ops Q (o :: rest) a w := by
  have hl : news.length = m := hr.1
  refine wpList_plain hgd fun K hK => ?_
  unfold Oper.wp
  rcases Nat.eq_zero_or_pos m with h0 | h0
  · subst h0
    have hn : news = [] := List.eq_nil_of_length_eq_zero hl
    subst hn
    have hrun := run_copy_none (P := P) w dT sT o.type elem (some ⟨g, off, none⟩) A dLen dCap 0 c hu hsz (Nat.zero_min _)
    simp only [execOp, ho, resolve, invoke, builtin, Sem.run_bind, Sem.run_pure, Result.andThen_ok, List.map_toArray, List.map_cons, List.map_nil, hd, hs, hrun]
    exact hK _ _ (h w (by simpa using hA) (Below.refl _ _) (fun _ _ _ _ h => h))
  · obtain ⟨ad, _, rfl, _, _⟩ := hr.at_ h0
    have hrun := run_copy_cells (P := P) w dT sT o.type elem g off dLen dCap ad m c news hu hsz (by rw [hl]; exact (Nat.min_eq_left hm).symm)
      (fun j v hv => by obtain ⟨ad', e, hc⟩ := hr.2 j v hv; injection e with e; subst e; exact hc)
      (fun j hj => by rw [hA.cell (List.getElem?_eq_getElem (by omega : off + j < cs.length))]; rfl) (fun j _ => hA.frozen _) h1
    simp only [execOp, ho, resolve, invoke, builtin, Sem.run_bind, Sem.run_pure, Result.andThen_ok, List.map_toArray, List.map_cons, List.map_nil, hd, hs, hrun]
    rw [hl]
    refine hK _ _ (h _ ?_ (below_setCells (Nat.le_refl _) _ _ _) (fun g' t' cs' hg hA' => hA'.setCells_other hg _ _))
    have := Arr.setCells_from news off w cs hA (by omega)
    rwa [hl] at this
end
end Go.Proofs.YtbpgodkdbbiadaaDoor
