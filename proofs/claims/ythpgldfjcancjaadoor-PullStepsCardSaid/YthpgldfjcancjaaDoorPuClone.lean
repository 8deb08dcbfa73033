/- 'append([]T{}, x...)': a row of one's own, whatever x is, nil too. No condition. -/
import Derived.Test.YthpgldfjcancjaaDoorAppE
import Derived.Deep.Upon
namespace Go.Proofs.YthpgldfjcancjaaDoor
open Go.RowKit
section
variable {P : Program} {w : World}
theorem run_clone (base : Nat) (t ty e : TypeId) (i : TypeInfo) (z : Value) (size bytes : Nat) (ht : P.underlying t = some (.slice e)) (hi : P.info? e = some i) (hz : i.zero = some z)
    (hsize : i.size = size) (hby : i.bytes = bytes) (hzs : z.cells.size = size) (hsz : 0 < size) (g : Nat) (hown : w.ownsRow base e size (.slice (some ⟨g, 0, none⟩) 0 0) 0 [])
    (A : Option Addr) (m c2 : Nat) (news : List Value) (hl : news.length = m * size) (hnews : ∀ j u, news[j]? = some u → ∃ ad, A = some ad ∧ w.cell? (ad.add j) = some u) (h1 : ∀ u ∈ news, u.oneCell' = true)
    (h63 : m ≤ maxLen) (hbytes : m * bytes ≤ 140737488355328) (hbase : base ≤ w.heap.size) :
    ∃ A' c' w', (Builtin.append_ #[t, t] ty #[.slice (some ⟨g, 0, none⟩) 0 0, .slice A m c2]).run P w = .ok (.slice A' m c') w' ∧ w'.ownsRow base e size (.slice A' m c') m news ∧ Gr w w' := by
  cases A with
  | some a => exact run_append_fresh base t ty e i z size bytes ht hi hz hsize hby hzs hsz g hown a m c2 news hl (fun j u h => by
      obtain ⟨ad, ha, hc⟩ := hnews j u h
      injection ha with ha
      subst ha
      exact hc) h1 h63 hbytes hbase
  | none =>
    have hm : m = 0 := by
      rcases Nat.eq_zero_or_pos m with h | h
      · exact h
      · have hp : 0 < news.length := by rw [hl]; exact Nat.mul_pos h hsz
        obtain ⟨_, ha, _⟩ := hnews 0 news[0] (List.getElem?_eq_getElem hp)
        cases ha
    subst hm
    have hn : news = [] := List.length_eq_zero_iff.1 (by rw [hl, Nat.zero_mul])
    subst hn
    exact ⟨_, _, w, run_append_nothing w t t ty e i ht hi _ 0 0 (Nat.le_refl _) _ (Src.ofNil w ht c2), hown, Gr.refl _⟩
theorem wpList_clone {ops : Array Oper} {rest : List Oper} {o : Oper} {x : Act} {Q : Exit → Act → World → Prop} (hgd : o.guard = none) (s y : Operand) (t : TypeId)
    (ho : o.op = .call { callee := .builtin .append, args := #[s, y], argTypes := #[t, t] })
    (base : Nat) (e : TypeId) (i : TypeInfo) (z : Value) (size bytes : Nat) (ht : P.underlying t = some (.slice e)) (hi : P.info? e = some i) (hz : i.zero = some z)
    (hsize : i.size = size) (hby : i.bytes = bytes) (hzs : z.cells.size = size) (hsz : 0 < size) {g : Nat} (hs : x.eval s = .slice (some ⟨g, 0, none⟩) 0 0) (hown : w.ownsRow base e size (.slice (some ⟨g, 0, none⟩) 0 0) 0 [])
    (A : Option Addr) (m c2 : Nat) (news : List Value) (hx : x.eval y = .slice A m c2) (hl : news.length = m * size) (hnews : ∀ j u, news[j]? = some u → ∃ ad, A = some ad ∧ w.cell? (ad.add j) = some u) (h1 : ∀ u ∈ news, u.oneCell' = true)
    (h63 : m ≤ maxLen) (hbytes : m * bytes ≤ 140737488355328) (hbase : base ≤ w.heap.size)
    (hK : ∀ A' c' w', w'.ownsRow base e size (.slice A' m c') m news → Gr w w' → wpList P ops Q rest (x.put o.dst (.slice A' m c')) w') : wpList P ops Q (o :: rest) x w := by
  obtain ⟨A', c', w', hr, h2, h3⟩ := run_clone (P := P) base t o.type e i z size bytes ht hi hz hsize hby hzs hsz g hown A m c2 news hl hnews h1 h63 hbytes hbase
  refine wpList_plain hgd fun _ hKK => ?_
  unfold Oper.wp execOp
  simp only [ho, resolve, invoke, builtin, Sem.run_bind, Sem.run_pure, Result.andThen_ok, List.map_toArray, List.map_cons, List.map_nil, hs, hx, hr]
  exact hKK _ _ (hK A' c' w' h2 h3)
end
theorem own_emptyE {w : World} {B : Nat} (e : TypeId) (size : Nat) (hB : B ≤ w.heap.size) : (w.alloc (.cells #[] e)).ownsRow B e size (.slice (some ⟨w.heap.size, 0, none⟩) 0 0) 0 [] :=
  ⟨by simp, .inr ⟨w.heap.size, 0, #[], rfl, hB, heap_alloc_new w _, by omega, by unfold maxLen; omega, by simp, by simp⟩⟩
theorem own_cells {w : World} {B : Nat} {e : TypeId} {size : Nat} {A : Option Addr} {n c : Nat} {xs : List Value} (h : w.ownsRow B e size (.slice A n c) n xs) : ∀ j u, xs[j]? = some u → ∃ ad, A = some ad ∧ w.cell? (ad.add j) = some u := by
  intro j u hu
  rcases h.2 with ⟨e1, e2⟩ | ⟨g, cap, cur, e1, _⟩
  · have hl := h.1
    rw [e2, Nat.zero_mul] at hl
    rw [List.length_eq_zero_iff.1 hl] at hu
    simp at hu
  · injection e1 with e1 _ _
    subst e1
    exact ⟨_, rfl, h.cells (g := g) rfl j u hu⟩
end Go.Proofs.YthpgldfjcancjaaDoor
