/- append to a row of one's own, its block's kind kept; parts of strings compared. No condition. -/
import Derived.Test.YtmcnnjcbgbdeeaaDoorTurnM
import Derived.Laws.AppendOwn
import Derived.Laws.StructEq
namespace Go.Proofs.YtmcnnjcbgbdeeaaDoor
open Go.RowKit
section
variable {P : Program} {w : World}
theorem run_append_tn (base : Nat) (t ty e : TypeId) (i : TypeInfo) (z : Value) (size bytes : Nat) (ht : P.underlying t = some (.slice e)) (hi : P.info? e = some i) (hz : i.zero = some z)
    (hsize : i.size = size) (hby : i.bytes = bytes) (hzs : z.cells.size = size) (hsz : 0 < size) (A : Option Addr) (n c : Nat) (xs : List Value) (hown : w.ownsRow base e size (.slice A n c) n xs)
    (a : Addr) (m c2 : Nat) (news : List Value) (hl : news.length = m * size) (hnews : ∀ j u, news[j]? = some u → w.cell? (a.add j) = some u) (h1 : ∀ u ∈ news, u.oneCell' = true)
    (h63 : n + m ≤ maxLen) (hbytes : (n + m) * bytes ≤ 140737488355328) (hbase : base ≤ w.heap.size) :
    ∃ A' c' w', (Builtin.append_ #[t, t] ty #[.slice A n c, .slice (some a) m c2]).run P w = .ok (.slice A' (n + m) c') w' ∧ w'.ownsRow base e size (.slice A' (n + m) c') (n + m) (xs ++ news) ∧
      w.grownBy w' (Value.ownBlock (.slice A n c)) ∧ ∀ τ : Nat → Obj → Bool, (∀ k C f, τ k (.cells C e f) = true) → Tn τ base w w' := by
  obtain ⟨v', w', hr, h2, h3, _⟩ := run_append_own (P := P) w base t ty e i z size bytes ht hi hz hsize hby hzs hsz _ n xs hown a m c2 news hl hnews h1 h63 hbytes hbase
  have hv : ∃ A' c', v' = .slice A' (n + m) c' := by
    rcases h2.2 with ⟨e1, e2⟩ | ⟨g', cap', _, e1, _⟩
    · exact ⟨none, 0, by rw [e1, e2]⟩
    · exact ⟨_, _, e1⟩
  obtain ⟨A', c', rfl⟩ := hv
  refine ⟨A', c', w', hr, h2, h3, fun τ hτ => ?_⟩
  rcases hown.2 with ⟨e1, e2⟩ | ⟨g, cap, cur, e1, hbg, hg, hnc, hcm, hcs, htake⟩
  · injection e1 with e1 e3 e4
    subst e1
    exact Tn.of_gr ⟨h3.os, h3.tape, h3.output, h3.size, fun k hk => h3.block k hk (by simp [Value.ownBlock])⟩
  · injection e1 with e1 e3 e4
    subst e1 e4
    have hglt : g < w.heap.size := (Array.getElem?_eq_some_iff.1 hg).1
    by_cases hroom : n + m ≤ c
    · subst hsize
      have hfit : n * i.size + news.length ≤ cur.size := by rw [hl, hcs, ← Nat.add_mul]; exact Nat.mul_le_mul_right _ hroom
      have hr2 := run_append_room (P := P) w t ty e i ht hi g n c cur hg a m c2 news hl hnews h1 hroom hfit
      rw [hr] at hr2
      injection hr2 with _ hw
      subst hw
      refine ⟨rfl, rfl, rfl, h3.size, fun k hk ho => ?_, fun k hk => ?_⟩
      · refine setRow_other w g k _ fun hkg => ?_
        subst hkg
        rcases ho with ho | ho
        · omega
        · rw [hg] at ho
          have := hτ k cur (0, 0)
          simp [Turns, this] at ho
      · by_cases hkg : k = g
        · subst hkg
          rw [setRow_heap w k cur _ e _ hg, hg]
          simp [Turns, hτ]
        · rw [setRow_other w g k _ hkg]
    · have holds : ∀ j u, xs[j]? = some u → w.cell? ((⟨g, 0, none⟩ : Addr).add j) = some u := hown.cells (g := g) rfl
      have hr2 := run_append_grow (P := P) w t ty e i z ht hi hz ⟨g, 0, none⟩ n c xs (by rw [hown.1, hsize]) holds a m c2 news (by rw [hl, hsize]) hnews (by omega) (by have := h63; unfold maxLen at this; omega) (growslice_fits (by omega) (by rw [hby]; exact hbytes))
      rw [hr] at hr2
      injection hr2 with _ hw
      subst hw
      exact Tn.of_gr (Gr.trans (Gr.drew w) (Gr.alloc _ _))
theorem wpList_appT {ops : Array Oper} {rest : List Oper} {o : Oper} {x : Act} {Q : Exit → Act → World → Prop} (hgd : o.guard = none) (s y : Operand) (t : TypeId)
    (ho : o.op = .call { callee := .builtin .append, args := #[s, y], argTypes := #[t, t] })
    (base : Nat) (e : TypeId) (i : TypeInfo) (z : Value) (size bytes : Nat) (ht : P.underlying t = some (.slice e)) (hi : P.info? e = some i) (hz : i.zero = some z)
    (hsize : i.size = size) (hby : i.bytes = bytes) (hzs : z.cells.size = size) (hsz : 0 < size) {A : Option Addr} {n c : Nat} {xs : List Value} (hs : x.eval s = .slice A n c) (hown : w.ownsRow base e size (.slice A n c) n xs)
    (a : Addr) (m c2 : Nat) (news : List Value) (hx : x.eval y = .slice (some a) m c2) (hl : news.length = m * size) (hnews : ∀ j u, news[j]? = some u → w.cell? (a.add j) = some u) (h1 : ∀ u ∈ news, u.oneCell' = true)
    (h63 : n + m ≤ maxLen) (hbytes : (n + m) * bytes ≤ 140737488355328) (hbase : base ≤ w.heap.size)
    (hK : ∀ A' c' w', w'.ownsRow base e size (.slice A' (n + m) c') (n + m) (xs ++ news) → w.grownBy w' (Value.ownBlock (.slice A n c)) →
      (∀ τ : Nat → Obj → Bool, (∀ k C f, τ k (.cells C e f) = true) → Tn τ base w w') → wpList P ops Q rest (x.put o.dst (.slice A' (n + m) c')) w') : wpList P ops Q (o :: rest) x w := by
  obtain ⟨A', c', w', hr, h2, h3, h4⟩ := run_append_tn (P := P) base t o.type e i z size bytes ht hi hz hsize hby hzs hsz A n c xs hown a m c2 news hl hnews h1 h63 hbytes hbase
  refine wpList_plain hgd fun _ hKK => ?_
  unfold Oper.wp execOp
  simp only [ho, resolve, invoke, builtin, Sem.run_bind, Sem.run_pure, Result.andThen_ok, List.map_toArray, List.map_cons, List.map_nil, hs, hx, hr]
  exact hKK _ _ (hK A' c' w' h2 h3 h4)
theorem str_same {s t : ByteArray} {a b : List UInt8} (hs : s = ⟨a.toArray⟩) (ht : t = ⟨b.toArray⟩) (h : a = b) : (s == t) = true := by
  subst hs ht h
  show (a.toArray == a.toArray) = true
  exact beq_self_eq_true _
theorem str_sameL {s t : ByteArray} {a b : List UInt8} (hs : s = ⟨a.toArray⟩) (ht : t = ⟨b.toArray⟩) (h : a = b) : (s.toList == t.toList) = true := by
  rw [← beq_toListBytes]
  exact str_same hs ht h
theorem str_other {s t : ByteArray} {a b : List UInt8} (hs : s = ⟨a.toArray⟩) (ht : t = ⟨b.toArray⟩) (h : a ≠ b) : (s == t) = false := by
  subst hs ht
  show (a.toArray == b.toArray) = false
  simpa using h
theorem str_otherL {s t : ByteArray} {a b : List UInt8} (hs : s = ⟨a.toArray⟩) (ht : t = ⟨b.toArray⟩) (h : a ≠ b) : (s.toList == t.toList) = false := by
  rw [← beq_toListBytes]
  exact str_other hs ht h
end
end Go.Proofs.YtmcnnjcbgbdeeaaDoor
