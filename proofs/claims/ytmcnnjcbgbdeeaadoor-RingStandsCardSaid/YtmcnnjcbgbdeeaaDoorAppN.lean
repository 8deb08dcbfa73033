/- append to a row of one's own inside a region that draws its order: what was there stays. No condition. -/
import Derived.Test.YtmcnnjcbgbdeeaaDoorAppT
import Derived.Test.YtmcnnjcbgbdeeaaDoorSsaG
import Derived.Test.YtmcnnjcbgbdeeaaDoorOwnT
namespace Go.Proofs.YtmcnnjcbgbdeeaaDoor
open Go.RowKit
/-- The block of a row may turn. -/
def blkT (A : Option Addr) (e : TypeId) : Nat → Obj → Bool := fun k o => (match A with | some ad => k == ad.block | none => false) && (match o with | .cells _ t _ => t == e | _ => false)
theorem blkT_other {A : Option Addr} {e t : TypeId} (h : (t == e) = false) (k : Nat) (C : Array Value) (f : Nat × Nat) : blkT A e k (.cells C t f) = false := by
  simp only [blkT, h, Bool.and_false]
theorem blkT_far {A : Option Addr} {e : TypeId} {k : Nat} (h : ∀ ad, A = some ad → ad.block ≠ k) (o : Obj) : blkT A e k o = false := by
  cases A with
  | none => rfl
  | some ad =>
    have := h ad rfl
    simp only [blkT, Bool.and_eq_false_iff, beq_eq_false_iff_ne, ne_eq]
    exact .inl fun e => this e.symm
section
variable {P : Program} {w : World}
theorem own_eqA {w : World} {base : Nat} {e : TypeId} {size n c c' : Nat} {g : Nat} {xs ys : List Value} {m : Nat} (h : w.ownsRow base e size (.slice (some ⟨g, 0, none⟩) n c) n xs) (h' : w.ownsRow base e size (.slice (some ⟨g, 0, none⟩) m c') m ys) (hs : 0 < size) : c = c' := by
  rcases h.2 with ⟨e1, _⟩ | ⟨g1, cap1, cur1, e1, _, h1, _, _, h2, _⟩
  · cases e1
  rcases h'.2 with ⟨e2, _⟩ | ⟨g2, cap2, cur2, e2, _, k1, _, _, k2, _⟩
  · cases e2
  injection e1 with e1 _ e3
  injection e2 with e2 _ e4
  injection e1 with e1
  injection e2 with e2
  injection e1 with e1
  injection e2 with e2
  subst e1 e2 e3 e4
  rw [h1] at k1
  injection k1 with k1
  injection k1 with k1
  subst k1
  rw [h2] at k2
  exact Nat.eq_of_mul_eq_mul_right hs k2
theorem run_append_keep (base : Nat) (t ty e : TypeId) (i : TypeInfo) (z : Value) (size bytes : Nat) (ht : P.underlying t = some (.slice e)) (hi : P.info? e = some i) (hz : i.zero = some z)
    (hsize : i.size = size) (hby : i.bytes = bytes) (hzs : z.cells.size = size) (hsz : 0 < size) (A : Option Addr) (n c : Nat) (xs : List Value) (hown : w.ownsRow base e size (.slice A n c) n xs)
    (a : Addr) (m c2 : Nat) (news : List Value) (hl : news.length = m * size) (hnews : ∀ j u, news[j]? = some u → w.cell? (a.add j) = some u) (h1 : ∀ u ∈ news, u.oneCell' = true)
    (h63 : n + m ≤ maxLen) (hbytes : (n + m) * bytes ≤ 140737488355328) (hbase : base ≤ w.heap.size) :
    ∃ A' c' w', (Builtin.append_ #[t, t] ty #[.slice A n c, .slice (some a) m c2]).run P w = .ok (.slice A' (n + m) c') w' ∧ w'.ownsRow base e size (.slice A' (n + m) c') (n + m) (xs ++ news) ∧
      Tn (blkT A e) base w w' ∧ w'.ownsRow base e size (.slice A n c) n xs ∧ ∀ A2 d, w.ownsRow base e size (.slice A2 (n + m) d) (n + m) (xs ++ news) → w'.ownsRow base e size (.slice A2 (n + m) d) (n + m) (xs ++ news) := by
  obtain ⟨v', w', hr, h2, h3, _⟩ := run_append_own (P := P) w base t ty e i z size bytes ht hi hz hsize hby hzs hsz _ n xs hown a m c2 news hl hnews h1 h63 hbytes hbase
  have hv : ∃ A' c', v' = .slice A' (n + m) c' := by
    rcases h2.2 with ⟨e1, e2⟩ | ⟨g', cap', _, e1, _⟩
    · exact ⟨none, 0, by rw [e1, e2]⟩
    · exact ⟨_, _, e1⟩
  obtain ⟨A', c', rfl⟩ := hv
  have hown' := hown
  rcases hown.2 with ⟨e1, e2⟩ | ⟨g, cap, cur, e1, hbg, hg, hnc, hcm, hcs, htake⟩
  · injection e1 with e1 e3 e4
    subst e1
    have hG : Gr w w' := ⟨h3.os, h3.tape, h3.output, h3.size, fun k hk => h3.block k hk (by simp [Value.ownBlock])⟩
    exact ⟨A', c', w', hr, h2, Tn.of_gr hG, Gr.own hG hown', fun A2 d h => Gr.own hG h⟩
  · injection e1 with e1 e3 e4
    subst e1 e4
    have hglt : g < w.heap.size := (Array.getElem?_eq_some_iff.1 hg).1
    by_cases hroom : n + m ≤ c
    · subst hsize
      have hfit : n * i.size + news.length ≤ cur.size := by rw [hl, hcs, ← Nat.add_mul]; exact Nat.mul_le_mul_right _ hroom
      have hr2 := run_append_room (P := P) w t ty e i ht hi g n c cur hg a m c2 news hl hnews h1 hroom hfit
      rw [hr] at hr2
      injection hr2 with hv hw
      injection hv with hA _ hc
      subst hA hc
      have hT : Tn (blkT (some ⟨g, 0, none⟩) e) base w w' := by
        subst hw
        refine ⟨rfl, rfl, rfl, h3.size, fun k hk ho => ?_, fun k hk => ?_⟩
        · refine setRow_other w g k _ fun hkg => ?_
          subst hkg
          rcases ho with ho | ho
          · omega
          · rw [hg] at ho
            simp [Turns, blkT] at ho
        · by_cases hkg : k = g
          · subst hkg
            rw [setRow_heap w k cur _ e _ hg, hg]
            simp [Turns, blkT]
          · rw [setRow_other w g k _ hkg]
      refine ⟨_, _, w', hr, h2, hT, ?_, fun A2 d h => ?_⟩
      · refine ⟨hown'.1, ?_⟩
        rcases h2.2 with ⟨q, _⟩ | ⟨g', cap', cur', q1, q2, q3, q4, q5, q6, q7⟩
        · cases q
        · injection q1 with q1 _ q8
          injection q1 with q1
          injection q1 with q1
          subst q1 q8
          refine .inr ⟨g, _, cur', rfl, q2, q3, by omega, q5, q6, ?_⟩
          have hxl : xs.length = n * i.size := hown'.1
          have h9 := congrArg (List.take (n * i.size)) q7
          rw [List.take_take, Nat.min_eq_left (Nat.mul_le_mul_right _ (by omega))] at h9
          rw [h9, List.take_append_of_le_length (by omega), List.take_of_length_le (by omega)]
      · rcases h.2 with ⟨q, q0⟩ | ⟨g2, cap2, cur2, q1, q2, q3, q4⟩
        · exact ⟨h.1, .inl ⟨q, q0⟩⟩
        · injection q1 with q1 _ q8
          subst q1 q8
          by_cases hgg : g2 = g
          · subst hgg
            have := own_eqA h hown' hsz
            subst this
            exact h2
          · refine ⟨h.1, .inr ⟨g2, d, cur2, rfl, q2, ?_, q4⟩⟩
            rw [hT.block g2 (Array.getElem?_eq_some_iff.1 q3).1 (.inr (by
              rw [q3]
              simp [Turns, blkT, hgg]))]
            exact q3
    · have holds : ∀ j u, xs[j]? = some u → w.cell? ((⟨g, 0, none⟩ : Addr).add j) = some u := hown'.cells (g := g) rfl
      have hr2 := run_append_grow (P := P) w t ty e i z ht hi hz ⟨g, 0, none⟩ n c xs (by rw [hown'.1, hsize]) holds a m c2 news (by rw [hl, hsize]) hnews (by omega) (by have := h63; unfold maxLen at this; omega) (growslice_fits (by omega) (by rw [hby]; exact hbytes))
      have hr3 := hr
      rw [hr] at hr2
      injection hr2 with _ hw
      have hG : Gr w w' := by
        rw [hw]
        exact Gr.trans (Gr.drew w) (Gr.alloc _ _)
      exact ⟨A', c', w', hr3, h2, Tn.of_gr hG, Gr.own hG hown', fun A2 d h => Gr.own hG h⟩
end
end Go.Proofs.YtmcnnjcbgbdeeaaDoor
