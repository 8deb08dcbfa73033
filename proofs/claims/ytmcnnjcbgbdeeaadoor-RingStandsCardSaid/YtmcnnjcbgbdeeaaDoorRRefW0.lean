/- A cell of a row of one's own set in place; the relation for the reference's exchange. No condition. -/
import Derived.Test.YtmcnnjcbgbdeeaaDoorRStand
namespace Go.Proofs.YtmcnnjcbgbdeeaaDoor
open Go.RowKit
theorem own_setE {w : World} {base : Nat} {e : TypeId} {A : Option Addr} {n c : Nat} {xs : List Value} (h : w.ownsRow base e 1 (.slice A n c) n xs) {i : Nat} (hi : i < n) (u : Value) :
    ∃ g v, A = some ⟨g, 0, none⟩ ∧ w.cell? ⟨g, i, none⟩ = some v ∧ w.frozen? ⟨g, i, none⟩ = false ∧ (w.setCell ⟨g, i, none⟩ u).ownsRow base e 1 (.slice A n c) n (xs.set i u) ∧ Tn (blkT A e) base w (w.setCell ⟨g, i, none⟩ u) := by
  have hx := h.1
  rcases h.2 with ⟨_, e2⟩ | ⟨g, cap, cur, e1, h1, h2, h3, h4, h5, h6⟩
  · omega
  · have e1' := e1
    injection e1' with eA _ _
    subst eA
    have hA : Arr w g e cur.toList := by show w.heap[g]? = _; simpa using h2
    have hs := hA.set i u
    have hl : cur.toList.length = cap := by simpa using h5
    refine ⟨g, cur.toList[i]'(by omega), rfl, hA.cell (List.getElem?_eq_getElem (by omega)), hA.frozen i, ⟨by simpa using hx, .inr ⟨g, cap, (cur.toList.set i u).toArray, e1, h1, hs, h3, h4, by simpa using hl, ?_⟩⟩, Tn.cell hA h1 (fun C f => by simp [blkT]) i u⟩
    have h7 : cur.toList.take n = xs := by simpa using h6
    rw [← h7]
    simp [List.take_set]
theorem swap_at {S : List Nat} {a y r : Nat} (h : S[a]? = some y) : ((S.take (a + 1) ++ r :: S.drop (a + 1)).set (a + 1) y).set a r = S.take a ++ r :: S.drop a := by
  have hl : a < S.length := (List.getElem?_eq_some_iff.1 h).1
  have h1 : S.take (a + 1) = S.take a ++ [y] := by rw [List.take_add_one, h]; rfl
  have h2 : S.drop a = y :: S.drop (a + 1) := by
    rw [List.drop_eq_getElem_cons hl, (List.getElem?_eq_some_iff.1 h).2]
  have h3 : (S.take a).length = a := by rw [List.length_take]; omega
  rw [h1, h2, List.append_assoc, List.set_append_right _ _ (by omega), h3, List.set_append_right _ _ (by omega), h3]
  simp
/-- Places, as a row holds them. -/
def farV (near : Nat → Nat) (l : List Nat) : List Value := l.map fun x : Nat => Value.int .u64 (near x : Int)
theorem farV_length (near : Nat → Nat) (l : List Nat) : (farV near l).length = l.length := by simp [farV]
theorem farV_at {near : Nat → Nat} {l : List Nat} {k x : Nat} (h : l[k]? = some x) : (farV near l)[k]? = some (.int .u64 (near x : Int)) := by rw [farV, List.getElem?_map, h]; rfl
theorem farV_set (near : Nat → Nat) (l : List Nat) (k x : Nat) : (farV near l).set k (.int .u64 (near x : Int)) = farV near (l.set k x) := by simp [farV, List.map_set]
theorem numV_set (l : List Nat) (k x : Nat) : (numV l).set k (.int .i64 (x : Int)) = numV (l.set k x) := by simp [numV, List.map_set]
/-- A row turns from one to another, once. -/
structure GS (B : Nat) (A : Option Addr) (n c : Nat) (xs ys : List Value) (w w' : World) : Prop where
  tn : Tn (blkT A 3) B w w'
  one : w.ownsRow B 3 1 (.slice A n c) n xs → w'.ownsRow B 3 1 (.slice A n c) n xs ∨ w'.ownsRow B 3 1 (.slice A n c) n ys
  two : w.ownsRow B 3 1 (.slice A n c) n ys → w'.ownsRow B 3 1 (.slice A n c) n ys
theorem GS.of_gr {B : Nat} {A : Option Addr} {n c : Nat} {xs ys : List Value} {w w' : World} (h : Gr w w') : GS B A n c xs ys w w' := ⟨Tn.of_gr h, fun k => .inl (Gr.own h k), fun k => Gr.own h k⟩
theorem GS.refl (B : Nat) (A : Option Addr) (n c : Nat) (xs ys : List Value) (w : World) : GS B A n c xs ys w w := GS.of_gr (Gr.refl w)
theorem GS.trans {B : Nat} {A : Option Addr} {n c : Nat} {xs ys : List Value} {a b d : World} (h : GS B A n c xs ys a b) (k : GS B A n c xs ys b d) : GS B A n c xs ys a d := ⟨h.tn.trans k.tn, fun q => (h.one q).elim (fun q => k.one q) (fun q => .inr (k.two q)), fun q => k.two (h.two q)⟩
theorem GS.cell {B : Nat} {A : Option Addr} {n c : Nat} {xs ys : List Value} {w w' : World} (h : GS B A n c xs ys w w') (ho : w.ownsRow B 3 1 (.slice A n c) n xs) {i : Nat} {u : Value} (hi : i < n) (h1 : xs[i]? = some u) (h2 : ys[i]? = some u) : ∃ g, A = some ⟨g, 0, none⟩ ∧ w'.cell? ⟨g, i, none⟩ = some u := by
  rcases h.one ho with q | q
  · exact own_at1 q hi h1
  · exact own_at1 q hi h2
theorem g_skipN {P : Program} {ops : Array Oper} {Q : Exit → Act → World → Prop} {L : List (Value → World → Prop)} {i : Nat} {o : Oper} {a : Act} {w : World} {G : World → World → Prop} (hi : ops[i]? = some o) (hg : o.guard = none) (w' : World) (hrun : (execOp a.eval o).run P w = .ok .skip w') (hφ : (L.getD i AnyV) undef w') (hG : G w w') : wpOp P ops Q i (fun a' w' => ∃ v, a' = a.put o.dst v ∧ (L.getD i AnyV) v w' ∧ G w w') a w := by
  have hw : Region.wanted o (yielded ops a.tmps) = true := by simp [Region.wanted, hg]
  unfold wpOp
  simp only [hi, hw, if_true, Oper.wp, hrun, Oper.upon]
  exact .inl ⟨undef, rfl, hφ, hG⟩
theorem take_le_last {near : Nat → Nat} {S : List Nat} (hS : S.Pairwise (before near)) {a y d : Nat} (h : S[a]? = some y) (hy : near y ≤ d) : ∀ x ∈ S.take (a + 1), near x ≤ d := by
  intro x hx
  obtain ⟨i, hi, rfl⟩ := List.getElem_of_mem hx
  rw [List.length_take] at hi
  rw [List.getElem_take]
  obtain ⟨hl, he⟩ := List.getElem?_eq_some_iff.1 h
  rcases Nat.lt_or_eq_of_le (show i ≤ a by omega) with h1 | h1
  · have := List.pairwise_iff_getElem.1 hS i a (by omega) hl h1
    rw [he] at this
    unfold before at this
    omega
  · subst h1
    rw [he]; exact hy
theorem set_again {w : World} {B : Nat} {A : Option Addr} {n c : Nat} {xs ys : List Value} {i : Nat} {u : Value} (hi : i < n) (h1 : xs.set i u = ys) (g : Nat) (hA : A = some ⟨g, 0, none⟩) (q : w.ownsRow B 3 1 (.slice A n c) n xs) : (w.setCell ⟨g, i, none⟩ u).ownsRow B 3 1 (.slice A n c) n ys := by
  obtain ⟨g', v, e, _, _, h4, _⟩ := own_setE q hi u
  rw [hA] at e
  injection e with e
  injection e with e
  subst e
  rw [h1] at h4
  exact h4
theorem GS.set {B : Nat} {A : Option Addr} {n c : Nat} {xs ys : List Value} {w0 w : World} (h : GS B A n c xs ys w0 w) (ho : w0.ownsRow B 3 1 (.slice A n c) n xs) {i : Nat} {u : Value} (hi : i < n) (h1 : xs.set i u = ys) :
    ∃ g v, A = some ⟨g, 0, none⟩ ∧ w.cell? ⟨g, i, none⟩ = some v ∧ w.frozen? ⟨g, i, none⟩ = false ∧ (w.setCell ⟨g, i, none⟩ u).ownsRow B 3 1 (.slice A n c) n ys ∧ GS B A n c xs ys w (w.setCell ⟨g, i, none⟩ u) := by
  have h2 : ys.set i u = ys := by rw [← h1, List.set_set]
  have key : ∀ zs, w.ownsRow B 3 1 (.slice A n c) n zs → zs.set i u = ys → ∃ g v, A = some ⟨g, 0, none⟩ ∧ w.cell? ⟨g, i, none⟩ = some v ∧ w.frozen? ⟨g, i, none⟩ = false ∧ (w.setCell ⟨g, i, none⟩ u).ownsRow B 3 1 (.slice A n c) n ys ∧ GS B A n c xs ys w (w.setCell ⟨g, i, none⟩ u) := fun zs hz e => by
    obtain ⟨g, v, hA, a1, a2, a3, a4⟩ := own_setE hz hi u
    rw [e] at a3
    exact ⟨g, v, hA, a1, a2, a3, a4, fun q => .inr (set_again hi h1 g hA q), fun q => set_again hi h2 g hA q⟩
  rcases h.one ho with q | q
  · exact key _ q h1
  · exact key _ q h2
section
variable {ev : Operand → Value} {d : Option Tmp} {t : TypeId} {p : String} {af : Array Edge} {gd : Option (Nat × Bool)} {w : World} {x y : Operand}
theorem run_idxG {P : Program} {T e : TypeId} (hT : P.underlying T = some (.slice e)) (hsz : (P.info? e).map (·.size) = some 1) {g n c k : Nat} (h1 : ev x = .slice (some ⟨g, 0, none⟩) n c) (h2 : ev y = .int .i64 (k : Int)) (hk : k < n) :
    (execOp ev ⟨d, .indexAddr T x y, t, p, af, gd⟩).run P w = .ok (.value (.pointer (some ⟨g, k, none⟩))) w := by
  have := run_idxSl (d := d) (t := t) (p := p) (af := af) (gd := gd) (w := w) hT hsz h1 h2 hk
  rwa [add_row, Nat.zero_add] at this
theorem run_dec {P : Program} {T U : TypeId} {a : Nat} (h : a ≤ 1000000) (h1 : ev x = .int .i64 ((a + 1 : Nat) : Int)) (h2 : ev y = .int .i64 1) : (execOp ev ⟨d, .binOp .sub T x y U, t, p, af, gd⟩).run P w = .ok (.value (.int .i64 (a : Int))) w :=
  run_subN (a := a + 1) (b := 1) h1 h2 (by omega) (by omega)
end
end Go.Proofs.YtmcnnjcbgbdeeaaDoor
