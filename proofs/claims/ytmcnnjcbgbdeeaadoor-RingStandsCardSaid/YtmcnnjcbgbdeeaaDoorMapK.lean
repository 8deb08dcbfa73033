/- Maps of one's own, by the list of their entries: looked up, written, counted. No condition. -/
import Derived.Maps.Keyed
import Derived.DeepKeys4
import Derived.Carry
import Derived.WideLaws
import Derived.ChangeMaps5
import Derived.Test.YtmcnnjcbgbdeeaaDoorKitA
namespace Go.Proofs.YtmcnnjcbgbdeeaaDoor
open Go.RowKit
open Go.Maps (Keyed)
open Go.ChangeMaps (setBlock)
/-- The block b is a map whose entries are, in the order in which they came, these pairs of keys and values. -/
def MapIs (P : Program) (k : TypeId) (w : World) (b : Nat) (L : List (Value × Value)) : Prop :=
  ∃ es clock, w.heap[b]? = some (.map es clock) ∧ es.toList.map (fun e => (e.key, e.val)) = L ∧ (∀ p ∈ L, ∃ l, keyOf P k p.1 = some l) ∧ (L.map Prod.fst).Nodup
section
variable {P : Program} {k t e : TypeId} {w w' : World} {b : Nat} {L : List (Value × Value)}
theorem MapIs.lt (h : MapIs P k w b L) : b < w.heap.size := by
  obtain ⟨es, c, hb, _⟩ := h
  exact (Array.getElem?_eq_some_iff.1 hb).1
theorem MapIs.same (h : MapIs P k w b L) (he : w'.heap[b]? = w.heap[b]?) : MapIs P k w' b L := by
  obtain ⟨es, c, hb, h2⟩ := h
  exact ⟨es, c, by rw [he]; exact hb, h2⟩
theorem MapIs.gr (h : MapIs P k w b L) (hG : Gr w w') : MapIs P k w' b L := h.same (hG.block b h.lt)
theorem MapIs.made (P : Program) (k : TypeId) (w : World) : MapIs P k (w.alloc (.map #[] 0)) w.heap.size [] := ⟨#[], 0, by unfold World.alloc; simp, rfl, by simp, by simp⟩
theorem MapIs.madeAt (P : Program) (k : TypeId) (w : World) {n : Nat} (h : w.heap.size = n) : MapIs P k (w.alloc (.map #[] 0)) n [] := by subst h; exact MapIs.made P k w
theorem nodup_val {k : Value} {v u : Value} : ∀ {L : List (Value × Value)}, (L.map Prod.fst).Nodup → (k, v) ∈ L → (k, u) ∈ L → v = u
  | [], _, h, _ => by cases h
  | (k0, v0) :: L, hn, h1, h2 => by
    simp only [List.map_cons, List.nodup_cons, List.mem_map, not_exists, not_and] at hn
    simp only [List.mem_cons, Prod.mk.injEq] at h1 h2
    rcases h1 with ⟨rfl, rfl⟩ | h1
    · rcases h2 with ⟨_, rfl⟩ | h2
      · rfl
      · exact absurd rfl (hn.1 _ h2)
    · rcases h2 with ⟨rfl, _⟩ | h2
      · exact absurd rfl (hn.1 _ h1)
      · exact nodup_val hn.2 h1 h2
/-- What is found at a key. -/
theorem MapIs.find (h : MapIs P k w b L) (K : Keyed P k) {x : Value} {lx : Lit} (hx : keyOf P k x = some lx) : ∃ es clock, w.heap[b]? = some (.map es clock) ∧ es.toList.map (fun e => (e.key, e.val)) = L ∧
    (((Instr.findKey k x es.toList).run P w = .ok none w ∧ ∀ p ∈ L, p.1 ≠ x) ∨ ∃ (j : Nat) (v : Value), (Instr.findKey k x es.toList).run P w = .ok (some (j, v)) w ∧ L[j]? = some (x, v) ∧ ∃ e, es[j]? = some e ∧ e.key = x ∧ e.val = v) := by
  obtain ⟨es, clock, hb, hL, hk, hn⟩ := h
  refine ⟨es, clock, hb, hL, ?_⟩
  have hes : ∀ e ∈ es.toList, ∃ l, keyOf P k e.key = some l := fun e he => hk (e.key, e.val) (by rw [← hL]; exact List.mem_map.2 ⟨e, he, rfl⟩)
  rcases K.find w hx es.toList hes with ⟨h1, h2⟩ | ⟨j, e, h1, h2, h3⟩
  · refine .inl ⟨h1, fun p hp => ?_⟩
    rw [← hL] at hp
    obtain ⟨e, he, rfl⟩ := List.mem_map.1 hp
    exact h2 e he
  · refine .inr ⟨j, e.val, h1, ?_, e, by simpa using h2, h3, rfl⟩
    rw [← hL, List.getElem?_map, h2]
    simp [h3]
theorem MapIs.hit (h : MapIs P k w b L) (K : Keyed P k) (ht : P.underlying t = some (.map k e)) {x v : Value} (hx : (x, v) ∈ L) (ok : Bool) :
    (Instr.lookup t (.map (some b)) x ok).run P w = .ok (if ok then .tuple #[v, .bool true] else v) w := by
  obtain ⟨lx, hlx⟩ : ∃ l, keyOf P k x = some l := by obtain ⟨_, _, _, _, hk, _⟩ := h; exact hk _ hx
  have hn : (L.map Prod.fst).Nodup := by obtain ⟨_, _, _, _, _, hn⟩ := h; exact hn
  obtain ⟨es, clock, hb, hL, h1⟩ := h.find K hlx
  rcases h1 with ⟨h1, h2⟩ | ⟨j, u, h1, h2, _⟩
  · exact absurd rfl (h2 _ hx)
  · have := nodup_val hn hx (List.mem_of_getElem? h2)
    subst this
    simp [Instr.lookup, run_underlying ht, MapKept.run_getObj_map hb, K.check w _ hlx, h1, Result.andThen]
theorem MapIs.miss (h : MapIs P k w b L) (K : Keyed P k) (ht : P.underlying t = some (.map k e)) {x z : Value} {lx : Lit} (hx : keyOf P k x = some lx) (hno : ∀ p ∈ L, p.1 ≠ x) (hz : (zeroValue e).run P w = .ok z w) (ok : Bool) :
    (Instr.lookup t (.map (some b)) x ok).run P w = .ok (if ok then .tuple #[z, .bool false] else z) w := by
  obtain ⟨es, clock, hb, hL, h1⟩ := h.find K hx
  rcases h1 with ⟨h1, h2⟩ | ⟨j, u, h1, h2, _⟩
  · simp [Instr.lookup, run_underlying ht, MapKept.run_getObj_map hb, K.check w _ hx, h1, hz, Result.andThen]
  · exact absurd rfl (hno _ (List.mem_of_getElem? h2))
/-- A new key is written. -/
theorem MapIs.add (h : MapIs P k w b L) (K : Keyed P k) (ht : P.underlying t = some (.map k e)) {x v : Value} {lx : Lit} (hx : keyOf P k x = some lx) (hno : ∀ p ∈ L, p.1 ≠ x) :
    ∃ w', (Instr.mapUpdate t (.map (some b)) x v).run P w = .ok () w' ∧ MapIs P k w' b (L ++ [(x, v)]) ∧ ∃ o, w' = setBlock w b o := by
  have hk : ∀ p ∈ L, ∃ l, keyOf P k p.1 = some l := by obtain ⟨_, _, _, _, hk, _⟩ := h; exact hk
  have hn : (L.map Prod.fst).Nodup := by obtain ⟨_, _, _, _, _, hn⟩ := h; exact hn
  obtain ⟨es, clock, hb, hL, h1⟩ := h.find K hx
  rcases h1 with ⟨h1, h2⟩ | ⟨j, u, h1, h2, _⟩
  · refine ⟨setBlock w b (.map (es.push ⟨x, v, clock⟩) (clock + 1)), ?_, ⟨_, _, ChangeMaps.heap_setBlock_same hb _, by simp [hL], ?_, ?_⟩, _, rfl⟩
    · simp [Instr.mapUpdate, run_underlying ht, MapKept.run_getObj_map hb, K.check w _ hx, h1, MapKept.run_setObj_map _ hb, Result.andThen, setBlock]
    · intro p hp
      rcases List.mem_append.1 hp with hp | hp
      · exact hk p hp
      · rw [List.mem_singleton.1 hp]; exact ⟨lx, hx⟩
    · rw [List.map_append, List.map_singleton, List.nodup_append]
      refine ⟨hn, by simp, fun a ha c hc => ?_⟩
      obtain ⟨p, hp, rfl⟩ := List.mem_map.1 ha
      rw [List.mem_singleton.1 hc]
      exact h2 p hp
  · exact absurd rfl (hno _ (List.mem_of_getElem? h2))
theorem run_len_mapIs {ty : TypeId} (h : MapIs P k w b L) (ht : P.underlying t = some (.map k e)) : (Builtin.len_ #[t] ty #[.map (some b)]).run P w = .ok (.int .i64 (L.length : Nat)) w := by
  obtain ⟨es, clock, hb, hL, _⟩ := h
  have hl : es.size = L.length := by rw [← hL]; simp
  have h1 : P.underlying t = some (.map (P.mapKeyOf t) (P.mapElemOf t)) := by
    rw [ht]; simp [Program.mapKeyOf, Program.mapElemOf, ht]
  rw [run_len_map (P := P) w t ty b es clock h1 hb, hl]
  rfl
end
section
variable {P : Program} {k t e : TypeId} {b : Nat} {L : List (Value × Value)} {ev : Operand → Value} {d : Option Tmp} {ty T U : TypeId} {p : String} {af : Array Edge} {gd : Option (Nat × Bool)} {w : World} {x y : Operand}
theorem run_hit (h : MapIs P k w b L) (K : Keyed P k) (ht : P.underlying t = some (.map k e)) {key v : Value} (h1 : ev x = .map (some b)) (h2 : ev y = key) (hx : (key, v) ∈ L) (ok : Bool) :
    (execOp ev ⟨d, .lookup t x y ok, ty, p, af, gd⟩).run P w = .ok (.value (if ok then .tuple #[v, .bool true] else v)) w := by
  simp only [execOp, h1, h2, Sem.run_bind, h.hit K ht hx ok, Result.andThen_ok, Sem.run_pure]
theorem run_miss (h : MapIs P k w b L) (K : Keyed P k) (ht : P.underlying t = some (.map k e)) {key z : Value} {lx : Lit} (h1 : ev x = .map (some b)) (h2 : ev y = key) (hx : keyOf P k key = some lx) (hno : ∀ p ∈ L, p.1 ≠ key) (hz : (zeroValue e).run P w = .ok z w) (ok : Bool) :
    (execOp ev ⟨d, .lookup t x y ok, ty, p, af, gd⟩).run P w = .ok (.value (if ok then .tuple #[z, .bool false] else z)) w := by
  simp only [execOp, h1, h2, Sem.run_bind, h.miss K ht hx hno hz ok, Result.andThen_ok, Sem.run_pure]
end
section
variable {P : Program} {ops : Array Oper} {Q : Exit → Act → World → Prop} {rest : List Oper} {o : Oper} {a : Act} {w : World} {k t e : TypeId} {b : Nat} {L : List (Value × Value)}
/-- A new key is written: the statement. -/
theorem wpList_add (hgd : o.guard = none) (m x v : Operand) (ho : o.op = .mapUpdate t m x v) (h : MapIs P k w b L) (K : Keyed P k) (ht : P.underlying t = some (.map k e)) {key val : Value} {lx : Lit} (hm : a.eval m = .map (some b)) (h1 : a.eval x = key) (h2 : a.eval v = val)
    (hx : keyOf P k key = some lx) (hno : ∀ p ∈ L, p.1 ≠ key) (hK : ∀ o' w', w' = setBlock w b o' → MapIs P k w' b (L ++ [(key, val)]) → wpList P ops Q rest (a.put o.dst undef) w') : wpList P ops Q (o :: rest) a w := by
  refine wpList_plain hgd fun K' hK' => ?_
  obtain ⟨w', hrun, hM, o', hw⟩ := h.add K ht (v := val) hx hno
  unfold Oper.wp
  simp only [execOp, ho, hm, h1, h2, Sem.run_bind, hrun, Result.andThen_ok, Sem.run_pure]
  exact hK' _ _ (hK o' w' hw hM)
end
end Go.Proofs.YtmcnnjcbgbdeeaaDoor
