/- append(b, make([]byte, k)...): noughts behind a row of the call's own. No condition. -/
import Derived.Lib.AppendZerosOnto
import Derived.Test.YtficbedibjgoeaaDoorKitA
namespace Go.Proofs.YtficbedibjgoeaaDoor
open Go.RowKit
section
variable {P : Program} (w : World)
theorem zeroCells_u8 (k : Nat) : (Builtin.zeroCells (Value.cells (.int .u8 0)) k).toList = u8s (List.replicate k 0) := by
  apply List.ext_getElem
  · simp [Builtin.zeroCells, Value.cells]
  · intro i h1 h2
    have e0 : i % 1 = 0 := Nat.mod_one i
    simp [Builtin.zeroCells, Value.cells, u8s, e0]
theorem run_append_ownZ (base : Nat) (t tn ty e : TypeId) (i : TypeInfo) (ht : P.underlying t = some (.slice e)) (htn : P.underlying tn = some (.int .i64)) (hi : P.info? e = some i) (hz : i.zero = some (.int .u8 0))
    (hsize : i.size = 1) (hby : i.bytes = 1) (v : Value) (n : Nat) (l : List UInt8) (hown : w.ownsRow base e 1 v n (u8s l)) (k : Nat) (hb : n + k ≤ 1000000) (hbase : base ≤ w.heap.size) :
    ∃ v' w', (Builtin.append_ #[t, tn] ty #[v, .int .i64 (k : Int)]).run P w = .ok v' w' ∧ w'.ownsRow base e 1 v' (n + k) (u8s (l ++ List.replicate k 0)) ∧ w.grownBy w' v.ownBlock := by
  have hw : IntKind.i64.wrap (k : Int) = k := by rw [IntKind.wrap_i64]; omega
  have hneg : ¬ ((k : Int) < 0) := by omega
  have hw0 : IntKind.i64.wrap 0 = 0 := by rw [IntKind.wrap_i64]; rfl
  have h48i : ¬ (281474976710656 < (k : Int)) := by omega
  have hll : l.length = n := by have := hown.1; simpa using this
  have hlen : (u8s (l ++ List.replicate k 0)).length = (n + k) * 1 := by simp [hll]
  have hsplit : u8s (l ++ List.replicate k 0) = u8s l ++ (Builtin.zeroCells (Value.cells (.int .u8 0)) k).toList := by rw [zeroCells_u8]; simp [u8s]
  have hzl : (Builtin.zeroCells (Value.cells (.int .u8 0)) k).size = k := by simp [Builtin.zeroCells, Value.cells]
  have grown : ∀ (old : Nat), old < n + k → ∀ (row : Option Nat),
      (w.drew.alloc (.cells ((u8s l).toArray ++ Builtin.zeroCells (Value.cells (.int .u8 0)) k ++ Builtin.zeroCells (Value.cells (.int .u8 0)) (grownCap w (n + k) old e - (n + k))) e)).ownsRow base e 1
        (.slice (some ⟨w.heap.size, 0, none⟩) (n + k) (grownCap w (n + k) old e)) (n + k) (u8s (l ++ List.replicate k 0)) ∧
      w.grownBy (w.drew.alloc (.cells ((u8s l).toArray ++ Builtin.zeroCells (Value.cells (.int .u8 0)) k ++ Builtin.zeroCells (Value.cells (.int .u8 0)) (grownCap w (n + k) old e - (n + k))) e)) row := by
    intro old ho row
    have hge := grownCap_ge w (n + k) old e
    have hcm : grownCap w (n + k) old e ≤ maxLen := grownCap_le_maxLen w (n + k) old e (by unfold maxLen; omega)
    refine ⟨⟨hlen, .inr ⟨w.heap.size, _, _, rfl, hbase, heap_alloc_new w.drew _, hge, hcm, ?_, ?_⟩⟩, ⟨rfl, rfl, rfl, by simp, fun j hj _ => heap_alloc_old w.drew _ hj⟩⟩
    · simp [Builtin.zeroCells, Value.cells, hll]
      omega
    · rw [hsplit]
      simp only [Array.toList_append, List.append_assoc]
      rw [← List.append_assoc]
      have e1 : (n + k) * 1 = (u8s l ++ (Builtin.zeroCells (Value.cells (.int .u8 0)) k).toList).length := by simp [hzl, hll]
      rw [e1]
      exact List.take_left
  rcases hown.2 with ⟨rfl, rfl⟩ | ⟨g, cap, cur, rfl, hbg, hg, hnc, hcm, hcs, htake⟩
  · have hx : l = [] := List.eq_nil_of_length_eq_zero hll
    subst hx
    rcases Nat.eq_zero_or_pos k with hk | hk
    · subst hk
      refine ⟨.slice none 0 0, w, ?_, World.ownsRow_nil w base e 1, ⟨rfl, rfl, rfl, Nat.le_refl _, fun _ _ _ => rfl⟩⟩
      simp [Builtin.append_, run_underlying ht, run_underlying htn, sizeOf, typeInfo, hi, asInt, asIntOf, hw0]
    · have hr := Lib.run_append_grow_zeros (P := P) w t tn ty e i (.int .u8 0) .i64 .i64 ht htn hi hz none 0 0 [] (by rw [hsize]; exact run_firstCells_none w.drew 1 0 0 0) k (by omega) (by omega) (by omega) (by omega) (by rw [hby]; omega) (growslice_fits (by omega) (by rw [hby]; omega))
      have hgr := grown 0 (by omega) (Value.ownBlock (.slice none 0 0))
      exact ⟨_, _, hr, hgr.1, hgr.2⟩
  · by_cases hroom : n + k ≤ cap
    · have hst := run_storeCells_at P g n e (u8s (List.replicate k 0)) 0 cur w hg (by simp; omega) (u8s_oneCell _)
      simp only [Nat.add_zero] at hst
      have hrun : (Builtin.append_ #[t, tn] ty #[.slice (some ⟨g, 0, none⟩) n cap, .int .i64 (k : Int)]).run P w =
          .ok (.slice (some ⟨g, 0, none⟩) (n + k) cap) (w.setRow g (cur.toList.take n ++ u8s (List.replicate k 0) ++ cur.toList.drop (n + (u8s (List.replicate k 0)).length)).toArray) := by
        by_cases hk : k = 0
        · subst hk
          have hst' : (storeCells { block := g, off := n } []).run P w = .ok () (w.setRow g cur) := by simpa using hst
          simp [Builtin.append_, run_underlying ht, run_underlying htn, sizeOf, typeInfo, hi, hsize, asInt, asIntOf, hw0, Nat.add_zero n ▸ hroom, Addr.add_lit, hst']
        · simp [Builtin.append_, run_underlying ht, run_underlying htn, sizeOf, typeInfo, zeroValue, hi, hz, hsize, hby, asInt, asIntOf, hw, hneg, hroom, h48i, hk, zeroCells_u8, Addr.add_lit, hst]
      refine ⟨_, _, hrun, ⟨hlen, .inr ⟨g, cap, _, rfl, hbg, setRow_heap w g cur _ e _ hg, hroom, hcm, ?_, ?_⟩⟩, ⟨rfl, rfl, rfl, by simp, fun j _ hj => setRow_other w g j _ (fun e => hj (by simp [Value.ownBlock, e]))⟩⟩
      · simp only [List.size_toArray, List.length_append, List.length_take, List.length_drop, Array.length_toList]
        simp
        omega
      · have h3 : cur.toList.take n = u8s l := by rw [← htake]; simp
        rw [h3, hsplit, zeroCells_u8]
        have e1 : (n + k) * 1 = (u8s l ++ u8s (List.replicate k 0)).length := by simp [hll]
        rw [e1]
        exact List.take_left
    · have holds : ∀ j u, (u8s l)[j]? = some u → w.cell? ((⟨g, 0, none⟩ : Addr).add j) = some u := hown.cells (g := g) rfl
      have hr := Lib.run_append_grow_zeros (P := P) w t tn ty e i (.int .u8 0) .i64 .i64 ht htn hi hz (some ⟨g, 0, none⟩) n cap (u8s l) (run_firstCells_some (P := P) w.drew i.size n ⟨g, 0, none⟩ n cap (u8s l) (by simp [hsize, hll]) (fun j u hu => holds j u hu)) k (by omega) (by omega) (by omega) (by omega) (by rw [hby]; omega) (growslice_fits (by omega) (by rw [hby]; omega))
      have hgr := grown cap (by omega) (Value.ownBlock (.slice (some ⟨g, 0, none⟩) n cap))
      exact ⟨_, _, hr, hgr.1, hgr.2⟩
theorem wpList_appZ {ops : Array Oper} {rest : List Oper} {o : Oper} {a : Act} {Q : Exit → Act → World → Prop} (hgd : o.guard = none) (s x : Operand) (t tn : TypeId)
    (ho : o.op = .call { callee := .builtin .append, args := #[s, x], argTypes := #[t, tn] }) (base : Nat) (e : TypeId) (i : TypeInfo) (ht : P.underlying t = some (.slice e)) (htn : P.underlying tn = some (.int .i64)) (hi : P.info? e = some i) (hz : i.zero = some (.int .u8 0))
    (hsize : i.size = 1) (hby : i.bytes = 1) (v : Value) (n : Nat) (l : List UInt8) (hs : a.eval s = v) (hown : w.ownsRow base e 1 v n (u8s l)) (k : Nat) (hx : a.eval x = .int .i64 (k : Int)) (hb : n + k ≤ 1000000) (hbase : base ≤ w.heap.size)
    (h : ∀ v' w', w'.ownsRow base e 1 v' (n + k) (u8s (l ++ List.replicate k 0)) → w.grownBy w' v.ownBlock → wpList P ops Q rest (a.put o.dst v') w') : wpList P ops Q (o :: rest) a w :=
  wpList_plain hgd fun K hK => by
    obtain ⟨v', w', hr, h2, h3⟩ := run_append_ownZ (P := P) w base t tn o.type e i ht htn hi hz hsize hby v n l hown k hb hbase
    unfold Oper.wp execOp
    simp only [ho, resolve, invoke, builtin, Sem.run_bind, Sem.run_pure, Result.andThen_ok, List.map_toArray, List.map_cons, List.map_nil, hs, hx, hr]
    exact hK _ _ (h v' w' h2 h3)
end
end Go.Proofs.YtficbedibjgoeaaDoor
