/- slices.Grow and slices.Concat at siblings. No condition. -/
import Derived.Test.YteckblffpidigaaGreatDoorMtSNil
import Derived.Test.YteckblffpidigaaGreatDoorKitM
namespace Go.Proofs.YteckblffpidigaaGreatDoor
open Go.RowKit Go.Lib
/-- Cells that stand behind an address. -/
def CellsR (w : World) (A : Option Addr) (xs : List Value) : Prop := ∀ j u, xs[j]? = some u → ∃ ad, A = some ad ∧ w.cell? (ad.add j) = some u
theorem CellsR.gr {w w' : World} {A : Option Addr} {xs : List Value} (h : CellsR w A xs) (hG : Gr w w') : CellsR w' A xs := fun j u hu => by
  obtain ⟨ad, e, hc⟩ := h j u hu
  exact ⟨ad, e, Gr.cell hG hc⟩
theorem CellsR.some {w : World} {A : Option Addr} {xs : List Value} (h : CellsR w A xs) (hp : 0 < xs.length) : ∃ ad, A = some ad := by
  obtain ⟨ad, e, _⟩ := h 0 _ (List.getElem?_eq_getElem hp)
  exact ⟨ad, e⟩
section
variable {P : Program} (w : World)
/-- append onto a row of the call's own, whatever the source is and however many cells an element has. -/
theorem run_appK (base : Nat) (t ty e : TypeId) (i : TypeInfo) (z : Value) (size bytes : Nat) (ht : P.underlying t = some (.slice e)) (hi : P.info? e = some i) (hz : i.zero = some z)
    (hsize : i.size = size) (hby : i.bytes = bytes) (hzs : z.cells.size = size) (hsz : 0 < size)
    (v : Value) (n : Nat) (xs : List Value) (hown : w.ownsRow base e size v n xs)
    (A : Option Addr) (m c : Nat) (news : List Value) (hl : news.length = m * size) (hr : CellsR w A news) (h1 : ∀ u ∈ news, u.oneCell' = true)
    (hbytes : (n + m) * bytes ≤ 140737488355328) (h63 : n + m ≤ maxLen) (hbase : base ≤ w.heap.size) :
    ∃ v' w', (Builtin.append_ #[t, t] ty #[v, .slice A m c]).run P w = .ok v' w' ∧ w'.ownsRow base e size v' (n + m) (xs ++ news) ∧ w.grownBy w' v.ownBlock := by
  rcases A with _ | ad
  · have hn : news = [] := by
      cases news with
      | nil => rfl
      | cons u news =>
        obtain ⟨_, e, _⟩ := hr 0 u rfl
        cases e
    subst hn
    have h0 : m = 0 := by
      rcases Nat.eq_zero_or_pos m with h | h
      · exact h
      · have := Nat.mul_pos h hsz
        simp at hl
        omega
    subst h0
    have e0 : (Builtin.append_ #[t, t] ty #[v, .slice none 0 c]).run P w = .ok v w := by
      rcases hown.2 with ⟨rfl, rfl⟩ | ⟨g, cap, cur, rfl, _, _, hnc, _⟩
      · simp [Builtin.append_, run_underlying ht, sizeOf, typeInfo, hi, Builtin.lenOf, Builtin.firstCells]
      · simp [Builtin.append_, run_underlying ht, sizeOf, typeInfo, hi, Builtin.lenOf, Builtin.firstCells, hnc, storeCells]
    exact ⟨v, w, e0, by simpa using hown, World.grownBy.refl w _⟩
  · obtain ⟨v', w', hrun, h2, h3, _, _⟩ := run_append_own_at (P := P) w base t ty e i z size bytes ht hi hz hsize hby hzs hsz v n xs hown ad m c news hl
      (fun j u hu => by obtain ⟨ad', e, hc⟩ := hr j u hu; injection e with e; subst e; exact hc) h1 h63 hbytes hbase
    exact ⟨v', w', hrun, h2, h3⟩
theorem wpList_appK {ops : Array Oper} {rest : List Oper} {o : Oper} {a : Act} {Q : Exit → Act → World → Prop} (hgd : o.guard = none) (s x : Operand) (t : TypeId)
    (ho : o.op = .call { callee := .builtin .append, args := #[s, x], argTypes := #[t, t] })
    (base : Nat) (e : TypeId) (i : TypeInfo) (z : Value) (size bytes : Nat) (ht : P.underlying t = some (.slice e)) (hi : P.info? e = some i) (hz : i.zero = some z)
    (hsize : i.size = size) (hby : i.bytes = bytes) (hzs : z.cells.size = size) (hsz : 0 < size)
    (v : Value) (n : Nat) (xs : List Value) (hs : a.eval s = v) (hown : w.ownsRow base e size v n xs)
    (A : Option Addr) (m c : Nat) (news : List Value) (hx : a.eval x = .slice A m c) (hl : news.length = m * size) (hr : CellsR w A news) (h1 : ∀ u ∈ news, u.oneCell' = true)
    (hbytes : (n + m) * bytes ≤ 140737488355328) (h63 : n + m ≤ maxLen) (hbase : base ≤ w.heap.size)
    (h : ∀ v' w', w'.ownsRow base e size v' (n + m) (xs ++ news) → Below base w w' → wpList P ops Q rest (a.put o.dst v') w') : wpList P ops Q (o :: rest) a w := by
  obtain ⟨v', w', hrun, h2, h3⟩ := run_appK (P := P) w base t o.type e i z size bytes ht hi hz hsize hby hzs hsz v n xs hown A m c news hl hr h1 hbytes h63 hbase
  refine wpList_plain hgd fun _ hK => ?_
  unfold Oper.wp execOp
  simp only [ho, resolve, invoke, builtin, Sem.run_bind, Sem.run_pure, Result.andThen_ok, List.map_toArray, List.map_cons, List.map_nil, hs, hx, hrun]
  exact hK _ _ (h v' w' h2 ((Below.refl base w).grown h3 hbase (fun k hk => (hown.lt k hk).1)))
end
theorem infoSb : (Tryz.prog.info? 44).map (fun i => (i.size, i.bytes, i.zero.map (·.cells.size))) = some (20, 192, some 20) := by kernel_rfl
theorem infoSb_parts : ∃ i z, Tryz.prog.info? 44 = some i ∧ i.zero = some z ∧ i.size = 20 ∧ i.bytes = 192 ∧ z.cells.size = 20 := by
  cases hie : Tryz.prog.info? 44 with
  | none => have := infoSb; rw [hie] at this; cases this
  | some ie =>
    have hq := infoSb
    rw [hie] at hq
    simp only [Option.map_some, Option.some.injEq, Prod.mk.injEq] at hq
    obtain ⟨q1, q2, q3⟩ := hq
    cases hz : ie.zero with
    | none => rw [hz] at q3; cases q3
    | some z =>
      rw [hz] at q3
      exact ⟨ie, z, rfl, hz, q1, q2, by simpa using q3⟩
theorem sibsU_len (L : List SibU) : (L.flatMap sibU).length = L.length * 20 := flat_len sibU_length L
theorem sibsU_one (L : List SibU) : ∀ u ∈ L.flatMap sibU, u.oneCell' = true := by
  intro u hu
  obtain ⟨d, _, hx⟩ := List.mem_flatMap.1 hu
  exact sibU_one d u hx
set_option maxRecDepth 100000 in
set_option maxHeartbeats 2000000 in
theorem growS_any (n : Nat) (hn : n ≤ 1000000000) (w : World) :
    Calls Tryz.prog 58 #[.slice none 0 0, .int .i64 n] w fun e w' => ∃ v, e = .returned v ∧ w'.ownsRow w.heap.size 44 20 v 0 [] ∧ Below w.heap.size w w' := by
  obtain ⟨i0, z0, hi0, hz0, hz1, hz2, hz3⟩ := infoSb_parts
  have h1 : ¬ ((n : Int) < 0) := by omega
  rcases Nat.eq_zero_or_pos n with h0 | h0
  · subst h0
    simp only [show ((0 : Nat) : Int) = 0 from rfl]
    go_enter Tryz.func58, Tryz.ntmps58
    go_wp2_with fail
    go_ret
    exact ⟨_, rfl, World.ownsRow_nil _ _ _ _, Below.refl _ _⟩
  · have hrz := fun ty => Lib.run_append_grow_zeros (P := Tryz.prog) w 23 3 ty 44 i0 z0 .i64 .i64 Tryz.underlying23 Tryz.underlying3 hi0 hz0 none 0 0 [] (by rw [hz1]; exact run_firstCells_none w.drew 20 0 0 0) n (by omega) (by omega) (by omega) (by omega) (by rw [hz2]; omega) (growslice_fits (by omega) (by rw [hz2]; omega))
    simp only [Nat.zero_add] at hrz
    obtain ⟨zc, hzc⟩ : ∃ zc, zc = z0.cells := ⟨_, rfl⟩
    rw [← hzc] at hz3
    simp only [← hzc] at hrz
    clear hzc
    have hg := grownCap_ge w n 0 44
    have hm := grownCap_le_maxLen w n 0 44 (by unfold maxLen; omega)
    have hg2 : grownCap w n 0 44 ≤ 9223372036854775807 := by unfold maxLen at hm; exact hm
    generalize grownCap w n 0 44 = G at hrz hg hm hg2
    have h4 : (0 : Int) < (n : Int) := by omega
    go_enter Tryz.func58, Tryz.ntmps58
    go_wp2_with (at_builtin; refine Lib.wpList_append_run _ rfl _ _ _ _ rfl _ _ rfl rfl _ _ (hrz _) ?_)
    go_ret
    refine ⟨_, rfl, ⟨rfl, .inr ⟨w.heap.size, G, _, rfl, Nat.le_refl _, heap_alloc_new _ _, by omega, hm, ?_, rfl⟩⟩, ?_⟩
    · have e : ∀ k, (Builtin.zeroCells zc k).size = k * 20 := fun k => by simp [Builtin.zeroCells, hz3]
      simp only [Array.size_append, e]
      have : n * 20 + (G - n) * 20 = G * 20 := by rw [← Nat.add_mul]; congr 1; omega
      simpa using this
    · exact ((Below.refl _ _).drew).alloc (Nat.le_refl _) _
/-- One row of siblings, as it lies. -/
structure PartU where
  A : Option Addr
  n : Nat
  c : Nat
  l : List SibU
def PartU.val (p : PartU) : Value := .slice p.A p.n p.c
structure PartsU (w : World) (A : Option Addr) (n : Nat) (ps : List PartU) : Prop where
  row : Rd w A n (ps.map PartU.val)
  each : ∀ p ∈ ps, CellsR w p.A (p.l.flatMap sibU) ∧ p.l.length = p.n
def allU (ps : List PartU) : List SibU := ps.flatMap (·.l)
section
variable {w w' : World} {A : Option Addr} {n : Nat} {ps : List PartU}
theorem PartsU.len (h : PartsU w A n ps) : ps.length = n := by simpa using h.row.1
theorem PartsU.gr (h : PartsU w A n ps) (g : Gr w w') : PartsU w' A n ps := ⟨g.rd h.row, fun p hp => ⟨(h.each p hp).1.gr g, (h.each p hp).2⟩⟩
theorem PartsU.at_ (h : PartsU w A n ps) {k : Nat} (hk : k < n) : ∃ ad p, A = some ad ∧ ps[k]? = some p ∧ w.cell? (ad.add k) = some p.val ∧ CellsR w p.A (p.l.flatMap sibU) ∧ p.l.length = p.n := by
  have hl : k < ps.length := by rw [h.len]; exact hk
  obtain ⟨ad, e, hc⟩ := h.row.2 k (ps[k]).val (by simp [List.getElem?_eq_getElem hl])
  have hm : ps[k] ∈ ps := List.getElem_mem _
  exact ⟨ad, ps[k], e, List.getElem?_eq_getElem hl, hc, (h.each _ hm).1, (h.each _ hm).2⟩
end
theorem allU_take {ps : List PartU} {k : Nat} {p : PartU} (h : ps[k]? = some p) : allU (ps.take (k + 1)) = allU (ps.take k) ++ p.l := by
  rw [take_snoc_ ps k p h, allU, List.flatMap_append]
  simp [allU]
theorem allU_le {ps : List PartU} (k : Nat) : (allU (ps.take k)).length ≤ (allU ps).length := by
  have e : allU ps = allU (ps.take k) ++ allU (ps.drop k) := by
    rw [allU, allU, allU, ← List.flatMap_append, List.take_append_drop]
  rw [e, List.length_append]
  omega
def CatQ (L : List SibU) (w : World) (e : Ending) (w' : World) : Prop := ∃ A n c, e = .returned (.slice A n c) ∧ n = L.length ∧ w'.ownsRow w.heap.size 44 20 (.slice A n c) n (L.flatMap sibU) ∧ Below w.heap.size w w'
theorem own_slice {w : World} {B : Nat} {e : TypeId} {k : Nat} {v : Value} {n : Nat} {xs : List Value} (h : w.ownsRow B e k v n xs) : ∃ A c, v = .slice A n c := by
  rcases h.2 with ⟨rfl, rfl⟩ | ⟨g, cap, cur, rfl, _⟩
  · exact ⟨_, _, rfl⟩
  · exact ⟨_, _, rfl⟩
set_option maxRecDepth 100000 in
set_option maxHeartbeats 2000000 in
theorem concatS_any (A : Option Addr) (n c : Nat) (ps : List PartU) (hn : n ≤ 1000000) (hl : (allU ps).length ≤ 1000000) (w : World) (h : PartsU w A n ps) :
    Calls Tryz.prog 25 #[.slice A n c] w fun e w' => CatQ (allU ps) w e w' := by
  obtain ⟨i0, z0, hi0, hz0, hz1, hz2, hz3⟩ := infoSb_parts
  obtain ⟨T, hT⟩ : ∃ T : Nat → List SibU, T = fun k => allU (ps.take k) := ⟨_, rfl⟩
  have hTl : ∀ k, (T k).length ≤ 1000000 := by intro k; rw [hT]; exact Nat.le_trans (allU_le k) hl
  have hTs : ∀ k p, ps[k]? = some p → T (k + 1) = T k ++ p.l := by intro k p hp; rw [hT]; exact allU_take hp
  have hTe : ∀ k, k = n → allU ps = T k := by intro k hk; rw [hT, hk, ← h.len]; simp
  have hT0 : T 0 = [] := by rw [hT]; simp [allU]
  have HTL := Lib.hid hTl
  have HTS := Lib.hid hTs
  have HTE := Lib.hid hTe
  have HT0 := Lib.hid hT0
  clear hT hTl hTs hTe hT0 hl
  go_enter Tryz.func25, Tryz.ntmps25
  go_wp2_with fail
  go_loop [3, 11] (fun s i => ∃ k z : Nat, k ≤ n ∧ i = .int .i64 k ∧ s = .int .i64 z ∧ Hid (z = (T k).length)) (fun _ i => n - (intOf i).toNat)
  case atStart => exact ⟨0, 0, by omega, rfl, rfl, by show _ = _; rw [HT0.out]; rfl⟩
  case round =>
    obtain ⟨k, z, hk, rfl, rfl, hz⟩ := hrel
    by_cases hlt : k < n
    · obtain ⟨ad, p, rfl, hp, hc, hr, hpl⟩ := h.at_ hlt
      have hc' : w.cell? (ad.add k) = some (.slice p.A p.n p.c) := hc
      have hz2 : z + p.n = (T (k + 1)).length := by rw [HTS.out k p hp, List.length_append, hz.out, hpl]
      have hz3 : z + p.n ≤ 1000000 := by rw [hz2]; exact HTL.out _
      have HZ2 := Lib.hid hz2
      clear hz2 hc hp hpl
      go_wp2_with fail
      go_round
      case rel => exact ⟨k + 1, z + p.n, by omega, by go_num, by go_num, HZ2⟩
      case measure => simp [intOf]; omega
    · obtain rfl : n = k := by omega
      have hzl : z ≤ 1000000 := by rw [hz.out]; exact HTL.out _
      go_wp2_with (go_at_call 58; refine (growS_any z (by omega) _).mono ?_; rintro e w1 ⟨v1, rfl, ho1, hB1⟩)
      have h1 := h.gr hB1
      clear hlt hk hz hzl
      go_loopw [6, 27] (fun v i wr => ∃ k : Nat, k ≤ n ∧ i = .int .i64 k ∧ wr.ownsRow w.heap.size 44 20 v (T k).length ((T k).flatMap sibU) ∧ Below w.heap.size w wr) (fun _ i _ => n - (intOf i).toNat)
      case atStart => exact ⟨0, by omega, rfl, by rw [HT0.out]; exact ho1, hB1⟩
      case round =>
        clear h1 ho1 hB1
        obtain ⟨k, hk, rfl, hown, hB⟩ := hrel
        have hbs := hB.size
        by_cases hlt : k < n
        · obtain ⟨ad, p, rfl, hp, hc, hr, hpl⟩ := (h.gr hB).at_ hlt
          have hc' : wr.cell? (ad.add k) = some (.slice p.A p.n p.c) := hc
          have hTT := HTS.out k p hp
          have hl1 : (T k).length + p.n = (T (k + 1)).length := by rw [hTT, List.length_append, hpl]
          have hl2 := HTL.out (k + 1)
          have HTT := Lib.hid hTT
          have hll : (p.l.flatMap sibU).length = p.n * 20 := by rw [sibsU_len, hpl]
          have HLL := Lib.hid hll
          obtain ⟨m, hm⟩ : ∃ m, m = (T k).length := ⟨_, rfl⟩
          rw [← hm] at hown hl1
          have hl3 : m + p.n ≤ 1000000 := by omega
          have HL1 := Lib.hid hl1
          clear hl1 hl2 hc hp hpl hTT hm hll
          go_wp2_with (at_builtin; go_must (refine wpList_appK _ rfl (.tmp 31) (.tmp 32) 23 rfl w.heap.size 44 i0 z0 20 192 Tryz.underlying23 hi0 hz0 hz1 hz2 hz3 (by omega) u6 m _ rfl hown p.A p.n p.c _ rfl HLL.out hr (sibsU_one _) (by omega) (by unfold maxLen; omega) (by omega) ?_; rintro v2 w2 ho2 hB2))
          replace hB2 := hB.trans hB2
          rw [← List.flatMap_append, ← HTT.out, HL1.out] at ho2
          clear hown hB hr
          go_simp
          go_wp2_with fail
          go_roundw
          case rel => exact ⟨k + 1, by omega, by go_num, ho2⟩
          case measure => simp [intOf]; omega
        · obtain rfl : n = k := by omega
          rw [← HTE.out n rfl] at hown
          obtain ⟨A9, c9, rfl⟩ := own_slice hown
          have HO := Lib.hid hown
          clear hown
          generalize hm : (allU ps).length = m at HO ⊢
          have HM := Lib.hid hm
          clear hm
          go_wp2_with fail
          go_ret
          exact ⟨_, _, _, rfl, HM.out.symm, HO.out, hB⟩
end Go.Proofs.YteckblffpidigaaGreatDoor
