/- Slices of slices of bytes; slices.Grow and slices.Concat of them. No condition. -/
import Derived.Lib.AppendZerosOnto
import Derived.Test.YtmcnnjcbgbdeeaaDoorKitA
import Derived.Test.YtmcnnjcbgbdeeaaDoorSl
namespace Go.Proofs.YtmcnnjcbgbdeeaaDoor
open Go.RowKit Go.Lib
/-- One slice of bytes, as it lies. -/
structure Part where
  A : Option Addr
  n : Nat
  c : Nat
  l : List UInt8
def Part.val (p : Part) : Value := .slice p.A p.n p.c
/-- The address A begins n places with these slices, each of which reads its bytes. -/
structure Parts (w : World) (A : Option Addr) (n : Nat) (ps : List Part) : Prop where
  row : Rd w A n (ps.map Part.val)
  each : ∀ p ∈ ps, Rd w p.A p.n (u8s p.l) ∧ p.n ≤ p.c
def allP (ps : List Part) : List UInt8 := ps.flatMap (·.l)
section
variable {w w' : World} {A : Option Addr} {n : Nat} {ps : List Part}
theorem Parts.len (h : Parts w A n ps) : ps.length = n := by simpa using h.row.1
theorem Parts.gr (h : Parts w A n ps) (g : Gr w w') : Parts w' A n ps := ⟨g.rd h.row, fun p hp => ⟨g.rd (h.each p hp).1, (h.each p hp).2⟩⟩
theorem Parts.at_ (h : Parts w A n ps) {k : Nat} (hk : k < n) : ∃ ad p, A = some ad ∧ ps[k]? = some p ∧ w.cell? (ad.add k) = some p.val ∧ Rd w p.A p.n (u8s p.l) ∧ p.n ≤ p.c ∧ p.l.length = p.n := by
  have hl : k < ps.length := by rw [h.len]; exact hk
  obtain ⟨ad, e, hc⟩ := h.row.2 k (ps[k]).val (by simp [List.getElem?_eq_getElem hl])
  have hm : ps[k] ∈ ps := List.getElem_mem _
  refine ⟨ad, ps[k], e, List.getElem?_eq_getElem hl, hc, (h.each _ hm).1, (h.each _ hm).2, ?_⟩
  simpa using (h.each _ hm).1.1
end
theorem allP_take {ps : List Part} {k : Nat} {p : Part} (h : ps[k]? = some p) : allP (ps.take (k + 1)) = allP (ps.take k) ++ p.l := by
  rw [take_snoc_ ps k p h, allP, List.flatMap_append]
  simp [allP]
theorem allP_le {ps : List Part} (k : Nat) : (allP (ps.take k)).length ≤ (allP ps).length := by
  have e : allP ps = allP (ps.take k) ++ allP (ps.drop k) := by
    rw [allP, allP, allP, ← List.flatMap_append, List.take_append_drop]
  rw [e, List.length_append]
  omega
theorem zeroCells_size (z : Value) (hz : z.cells.size = 1) (n : Nat) : (Builtin.zeroCells z.cells n).size = n := by simp [Builtin.zeroCells, hz]
set_option maxRecDepth 100000 in
set_option maxHeartbeats 2000000 in
theorem growNil_any (n : Nat) (hn : n ≤ 1000000000) (w : World) :
    Calls Tryd.prog 42 #[.slice none 0 0, .int .i64 n] w fun e w' => ∃ v, e = .returned v ∧ w'.ownsRow w.heap.size 5 1 v 0 [] ∧ Below w.heap.size w w' := by
  obtain ⟨i0, hi0, hz0, hz1, hz2⟩ := info_parts Tryd.info5
  have h1 : ¬ ((n : Int) < 0) := by omega
  rcases Nat.eq_zero_or_pos n with h0 | h0
  · subst h0
    simp only [show ((0 : Nat) : Int) = 0 from rfl]
    go_enter Tryd.func42, Tryd.ntmps42
    go_wp2_with fail
    go_ret
    exact ⟨_, rfl, World.ownsRow_nil _ _ _ _, Below.refl _ _⟩
  · have hrz := fun ty => Lib.run_append_grow_zeros (P := Tryd.prog) w 42 3 ty 5 i0 (.int .u8 0) .i64 .i64 Tryd.underlying42 Tryd.underlying3 hi0 hz0 none 0 0 [] (by rw [hz1]; exact run_firstCells_none w.drew 1 0 0 0) n (by omega) (by omega) (by omega) (by omega) (by rw [hz2]; omega) (growslice_fits (by omega) (by rw [hz2]; omega))
    simp only [Nat.zero_add] at hrz
    have hg := grownCap_ge w n 0 5
    have hm := grownCap_le_maxLen w n 0 5 (by unfold maxLen; omega)
    have hg2 : grownCap w n 0 5 ≤ 9223372036854775807 := by unfold maxLen at hm; exact hm
    generalize grownCap w n 0 5 = G at hrz hg hm hg2
    have h4 : (0 : Int) < (n : Int) := by omega
    go_enter Tryd.func42, Tryd.ntmps42
    go_wp2_with (at_builtin; refine Lib.wpList_append_run _ rfl _ _ _ _ rfl _ _ rfl rfl _ _ (hrz _) ?_)
    go_ret
    refine ⟨_, rfl, ⟨rfl, .inr ⟨w.heap.size, G, _, rfl, Nat.le_refl _, heap_alloc_new _ _, by omega, hm, ?_, rfl⟩⟩, ?_⟩
    · have e : ∀ k, (Builtin.zeroCells #[Value.int .u8 0] k).size = k := fun k => zeroCells_size (.int .u8 0) rfl k
      simp only [Nat.mul_one, Array.size_append, e]
      omega
    · exact ((Below.refl _ _).drew).alloc (Nat.le_refl _) _
set_option maxRecDepth 100000 in
set_option maxHeartbeats 2000000 in
theorem concat_any (A : Option Addr) (n c : Nat) (ps : List Part) (hn : n ≤ 1000000) (hl : (allP ps).length ≤ 1000000) (w : World) (h : Parts w A n ps) :
    Calls Tryd.prog 30 #[.slice A n c] w fun e w' => ∃ v, e = .returned v ∧ w'.ownsRow w.heap.size 5 1 v (allP ps).length (u8s (allP ps)) ∧ Below w.heap.size w w' := by
  obtain ⟨i0, hi0, hz0, hz1, hz2⟩ := info_parts Tryd.info5
  obtain ⟨T, hT⟩ : ∃ T : Nat → List UInt8, T = fun k => allP (ps.take k) := ⟨_, rfl⟩
  have hTl : ∀ k, (T k).length ≤ 1000000 := by intro k; rw [hT]; exact Nat.le_trans (allP_le k) hl
  have hTs : ∀ k p, ps[k]? = some p → T (k + 1) = T k ++ p.l := by intro k p hp; rw [hT]; exact allP_take hp
  have hTe : ∀ k, k = n → allP ps = T k := by intro k hk; rw [hT, hk, ← h.len]; simp
  have hT0 : T 0 = [] := by rw [hT]; simp [allP]
  have HTL := Lib.hid hTl
  have HTS := Lib.hid hTs
  have HTE := Lib.hid hTe
  have HT0 := Lib.hid hT0
  clear hT hTl hTs hTe hT0 hl
  go_enter Tryd.func30, Tryd.ntmps30
  go_wp2_with fail
  go_loop [3, 11] (fun s i => ∃ k z : Nat, k ≤ n ∧ i = .int .i64 k ∧ s = .int .i64 z ∧ Hid (z = (T k).length)) (fun _ i => n - (intOf i).toNat)
  case atStart => exact ⟨0, 0, by omega, rfl, rfl, by show _ = _; rw [HT0.out]; rfl⟩
  case round =>
    obtain ⟨k, z, hk, rfl, rfl, hz⟩ := hrel
    by_cases hlt : k < n
    · obtain ⟨ad, p, rfl, hp, hc, hr, hpc, hpl⟩ := h.at_ hlt
      have hc' : w.cell? (ad.add k) = some (.slice p.A p.n p.c) := hc
      have hz2 : z + p.n = (T (k + 1)).length := by rw [HTS.out k p hp, List.length_append, hz.out, hpl]
      have hz3 : z + p.n ≤ 1000000 := by rw [hz2]; exact HTL.out _
      have HZ2 := Lib.hid hz2
      clear hz2 hc hp hpl
      go_wp2_with fail
      go_round
      case rel => exact ⟨k + 1, z + p.n, by omega, by go_num, by go_num, HZ2⟩
      case measure => simp [intOf]; omega
    · obtain rfl : n = k := by omega
      have hzl : z ≤ 1000000 := by rw [hz.out]; exact HTL.out _
      go_wp2_with (go_at_call 42; refine (growNil_any z (by omega) _).mono ?_; rintro e w1 ⟨v1, rfl, ho1, hB1⟩)
      have h1 := h.gr hB1
      clear hlt hk hz hzl
      go_loopw [6, 27] (fun v i wr => ∃ k : Nat, k ≤ n ∧ i = .int .i64 k ∧ wr.ownsRow w.heap.size 5 1 v (T k).length (u8s (T k)) ∧ Below w.heap.size w wr) (fun _ i _ => n - (intOf i).toNat)
      case atStart => exact ⟨0, by omega, rfl, by rw [HT0.out]; exact ho1, hB1⟩
      case round =>
        clear h1 ho1 hB1
        obtain ⟨k, hk, rfl, hown, hB⟩ := hrel
        have hbs := hB.size
        by_cases hlt : k < n
        · obtain ⟨ad, p, rfl, hp, hc, hr, hpc, hpl⟩ := (h.gr hB).at_ hlt
          have hc' : wr.cell? (ad.add k) = some (.slice p.A p.n p.c) := hc
          have hTT := HTS.out k p hp
          have hl1 : (T k).length + p.n = (T (k + 1)).length := by rw [hTT, List.length_append, hpl]
          have hl2 := HTL.out (k + 1)
          have HTT := Lib.hid hTT
          obtain ⟨m, hm⟩ : ∃ m, m = (T k).length := ⟨_, rfl⟩
          rw [← hm] at hown hl1
          have hl3 : m + p.n ≤ 1000000 := by omega
          have HL1 := Lib.hid hl1
          clear hl1 hl2 hc hp hpl hTT hm
          go_wp2_with (at_builtin; go_must (refine wpList_app _ rfl (.tmp 31) (.tmp 32) 42 rfl w.heap.size 5 i0 (.int .u8 0) 1 Tryd.underlying42 hi0 hz0 hz1 hz2 rfl u6 m _ rfl hown p.A p.n p.c _ rfl hr (u8s_oneCell _) (by omega) (by unfold maxLen; omega) (by omega) ?_; rintro v2 w2 hA2))
          have ho2 := hA2.own
          have hB2 := hB.trans (hA2.below hown hbs)
          rw [← u8s_append, ← HTT.out, HL1.out] at ho2
          clear hA2 hown hB hr
          go_simp
          go_wp2_with fail
          go_roundw
          case rel => exact ⟨k + 1, by omega, by go_num, ho2⟩
          case measure => simp [intOf]; omega
        · obtain rfl : n = k := by omega
          rw [← HTE.out n rfl] at hown
          go_wp2_with fail
          go_ret
          exact ⟨_, rfl, hown, hB⟩
end Go.Proofs.YtmcnnjcbgbdeeaaDoor
