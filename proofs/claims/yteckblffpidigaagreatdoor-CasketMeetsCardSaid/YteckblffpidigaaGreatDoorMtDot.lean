/- The walks of dot's small functions: right, looking for a write in a row, a copy of a row. No condition. -/
import Derived.Test.YteckblffpidigaaGreatDoorMtDots
import Derived.Test.YteckblffpidigaaGreatDoorKitT
import Derived.BigQuiet
import Derived.Deep.CutBlock
namespace Go.Proofs.YteckblffpidigaaGreatDoor
open Go.RowKit
set_option maxHeartbeats 2000000 in
theorem right_any (d : DotM) (hd : rightD d) (w : World) : Calls Tryz.prog 38 #[.agg (encD d).toArray] w fun e w' => e = .returned (.bool true) ∧ Gr w w' := by
  obtain ⟨a, b⟩ := d
  obtain ⟨h1, h2, h3, h4⟩ := hd
  simp only at h1 h2 h3 h4
  have c1 : (1 : Int) ≤ (a : Int) := by omega
  have c2 : (a : Int) ≤ 16 := by omega
  have c3 : (1 : Int) ≤ (b : Int) := by omega
  have c4 : (b : Int) ≤ 1099511627776 := by omega
  clear h1 h2 h3 h4
  have hA : Arr (w.alloc (.cells (encD (a, b)).toArray 39)) w.heap.size 39 (encD (a, b)) := Arr.newAt rfl rfl
  have hG : Gr w (w.alloc (.cells (encD (a, b)).toArray 39)) := Gr.alloc _ _
  go_enter Tryz.func38, Tryz.ntmps38
  go_upto_region 1 with fail
  change Code.wp _ _ _ _ (w.alloc (.cells (encD (a, b)).toArray 39))
  generalize w.alloc (.cells (encD (a, b)).toArray 39) = w0 at hA hG ⊢
  have a0 := hA.cell (i := 0) (v := .int .i64 (a : Int)) rfl
  have a1 := hA.cell (i := 1) (v := .int .i64 (b : Int)) rfl
  clear hA
  go_wp2_with fail
  go_ret
  exact ⟨rfl, hG⟩
theorem rangeD {w : World} {g o : Nat} {d : DotM} (h : w.rangeAt g o (encD d)) : w.cell? ⟨g, o, none⟩ = some (.int .i64 (d.1 : Int)) ∧ w.cell? ⟨g, o + 1, none⟩ = some (.int .i64 (d.2 : Int)) := ⟨h 0 _ rfl, h 1 _ rfl⟩
theorem infoDot (d : DotM) : (Tryz.prog.info? 39).map (·.size) = some (encD d).length := by
  show _ = some 2
  kernel_rfl
theorem eqDot (p q : DotM) (w : World) : (Op.equalIn 10000 39 (.agg (encD p).toArray) (.agg (encD q).toArray)).run Tryz.prog w = .ok (decide (p = q)) w := by
  obtain ⟨a, b⟩ := p
  obtain ⟨x, y⟩ := q
  have h := run_equalIn_struct (P := Tryz.prog) w 9999 39 (encD (a, b)).toArray (encD (x, y)).toArray (by kernel_rfl) (by kernel_rfl)
  have e : ∀ u v : Nat, ((u : Int) == (v : Int)) = decide (u = v) := fun u v => by
    rw [Bool.eq_iff_iff, beq_iff_eq, decide_eq_true_eq]
    omega
  have hd : decide ((a, b) = (x, y)) = (decide (a = x) && decide (b = y)) := by
    rw [Bool.eq_iff_iff]
    simp
  rw [h, hd, ← e, ← e]
  simp only [encD]
  go_simp
  by_cases h1 : a = x <;> by_cases h2 : b = y <;> simp [h1, h2]
theorem eqDotF {p q : DotM} {r : Bool} (h : decide (p = q) = r) (w : World) : (Op.equalIn 10000 39 (.agg #[.int .i64 (p.1 : Int), .int .i64 (p.2 : Int)]) (.agg #[.int .i64 (q.1 : Int), .int .i64 (q.2 : Int)])).run Tryz.prog w = .ok r w := by
  rw [← h]
  exact eqDot p q w
theorem run_eqDot {ev : Operand → Value} {d : Option Tmp} {t : TypeId} {p : String} {af : Array Edge} {gd : Option (Nat × Bool)} {w : World} {x y : Operand} {T : TypeId} {D E : DotM} (h1 : ev x = .agg (encD D).toArray) (h2 : ev y = .agg (encD E).toArray) :
    (execOp ev ⟨d, .binOp .eql 39 x y T, t, p, af, gd⟩).run Tryz.prog w = .ok (.value (.bool (decide (D = E)))) w := by
  obtain ⟨a, b⟩ := D
  obtain ⟨u, v⟩ := E
  have e : ∀ u v : Nat, ((u : Int) == (v : Int)) = decide (u = v) := fun u v => by
    rw [Bool.eq_iff_iff, beq_iff_eq, decide_eq_true_eq]
    omega
  have hd : decide ((a, b) = (u, v)) = (decide (a = u) && decide (b = v)) := by
    rw [Bool.eq_iff_iff]
    simp
  rw [hd, ← e, ← e]
  simp only [encD] at h1 h2
  simp only [execOp, h1, h2]
  go_simp
  by_cases h3 : a = u <;> by_cases h4 : b = v <;> simp [h3, h4]
/-- Where a write stands in a row, or that it doesn't. -/
def IdxQ (L : List DotM) (d : DotM) (z : Int) : Prop := (0 ≤ z ↔ d ∈ L)
set_option maxRecDepth 100000 in
set_option maxHeartbeats 4000000 in
theorem indexD_any {A : Option Addr} {n c : Nat} {L : List DotM} {d : DotM} {w : World} (hL : DotsR w A n L) (hn : n ≤ 1000000) :
    Calls Tryz.prog 91 #[.slice A n c, .agg (encD d).toArray] w fun e w' => ∃ z, e = .returned (.int .i64 z) ∧ Hid (IdxQ L d z) ∧ Gr w w' := by
  obtain ⟨a, b⟩ := d
  have HL := Lib.hid hL
  have hlen := hL.1
  have HLen := Lib.hid hlen
  clear hL hlen
  have hA : Arr (w.alloc (.cells (encD (a, b)).toArray 39)) w.heap.size 39 (encD (a, b)) := Arr.newAt rfl rfl
  have hG : Gr w (w.alloc (.cells (encD (a, b)).toArray 39)) := Gr.alloc _ _
  go_enter Tryz.func91, Tryz.ntmps91
  go_upto_region 1 with fail
  change Code.wp _ _ _ _ (w.alloc (.cells (encD (a, b)).toArray 39))
  generalize hw0 : w.alloc (.cells (encD (a, b)).toArray 39) = w0 at hA hG ⊢
  generalize hg0 : w.heap.size = g0 at hA ⊢
  clear hw0 hg0
  have HL0 := Lib.hid (HL.out.gr hG)
  go_upto_region 2 with fail
  go_loopw [8] (fun i wr => ∃ k : Nat, k ≤ n ∧ i = .int .i64 (k : Int) ∧ Hid (∀ j, j < k → L[j]? ≠ some (a, b)) ∧ Gr w0 wr) (fun i _ => n - (intOf i).toNat)
  case atStart => exact ⟨0, Nat.zero_le _, rfl, Lib.hid (fun j h => by omega), Gr.refl _⟩
  case round =>
    obtain ⟨k, hk, rfl, hno, hGr⟩ := hrel
    by_cases hlt : k < n
    · obtain ⟨⟨x, y⟩, hy⟩ : ∃ y, L[k]? = some y := ⟨_, List.getElem?_eq_getElem (by rw [HLen.out]; exact hlt)⟩
      have hki : (k : Int) < (n : Int) := by omega
      obtain ⟨bA, oA, rfl, hr⟩ := (HL0.out.gr hGr).2 k _ hy
      obtain ⟨k0, k1⟩ := rangeD hr
      have hAr := hA.gr hGr
      have a0 := hAr.cell (i := 0) (v := .int .i64 (a : Int)) rfl
      have a1 := hAr.cell (i := 1) (v := .int .i64 (b : Int)) rfl
      have HY := Lib.hid hy
      clear hy
      simp only at k0 k1
      go_upto_region 4 with fail
      by_cases hxy : (a, b) = (x, y)
      · have hq := eqDotF (p := (a, b)) (q := (x, y)) (decide_eq_true hxy)
        have hm : (a, b) ∈ L := by rw [hxy]; exact List.mem_of_getElem? HY.out
        have HM := Lib.hid hm
        simp only at hq
        clear hxy hm
        go_quiet (fail)
        go_wp2_with fail
        go_ret
        exact ⟨_, rfl, Lib.hid ⟨fun _ => HM.out, fun _ => by omega⟩, hG.trans (hGr.trans (below_dr ⟨_, rfl⟩))⟩
      · have hq := eqDotF (p := (a, b)) (q := (x, y)) (decide_eq_false hxy)
        have HN : Hid (∀ j, j < k + 1 → L[j]? ≠ some (a, b)) := Lib.hid (fun j hj => by
          rcases Nat.lt_or_eq_of_le (Nat.le_of_lt_succ hj) with h | h
          · exact hno.out j h
          · subst h
            rw [HY.out]
            intro e
            exact hxy (Option.some.inj e).symm)
        simp only at hq
        clear hxy hno
        go_quiet (fail)
        go_wp2_with fail
        exact ⟨⟨k + 1, by omega, by simp, HN, hGr.trans (below_dr ⟨_, rfl⟩)⟩, by simp only [intOf]; omega⟩
    · have hki : ¬ (k : Int) < (n : Int) := by omega
      have HM : Hid ((a, b) ∉ L) := Lib.hid (fun h => by
        obtain ⟨j, hj, he⟩ := List.mem_iff_getElem.1 h
        have hl := HLen.out
        exact hno.out j (by omega) (by rw [List.getElem?_eq_getElem hj, he]))
      clear hno
      go_wp2_with fail
      go_ret
      exact ⟨-1, rfl, Lib.hid ⟨fun h => absurd h (by omega), fun h => absurd h HM.out⟩, hG.trans hGr⟩
set_option maxHeartbeats 2000000 in
theorem containsD_any {A : Option Addr} {n c : Nat} {L : List DotM} {d : DotM} {w : World} (hL : DotsR w A n L) (hn : n ≤ 1000000) :
    Calls Tryz.prog 67 #[.slice A n c, .agg (encD d).toArray] w fun e w' => e = .returned (.bool (decide (d ∈ L))) ∧ Gr w w' := by
  obtain ⟨a, b⟩ := d
  have HL := Lib.hid hL
  clear hL
  have hA : Arr (w.alloc (.cells (encD (a, b)).toArray 39)) w.heap.size 39 (encD (a, b)) := Arr.newAt rfl rfl
  have hG : Gr w (w.alloc (.cells (encD (a, b)).toArray 39)) := Gr.alloc _ _
  obtain ⟨r, hr⟩ : ∃ r, r = decide ((a, b) ∈ L) := ⟨_, rfl⟩
  rw [← hr]
  have HR := Lib.hid hr
  clear hr
  go_enter Tryz.func67, Tryz.ntmps67
  go_upto_region 1 with fail
  change Code.wp _ _ _ _ (w.alloc (.cells (encD (a, b)).toArray 39))
  generalize w.alloc (.cells (encD (a, b)).toArray 39) = w0 at hA hG ⊢
  generalize w.heap.size = g0 at hA ⊢
  have HI := Lib.hid (indexD_any (c := c) (d := (a, b)) (HL.out.gr hG) hn)
  have a0 := hA.cell (i := 0) (v := .int .i64 (a : Int)) rfl
  have a1 := hA.cell (i := 1) (v := .int .i64 (b : Int)) rfl
  clear hA
  cases r with
  | true =>
    have hm := of_decide_eq_true HR.out.symm
    have HM := Lib.hid hm
    clear hm
    go_wp2_with (go_at_call 91; refine HI.out.mono ?_; rintro e w1 ⟨z, rfl, hz, hG1⟩; have hz0 : decide (0 ≤ z) = true := decide_eq_true (hz.out.2 HM.out))
    go_ret
    exact ⟨rfl, hG.trans hG1⟩
  | false =>
    have hm := of_decide_eq_false HR.out.symm
    have HM := Lib.hid hm
    clear hm
    go_wp2_with (go_at_call 91; refine HI.out.mono ?_; rintro e w1 ⟨z, rfl, hz, hG1⟩; have hz0 : decide (0 ≤ z) = false := decide_eq_false (fun h => HM.out (hz.out.1 h)))
    go_ret
    exact ⟨rfl, hG.trans hG1⟩
end Go.Proofs.YteckblffpidigaaGreatDoor
