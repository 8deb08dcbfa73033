/- The walk of the law Sha2Lengths. No condition. -/
import Derived.Test.YtkhbnandmhlnoaaDoorSSums
import Derived.Test.YtkhbnandmhlnoaaDoorRem
import Derived.Test.YtkhbnandmhlnoaaDoorSsaD
import Derived.Stop.BytesEq
import Derived.Test.YtkhbnandmhlnoaaDoorMake
namespace Go.Proofs.YtkhbnandmhlnoaaDoor
open Go.RowKit
/-- A slice of slices that read together as this text. -/
def PartsV (n c : Nat) (l : List UInt8) (v : Value) (w : World) : Prop := ∃ A ps, v = .slice A n c ∧ Parts w A n ps ∧ allP ps = l
theorem PartsV.gr {n c : Nat} {l : List UInt8} {v : Value} {w w' : World} (h : PartsV n c l v w) (g : Gr w w') : PartsV n c l v w' := by
  obtain ⟨A, ps, h1, h2, h3⟩ := h
  exact ⟨A, ps, h1, h2.gr g, h3⟩
theorem run_quo3 {ev : Operand → Value} {d : Option Tmp} {t : TypeId} {p : String} {af : Array Edge} {gd : Option (Nat × Bool)} {w : World} {x : Operand} {m q : Nat} (h1 : ev x = .int .i64 (m : Int)) (hm : m ≤ 1000000) (hq : (m : Int).tdiv 3 = (q : Int)) (h3 : ev (.const (.int .i64 3)) = .int .i64 3) :
    (execOp ev ⟨d, .binOp .quo 3 x (.const (.int .i64 3)) 3, t, p, af, gd⟩).run Tryd.prog w = .ok (.value (.int .i64 (q : Int))) w := by
  have hb : 0 ≤ (q : Int) ∧ (q : Int) ≤ 1000000 := by
    rw [← hq, Int.tdiv_eq_ediv_of_nonneg (by omega)]
    omega
  simp only [execOp, h1, h3]
  go_simp
  exact IntWalk.i64_in _ (by omega)
theorem run_eqA32 {ev : Operand → Value} {d : Option Tmp} {t : TypeId} {p : String} {af : Array Edge} {gd : Option (Nat × Bool)} {w : World} {x y : Operand} {T : TypeId} {D : List UInt8} (hD : D.length = 32) (h1 : ev x = .agg (u8s D).toArray) (h2 : ev y = .agg (u8s D).toArray) :
    (execOp ev ⟨d, .binOp .eql 25 x y T, t, p, af, gd⟩).run Tryd.prog w = .ok (.value (.bool true)) w := by
  have h3 : (Op.equalIn 10000 25 (.agg (u8s D).toArray) (.agg (u8s D).toArray)).run Tryd.prog w = .ok (D == D) w := run_equalIn_bytes (P := Tryd.prog) w 9998 25 5 32 Tryd.underlying25 Tryd.underlying5 (fun w => by kernel_rfl) D D hD hD
  rw [beq_self_eq_true] at h3
  simp only [execOp, h1, h2]
  go_simp
theorem run_build3S {ev : Operand → Value} {d : Option Tmp} {t : TypeId} {p : String} {af : Array Edge} {gd : Option (Nat × Bool)} {w : World} {x y z : Operand} {A B C : Option Addr} {n c n2 c2 n3 c3 : Nat} (h1 : ev x = .slice A n c) (h2 : ev y = .slice B n2 c2) (h3 : ev z = .slice C n3 c3) :
    (execOp ev ⟨d, .buildSlice 22 3 #[(0, x), (1, y), (2, z)], t, p, af, gd⟩).run Tryd.prog w = .ok (.value (.slice (some ⟨w.heap.size, 0, none⟩) 3 3)) (w.alloc (.cells #[.slice A n c, .slice B n2 c2, .slice C n3 c3] 28)) := by
  simp only [execOp]
  go_simp
set_option maxRecDepth 100000 in
set_option maxHeartbeats 8000000 in
theorem law_lens (z : Int) (b : UInt8) (w : World) (gw : Glob w) :
    Calls Tryd.prog 4 #[.int .i64 z, .int .u8 b.toNat] w fun e w' => e = .returned (.bool true) ∧ Below w.heap.size w w' := by
  obtain ⟨i0, hi0, hz0, hz1, hz2⟩ := info_parts Tryd.info5
  obtain ⟨k, hk, hkw⟩ := wrap_remN z 120 (by omega) (by omega)
  simp only [show ((120 : Nat) : Int) = 120 from rfl] at hkw
  obtain ⟨m, hm⟩ : ∃ m, m = 40 + k := ⟨_, rfl⟩
  obtain ⟨w5, hmk, ho5, hG5⟩ := run_makeU8 (P := Tryd.prog) w Tryd.underlying28 hi0 hz0 hz1 hz2 .i64 .i64 m (by omega)
  have hmi : 40 + (k : Int) = (m : Int) := by omega
  have hwm : wrap64 (m : Int) = m := IntWalk.wrap64_in _ (by omega)
  have hM5 := (Mem.nil w).cons (Nat.le_refl _) hG5 (Arr.of_ownN ho5) (Nat.le_refl _)
  have hml : m < 160 := by omega
  have hmp : 40 ≤ m := by omega
  clear ho5 hG5 hm
  go_enter Tryd.func4, Tryd.ntmps4
  go_wp2_with fail
  simp only [hkw]
  go_wp2_with fail
  obtain ⟨g, hg⟩ : ∃ g, g = w.heap.size := ⟨_, rfl⟩
  simp only [← hg] at hM5 ⊢
  have hB0 : g ≤ w.heap.size := Nat.le_of_eq hg
  have HG := Lib.hid hg
  clear hg hkw hmk hwm hmi
  go_loopw [6] (fun i wr => ∃ r : Nat, r ≤ m ∧ i = .int .i64 r ∧ ∃ Bl : List UInt8, Bl.length = m ∧ Mem g w wr [(g, 5, u8s Bl)]) (fun i _ => m - (intOf i).toNat)
  case atStart => exact ⟨0, by omega, rfl, _, by simp, hM5⟩
  case round =>
    clear hM5
    obtain ⟨r, hr, rfl, Bl, hBl, hM⟩ := hrel
    by_cases hlt : r < m
    · have c9 := (hM.at_ 0 rfl).cell (i := r) (u8s_at (List.getElem?_eq_getElem (by omega)))
      have f9 := (hM.at_ 0 rfl).frozen r
      go_wp2_with fail
      obtain ⟨y, hy⟩ := byte_of ((b.toNat : Int) + r)
      have hM' := hM.set 0 rfl r (.int .u8 (y.toNat : Int))
      rw [u8s_set] at hM'
      simp only [List.set] at hM'
      rw [hy]
      exact ⟨⟨r + 1, by omega, by go_num, _, by simp [hBl], hM'⟩, by simp [intOf]; omega⟩
    · obtain rfl : m = r := by omega
      have hrB := Arr.rdAllS (hM.at_ 0 rfl) hBl
      have hgw : g < wr.heap.size := hM.lt 0 rfl
      have hbw : Below w.heap.size w wr := by rw [← HG.out]; exact hM.below
      have gwr : Glob wr := Glob.below hbw gw
      obtain ⟨q, hq⟩ : ∃ q, q = m / 3 := ⟨_, rfl⟩
      have hqm : q ≤ m := by omega
      have HQ : Hid ((m : Int).tdiv 3 = (q : Int)) := by
        show (m : Int).tdiv 3 = (q : Int)
        rw [Int.tdiv_eq_ediv_of_nonneg (by omega)]
        omega
      have HC1 : Hid (∀ w1, (Instr.sliceAt 28 (.slice (some ⟨g, 0, none⟩) m m) none (some (.int .i64 (q : Int))) none).run Tryd.prog w1 = .ok (.slice (some ⟨g, 0, none⟩) q m) w1) :=
        fun w1 => run_cut_h (P := Tryd.prog) Tryd.underlying28 (by kernel_rfl) (hi := q) (h := (q : Int)) rfl (by omega) w1
      have HC2 : Hid (∀ w1, (Instr.sliceAt 28 (.slice (some ⟨g, 0, none⟩) m m) (some (.int .i64 (q : Int))) none none).run Tryd.prog w1 = .ok (.slice (cutA (some ⟨g, 0, none⟩) m q) (m - q) (m - q)) w1) :=
        fun w1 => run_cut_l (P := Tryd.prog) Tryd.underlying28 (by kernel_rfl) (lo := q) (l := (q : Int)) rfl (by omega) w1
      have hrq : Rd wr (some ⟨g, 0, none⟩) q (u8s (Bl.take q)) := by rw [← u8s_take]; exact hrB.take hqm
      have hrz : Rd wr (cutA (some ⟨g, 0, none⟩) m q) (m - q) (u8s (Bl.drop q)) := by rw [← u8s_drop]; exact hrB.cutL hqm (Nat.le_refl _)
      have HS : Hid (∀ w1 A n c ps, n ≤ 3 → Parts w1 A n ps → allP ps = Bl → Glob w1 → Calls Tryd.prog 8 #[.slice A n c] w1 fun e w' => e = .returned (.agg (u8s (shaL Bl)).toArray) ∧ Below w1.heap.size w1 w') := by
        intro w1 A n c ps hn hp hl hg
        exact shaSum_any A n c ps (by omega) Bl hl (by omega) w1 hp hg
      have HR : Hid (∀ w1, Calls Tryd.prog 10 #[.string ⟨Bl.toArray⟩] w1 fun e w' => e = .returned (.string ⟨(shaL Bl).toArray⟩) ∧ Below w1.heap.size w1 w') := by
        intro w1
        exact refSum_any Bl (by omega) w1
      obtain ⟨D, hD⟩ : ∃ D, D = shaL Bl := ⟨_, rfl⟩
      have hDl : D.length = 32 := by rw [hD]; simp
      rw [← hD] at HS HR
      clear hD hq hr hlt
      go_wp2_with fail
      refine wp_region_cutD (by kernel_rfl) [IsV (.slice (some ⟨g, 0, none⟩) m m), PartsV 1 1 Bl, IsV (.agg (u8s D).toArray), IsV (.slice (some ⟨g, 0, none⟩) m m), IsV (.slice (some ⟨g, 0, none⟩) m m), IsV (.int .i64 ((m : Nat) : Int)), IsV (.int .i64 ((q : Nat) : Int)), IsV (.slice (some ⟨g, 0, none⟩) q m), IsV (.slice (some ⟨g, 0, none⟩) m m), IsV (.slice (some ⟨g, 0, none⟩) m m), IsV (.int .i64 ((m : Nat) : Int)), IsV (.int .i64 ((q : Nat) : Int)), IsV (.slice (cutA (some ⟨g, 0, none⟩) m q) (m - q) (m - q)), PartsV 3 3 Bl, IsV (.agg (u8s D).toArray), NewA wr.heap.size 25 (u8s (List.replicate 32 0)), NewA wr.heap.size 25 (u8s (List.replicate 32 0))] 17 (by decide) (by kernel_rfl) (by kernel_rfl) [15, 16] (by kernel_rfl) ?_ ?_ ?_ ?_
      · intro φ hφ v w1 w2 h hg
        simp only [List.mem_cons, List.not_mem_nil, or_false] at hφ
        rcases hφ with rfl | rfl | rfl | rfl | rfl | rfl | rfl | rfl | rfl | rfl | rfl | rfl | rfl | rfl | rfl | rfl | rfl
        all_goals first | exact h | exact RdV.gr h hg | exact PartsV.gr h hg | exact NewA.gr h hg
      · refine ⟨?_, ?_, ?_, ?_, ?_, ?_, ?_, ?_, ?_, ?_, ?_, ?_, ?_, ?_, ?_, ?_, ?_, trivial⟩
        · intro a1 w1 hG hF
          exact s_old rfl (wants0 rfl) (.tmp 5) (.inr rfl) (.slice (some ⟨g, 0, none⟩) m m) (hF.ol 5 (by kernel_rfl)) rfl
        · intro a1 w1 hG hF
          obtain ⟨_, e28, rfl⟩ := hF.dp 0 28 (by kernel_rfl)
          exact s_val rfl (wants0 rfl) _ rfl (.slice (some ⟨w1.heap.size, 0, none⟩) 1 1) (w1.alloc (.cells #[.slice (some ⟨g, 0, none⟩) m m] 28)) (run_build1S e28) ⟨_, [⟨some ⟨g, 0, none⟩, m, m, Bl⟩], rfl, parts1 rfl _ ⟨some ⟨g, 0, none⟩, m, m, Bl⟩ (((Gr.drew wr).trans hG).rd hrB) (Nat.le_refl _), by simp [allP]⟩ (Gr.alloc _ _)
        · intro a1 w1 hG hF
          obtain ⟨x29, e29, f29⟩ := hF.dp 1 29 (by kernel_rfl)
          obtain ⟨A29, p29, rfl, h29, l29⟩ := f29
          exact s_call rfl (wants0 rfl) _ rfl _ _ (by simp only [execOp, resolve, invoke, List.map_toArray, List.map_cons, List.map_nil, e29]; go_simp) ((HS.out w1 A29 1 1 p29 (by omega) h29 l29 (gwr.gr ((Gr.drew wr).trans hG))).mono fun e w2 ⟨he, hb⟩ => ⟨_, he, rfl, hb⟩)
        · intro a1 w1 hG hF
          exact s_old rfl (wants0 rfl) (.tmp 5) (.inr rfl) (.slice (some ⟨g, 0, none⟩) m m) (hF.ol 5 (by kernel_rfl)) rfl
        · intro a1 w1 hG hF
          exact s_old rfl (wants0 rfl) (.tmp 5) (.inr rfl) (.slice (some ⟨g, 0, none⟩) m m) (hF.ol 5 (by kernel_rfl)) rfl
        · intro a1 w1 hG hF
          obtain ⟨_, e32, rfl⟩ := hF.dp 4 32 (by kernel_rfl)
          exact s_is rfl (wants0 rfl) _ rfl (run_len_slice Tryd.underlying28 e32)
        · intro a1 w1 hG hF
          obtain ⟨_, e33, rfl⟩ := hF.dp 5 33 (by kernel_rfl)
          exact s_is rfl (wants0 rfl) _ rfl (run_quo3 e33 (by omega) HQ.out rfl)
        · intro a1 w1 hG hF
          obtain ⟨_, e31, rfl⟩ := hF.dp 3 31 (by kernel_rfl)
          obtain ⟨_, e34, rfl⟩ := hF.dp 6 34 (by kernel_rfl)
          exact s_is rfl (wants0 rfl) _ rfl (by simp only [execOp, e31, e34, Option.map, Sem.run_bind, HC1.out, Result.andThen_ok, Sem.run_pure])
        · intro a1 w1 hG hF
          exact s_old rfl (wants0 rfl) (.tmp 5) (.inr rfl) (.slice (some ⟨g, 0, none⟩) m m) (hF.ol 5 (by kernel_rfl)) rfl
        · intro a1 w1 hG hF
          exact s_old rfl (wants0 rfl) (.tmp 5) (.inr rfl) (.slice (some ⟨g, 0, none⟩) m m) (hF.ol 5 (by kernel_rfl)) rfl
        · intro a1 w1 hG hF
          obtain ⟨_, e37, rfl⟩ := hF.dp 9 37 (by kernel_rfl)
          exact s_is rfl (wants0 rfl) _ rfl (run_len_slice Tryd.underlying28 e37)
        · intro a1 w1 hG hF
          obtain ⟨_, e38, rfl⟩ := hF.dp 10 38 (by kernel_rfl)
          exact s_is rfl (wants0 rfl) _ rfl (run_quo3 e38 (by omega) HQ.out rfl)
        · intro a1 w1 hG hF
          obtain ⟨_, e36, rfl⟩ := hF.dp 8 36 (by kernel_rfl)
          obtain ⟨_, e39, rfl⟩ := hF.dp 11 39 (by kernel_rfl)
          exact s_is rfl (wants0 rfl) _ rfl (by simp only [execOp, e36, e39, Option.map, Sem.run_bind, HC2.out, Result.andThen_ok, Sem.run_pure])
        · intro a1 w1 hG hF
          obtain ⟨_, e35, rfl⟩ := hF.dp 7 35 (by kernel_rfl)
          obtain ⟨_, e40, rfl⟩ := hF.dp 12 40 (by kernel_rfl)
          exact s_val rfl (wants0 rfl) _ rfl (.slice (some ⟨w1.heap.size, 0, none⟩) 3 3) (w1.alloc (.cells #[.slice (some ⟨g, 0, none⟩) q m, .slice none 0 0, .slice (cutA (some ⟨g, 0, none⟩) m q) (m - q) (m - q)] 28)) (run_build3S e35 rfl e40) ⟨_, [⟨some ⟨g, 0, none⟩, q, m, Bl.take q⟩, ⟨none, 0, 0, []⟩, ⟨cutA (some ⟨g, 0, none⟩) m q, m - q, m - q, Bl.drop q⟩], rfl, partsN rfl _ _ _ 3 rfl rfl (by
            intro p hp
            simp only [List.mem_cons, List.not_mem_nil, or_false] at hp
            rcases hp with rfl | rfl | rfl
            · exact ⟨((Gr.drew wr).trans hG).rd hrq, hqm⟩
            · exact ⟨Rd.nil _ _, Nat.le_refl _⟩
            · exact ⟨((Gr.drew wr).trans hG).rd hrz, Nat.le_refl _⟩), by simp [allP]⟩ (Gr.alloc _ _)
        · intro a1 w1 hG hF
          obtain ⟨x41, e41, f41⟩ := hF.dp 13 41 (by kernel_rfl)
          obtain ⟨A41, p41, rfl, h41, l41⟩ := f41
          exact s_call rfl (wants0 rfl) _ rfl _ _ (by simp only [execOp, resolve, invoke, List.map_toArray, List.map_cons, List.map_nil, e41]; go_simp) ((HS.out w1 A41 3 3 p41 (by omega) h41 l41 (gwr.gr ((Gr.drew wr).trans hG))).mono fun e w2 ⟨he, hb⟩ => ⟨_, he, rfl, hb⟩)
        · intro a1 w1 hG hF
          exact s_val rfl (wants0 rfl) _ rfl _ (w1.alloc (.cells (u8s (List.replicate 32 0)).toArray 25)) (by simp only [execOp]; go_simp; kernel_rfl) ⟨_, rfl, ((Gr.drew wr).trans hG).size, Arr.newAt rfl rfl⟩ (Gr.alloc _ _)
        · intro a1 w1 hG hF
          exact s_val rfl (wants0 rfl) _ rfl _ (w1.alloc (.cells (u8s (List.replicate 32 0)).toArray 25)) (by simp only [execOp]; go_simp; kernel_rfl) ⟨_, rfl, ((Gr.drew wr).trans hG).size, Arr.newAt rfl rfl⟩ (Gr.alloc _ _)
      · intro i1 o1 hi1 ho1 hz1' a1 w1 hG hF
        simp only [List.mem_cons, List.not_mem_nil, or_false] at hi1
        rcases hi1 with rfl | rfl
        all_goals
          exact wp_allocD ho1 rfl ((u8s (List.replicate 32 0)).toArray) rfl (alloc32_run) (((Gr.drew _).trans hG).size) rfl (by intro j hj; simp only [List.mem_cons, List.not_mem_nil, or_false] at hj; rcases hj with rfl | rfl <;> rfl)
      · intro vs w1 hds hG hf
        have z30 : vs 2 = .agg (u8s D).toArray := hf.2.2.1
        have z42 : vs 14 = .agg (u8s D).toArray := hf.2.2.2.2.2.2.2.2.2.2.2.2.2.2.1
        have y7 : (NewA wr.heap.size 25 (u8s (List.replicate 32 0))) (vs 15) w1 := hf.2.2.2.2.2.2.2.2.2.2.2.2.2.2.2.1
        have y8 : (NewA wr.heap.size 25 (u8s (List.replicate 32 0))) (vs 16) w1 := hf.2.2.2.2.2.2.2.2.2.2.2.2.2.2.2.2.1
        clear hf
        simp only [List.take_succ_cons, List.take_zero, List.drop_succ_cons, List.drop_zero, putAll, Nat.zero_add, Nat.reduceAdd, z30, z42]
        have hG0 := (Gr.drew wr).trans hG
        have hA1 := (hM.at_ 0 rfl).gr hG0
        have gw1 : Glob w1 := gwr.gr hG0
        have hB1 : Below w.heap.size w w1 := hbw.trans (hG0.mono hbw.size)
        have hgs := hG0.size
        have hbs := hbw.size
        obtain ⟨g7, z7, n7, h7⟩ := y7
        obtain ⟨g8, z8, n8, h8⟩ := y8
        have hne : g7 ≠ g8 := by
          intro h
          exact hds 15 16 _ _ 7 8 (by decide) (by decide) (by decide) (by decide) (by decide) rfl rfl rfl rfl (by rw [z7, z8, h])
        simp only [z7, z8]
        clear hds hrB hrq hrz HC1 HC2 HS hM gwr hbw hG hG0 HQ
        (refine wpList_put h7 rfl 25 (.tmp 7) (.tmp 30) rfl (u8s D) (by kernel_rfl) (by kernel_rfl) (by simp [hDl]) (infoU8_32 D hDl) (u8s_oneCell _) ?_; intro w6 h7n hB6 hO6)
        replace h8 := hO6 _ _ _ (Ne.symm hne) h8
        replace hA1 := hO6 _ _ _ (by omega) hA1
        replace hB1 := hB1.trans (hB6.mono (by have := hB1.size; omega))
        (refine wpList_put h8 rfl 25 (.tmp 8) (.tmp 42) rfl (u8s D) (by kernel_rfl) (by kernel_rfl) (by simp [hDl]) (infoU8_32 D hDl) (u8s_oneCell _) ?_; intro w7 h8n hB7 hO7)
        replace h7n := hO7 _ _ _ hne h7n
        replace hA1 := hO7 _ _ _ (by omega) hA1
        replace hB1 := hB1.trans (hB7.mono (by omega))
        have gw7 := Glob.below hB1 gw
        clear hB6 hO6 hB7 hO7 h7 h8 z7 z8 z30 z42 gw1
        have hrB := Arr.rdAllS hA1 hBl
        have hr7 := Arr.rdAllS h7n hDl
        unfold wpList
        go_simp
        go_wp2_with fail
        refine wp_region_ssaL (by kernel_rfl) [IsV (.bool true), IsV (.bool true), IsV (.slice (some ⟨g7, 0, none⟩) 32 32), IsV (.string ⟨(D).toArray⟩), IsV (.slice (some ⟨g, 0, none⟩) m m), IsV (.string ⟨(Bl).toArray⟩), IsV (.string ⟨(D).toArray⟩), IsV (.bool true), IsV (.bool true), IsV (.bool true), IsV (.agg (u8s D).toArray), IsV (.agg (u8s D).toArray), IsV (.bool true), IsV (.bool true), IsV (.bool true)] (by kernel_rfl) ?_ ?_ ?_
        · intro φ hφ v w1 w2 h hg
          simp only [List.mem_cons, List.not_mem_nil, or_false] at hφ
          rcases hφ with rfl | rfl | rfl | rfl | rfl | rfl | rfl | rfl | rfl | rfl | rfl | rfl | rfl | rfl | rfl
          all_goals first | exact h | exact RdV.gr h hg
        · refine ⟨?_, ?_, ?_, ?_, ?_, ?_, ?_, ?_, ?_, ?_, ?_, ?_, ?_, ?_, ?_, trivial⟩
          · intro a1 w1 hG hF
            exact s_call rfl (wants0 rfl) _ rfl _ _ (by simp only [execOp, resolve, invoke, List.map_toArray, List.map_nil]; go_simp) ((digests_any w1 (gw7.gr ((Gr.drew w7).trans hG))).mono fun e w2 ⟨he, hb⟩ => ⟨_, he, rfl, hb⟩)
          · intro a1 w1 hG hF
            exact s_same rfl (wants0 rfl) (.tmp 43) (.inr rfl) (hF.dp 0 43 (by kernel_rfl))
          · intro a1 w1 hG hF
            have e7 : a1.eval (.tmp 7) = .pointer (some ⟨g7, 0, none⟩) := hF.ol 7 (by kernel_rfl)
            exact s_is rfl (wantsG hF 1 44 true rfl (by kernel_rfl) rfl) _ rfl (by simp only [execOp, e7, Option.map, Sem.run_bind, run_cutAll (P := Tryd.prog) Tryd.underlying25 (by kernel_rfl), Result.andThen_ok, Sem.run_pure])
          · intro a1 w1 hG hF
            obtain ⟨_, e45, rfl⟩ := hF.dp 2 45 (by kernel_rfl)
            exact s_str rfl (wantsG hF 1 44 true rfl (by kernel_rfl) rfl) 28 9 5 (.tmp 45) rfl Tryd.underlying28 Tryd.underlying5 Tryd.underlying9 _ _ _ (D) e45 (((Gr.drew w7).trans hG).rd hr7) rfl
          · intro a1 w1 hG hF
            exact s_old rfl (wantsG hF 1 44 true rfl (by kernel_rfl) rfl) (.tmp 5) (.inr rfl) (.slice (some ⟨g, 0, none⟩) m m) (hF.ol 5 (by kernel_rfl)) rfl
          · intro a1 w1 hG hF
            obtain ⟨_, e47, rfl⟩ := hF.dp 4 47 (by kernel_rfl)
            exact s_str rfl (wantsG hF 1 44 true rfl (by kernel_rfl) rfl) 28 9 5 (.tmp 47) rfl Tryd.underlying28 Tryd.underlying5 Tryd.underlying9 _ _ _ (Bl) e47 (((Gr.drew w7).trans hG).rd hrB) rfl
          · intro a1 w1 hG hF
            obtain ⟨_, e48, rfl⟩ := hF.dp 5 48 (by kernel_rfl)
            exact s_call rfl (wantsG hF 1 44 true rfl (by kernel_rfl) rfl) _ rfl _ _ (by simp only [execOp, resolve, invoke, List.map_toArray, List.map_cons, List.map_nil, e48]; go_simp) ((HR.out w1).mono fun e w2 ⟨he, hb⟩ => ⟨_, he, rfl, hb⟩)
          · intro a1 w1 hG hF
            obtain ⟨_, e46, rfl⟩ := hF.dp 3 46 (by kernel_rfl)
            obtain ⟨_, e49, rfl⟩ := hF.dp 6 49 (by kernel_rfl)
            exact s_is rfl (wantsG hF 1 44 true rfl (by kernel_rfl) rfl) _ rfl (by simp only [execOp, e46, e49]; go_simp)
          · intro a1 w1 hG hF
            obtain ⟨_, e44, rfl⟩ := hF.dp 1 44 (by kernel_rfl)
            obtain ⟨_, e50, rfl⟩ := hF.dp 7 50 (by kernel_rfl)
            exact s_pick rfl (wants0 rfl) (.tmp 44) (.tmp 50) _ rfl e44 _ e50 rfl
          · intro a1 w1 hG hF
            exact s_same rfl (wants0 rfl) (.tmp 51) (.inr rfl) (hF.dp 8 51 (by kernel_rfl))
          · intro a1 w1 hG hF
            have e7 : a1.eval (.tmp 7) = .pointer (some ⟨g7, 0, none⟩) := hF.ol 7 (by kernel_rfl)
            exact s_wp rfl (wantsG hF 9 52 true rfl (by kernel_rfl) rfl) (wp_load_mid _ _ rfl g7 0 e7 (u8s D) _ (Arr.gr h7n ((Gr.drew w7).trans hG)).range Tryd.underlying25 rfl (infoU8_32 D hDl) ⟨_, rfl, rfl, Gr.refl _⟩)
          · intro a1 w1 hG hF
            have e8 : a1.eval (.tmp 8) = .pointer (some ⟨g8, 0, none⟩) := hF.ol 8 (by kernel_rfl)
            exact s_wp rfl (wantsG hF 9 52 true rfl (by kernel_rfl) rfl) (wp_load_mid _ _ rfl g8 0 e8 (u8s D) _ (Arr.gr h8n ((Gr.drew w7).trans hG)).range Tryd.underlying25 rfl (infoU8_32 D hDl) ⟨_, rfl, rfl, Gr.refl _⟩)
          · intro a1 w1 hG hF
            obtain ⟨_, e53, rfl⟩ := hF.dp 10 53 (by kernel_rfl)
            obtain ⟨_, e54, rfl⟩ := hF.dp 11 54 (by kernel_rfl)
            exact s_is rfl (wantsG hF 9 52 true rfl (by kernel_rfl) rfl) _ rfl (run_eqA32 hDl e53 e54)
          · intro a1 w1 hG hF
            obtain ⟨_, e52, rfl⟩ := hF.dp 9 52 (by kernel_rfl)
            obtain ⟨_, e55, rfl⟩ := hF.dp 12 55 (by kernel_rfl)
            exact s_pick rfl (wants0 rfl) (.tmp 52) (.tmp 55) _ rfl e52 _ e55 rfl
          · intro a1 w1 hG hF
            exact s_same rfl (wants0 rfl) (.tmp 56) (.inl rfl) (hF.dp 13 56 (by kernel_rfl))
        · intro vs w1 hG hf
          have z4 : vs 14 = .bool true := hf.2.2.2.2.2.2.2.2.2.2.2.2.2.2.1
          clear hf
          simp only [putAll, Nat.zero_add, Nat.reduceAdd, z4]
          go_simp
          go_wp2_with fail
          go_ret
          exact ⟨rfl, hB1.trans (((Gr.drew w7).trans hG).mono hB1.size)⟩
end Go.Proofs.YtkhbnandmhlnoaaDoor

