/- The walks of the document's All and Few. No condition. -/
import Derived.Test.YtbpgodkdbbiadaaDoorShaE
import Derived.Test.YtbpgodkdbbiadaaDoorSsaC
namespace Go.Proofs.YtbpgodkdbbiadaaDoor
open Go.RowKit
theorem infoRow : (Tryd.prog.info? 22).map (fun i => (i.zero, i.size, i.bytes)) = some (some (.slice none 0 0), 1, 24) := by kernel_rfl
set_option maxRecDepth 100000 in
set_option maxHeartbeats 2000000 in
theorem all_any (A : Option Addr) (n c : Nat) (ps : List Part) (hn : n ≤ 1000000) (hl : (allP ps).length ≤ 1000000) (w : World) (h : Parts w A n ps) :
    Calls Tryd.prog 7 #[.slice A n c] w fun e w' => e = .returned (.string ⟨(allP ps).toArray⟩) ∧ Below w.heap.size w w' := by
  obtain ⟨i0, hi0, hz0, hz1, hz2⟩ := info_parts Tryd.info5
  obtain ⟨T, hT⟩ : ∃ T : Nat → List UInt8, T = fun k => allP (ps.take k) := ⟨_, rfl⟩
  have hTl : ∀ k, (T k).length ≤ 1000000 := by intro k; rw [hT]; exact Nat.le_trans (allP_le k) hl
  have hTs : ∀ k p, ps[k]? = some p → T (k + 1) = T k ++ p.l := by intro k p hp; rw [hT]; exact allP_take hp
  have hTe : ∀ k, k = n → allP ps = T k := by intro k hk; rw [hT, hk, ← h.len]; simp
  have hT0 : T 0 = [] := by rw [hT]; simp [allP]
  have HTL := Lib.hid hTl
  have HTS := Lib.hid hTs
  have HTE := Lib.hid hTe
  have HT0 := Lib.hid hT0
  clear hT hTl hTs hTe hT0 hl
  go_enter Tryd.func7, Tryd.ntmps7
  go_wp2_with fail
  go_loopw [3, 4] (fun v i wr => ∃ k : Nat, k ≤ n ∧ i = .int .i64 k ∧ wr.ownsRow w.heap.size 5 1 v (T k).length (u8s (T k)) ∧ Below w.heap.size w wr) (fun _ i _ => n - (intOf i).toNat)
  case atStart => exact ⟨0, by omega, rfl, by rw [HT0.out]; exact World.ownsRow_nil _ _ _ _, Below.refl _ _⟩
  case round =>
    obtain ⟨k, hk, rfl, hown, hB⟩ := hrel
    have hbs := hB.size
    by_cases hlt : k < n
    · obtain ⟨ad, p, rfl, hp, hc, hr, hpc, hpl⟩ := (h.gr hB).at_ hlt
      have hc' : wr.cell? (ad.add k) = some (.slice p.A p.n p.c) := hc
      have hTT := HTS.out k p hp
      have hl1 : (T k).length + p.n = (T (k + 1)).length := by rw [hTT, List.length_append, hpl]
      have hl2 := HTL.out (k + 1)
      have HTT := Lib.hid hTT
      obtain ⟨m, hm⟩ : ∃ m, m = (T k).length := ⟨_, rfl⟩
      rw [← hm] at hown hl1
      have hl3 : m + p.n ≤ 1000000 := by omega
      have HL1 := Lib.hid hl1
      clear hl1 hl2 hc hp hpl hTT hm
      go_wp2_with (at_builtin; go_must (refine wpList_app _ rfl (.tmp 11) (.tmp 15) 22 rfl w.heap.size 5 i0 (.int .u8 0) 1 Tryd.underlying22 hi0 hz0 hz1 hz2 rfl u3 m _ rfl hown p.A p.n p.c _ rfl hr (u8s_oneCell _) (by omega) (by unfold maxLen; omega) (by omega) ?_; rintro v2 w2 hA2))
      have ho2 := hA2.own
      have hB2 := hB.trans (hA2.below hown hbs)
      rw [← u8s_append, ← HTT.out, HL1.out] at ho2
      clear hA2 hown hB hr
      go_simp
      go_wp2_with fail
      go_roundw
      case rel => exact ⟨k + 1, by omega, by go_num, ho2⟩
      case measure => simp [intOf]; omega
    · obtain rfl : n = k := by omega
      rw [← HTE.out n rfl] at hown
      obtain ⟨A3, c3, rfl, _, _⟩ := own_form hown
      have hcv := run_str (P := Tryd.prog) (c := c3) wr Tryd.underlying22 Tryd.underlying5 Tryd.underlying9 (Rd.of_own hown)
      go_wp2_with fail
      go_ret
      exact ⟨rfl, hB⟩
theorem run_build1S {ev : Operand → Value} {d : Option Tmp} {t : TypeId} {p : String} {af : Array Edge} {gd : Option (Nat × Bool)} {w : World} {x : Operand} {A : Option Addr} {n c : Nat} (h1 : ev x = .slice A n c) :
    (execOp ev ⟨d, .buildSlice 23 1 #[(0, x)], t, p, af, gd⟩).run Tryd.prog w = .ok (.value (.slice (some ⟨w.heap.size, 0, none⟩) 1 1)) (w.alloc (.cells #[.slice A n c] 22)) := by
  simp only [execOp]
  go_simp
/-- A slice of one slice, of at most so many bytes, all of it made since. -/
def P35 (B size : Nat) (v : Value) (w : World) : Prop :=
  ∃ (g : Nat) (p : Part), v = .slice (some ⟨g, 0, none⟩) 1 1 ∧ w.cell? ⟨g, 0, none⟩ = some p.val ∧ Rd w p.A p.n (u8s p.l) ∧ p.n ≤ p.c ∧ p.n ≤ size ∧ ∀ ad, p.A = some ad → B ≤ ad.block ∧ ad.block < w.heap.size
theorem P35.gr {B size : Nat} {v : Value} {w w' : World} (h : P35 B size v w) (g : Gr w w') : P35 B size v w' := by
  obtain ⟨g1, p, h1, h2, h3, h4, h5, h6⟩ := h
  exact ⟨g1, p, h1, g.cell h2, g.rd h3, h4, h5, fun ad e => ⟨(h6 ad e).1, Nat.lt_of_lt_of_le (h6 ad e).2 g.size⟩⟩
theorem NewV.gr {B : Nat} {e : TypeId} {v : Value} {w w' : World} (h : NewV B e v w) (g : Gr w w') : NewV B e v w' := by
  obtain ⟨g1, h1, h2⟩ := h
  exact ⟨g1, h1, Gr.own g h2⟩
theorem CopyV.gr {B : Nat} {e : TypeId} {l : List UInt8} {v : Value} {w w' : World} (h : CopyV B e l v w) (g : Gr w w') : CopyV B e l v w' := Gr.own g h
/-- So many slices, each of at most so many bytes, all made since w. -/
def FewR (w : World) (n most size : Nat) (v i : Value) (wr : World) : Prop :=
  ∃ (k : Nat) (A : Option Addr) (c : Nat) (ps : List Part), k ≤ n ∧ k ≤ most ∧ i = .int .i64 (k : Int) ∧ v = .slice A k c ∧ wr.ownsRow w.heap.size 22 1 (.slice A k c) k (ps.map Part.val) ∧
    (∀ p ∈ ps, Rd wr p.A p.n (u8s p.l) ∧ p.n ≤ p.c ∧ p.n ≤ size ∧ ∀ ad, p.A = some ad → ad.block < wr.heap.size ∧ (Value.slice A k c).ownBlock ≠ some ad.block) ∧ Below w.heap.size w wr
theorem Part.one (p : Part) : p.val.oneCell' = true := rfl
set_option maxRecDepth 100000 in
set_option maxHeartbeats 4000000 in
theorem few_any (A : Option Addr) (n c : Nat) (ps : List Part) (most size : Nat) (hmost : most ≤ 100000) (hsize : size ≤ 100000) (w : World) (h : Parts w A n ps) :
    Calls Tryd.prog 6 #[.slice A n c, .int .i64 most, .int .i64 size] w fun e w' => ∃ A' n' c' ps', e = .returned (.slice A' n' c') ∧ n' ≤ most ∧ Parts w' A' n' ps' ∧ (∀ p ∈ ps', p.n ≤ size) ∧ Below w.heap.size w w' := by
  obtain ⟨i0, hi0, hz0, hz1, hz2⟩ := info_parts Tryd.info5
  obtain ⟨i1, hi1, hy0, hy1, hy2⟩ := info_parts infoRow
  go_enter Tryd.func6, Tryd.ntmps6
  go_wp2_with fail
  go_loopw [7, 8] (fun v i wr => FewR w n most size v i wr) (fun _ i _ => n - (intOf i).toNat)
  case atStart => exact ⟨0, none, 0, [], by omega, by omega, rfl, rfl, World.ownsRow_nil _ _ _ _, by simp, Below.refl _ _⟩
  case round =>
    obtain ⟨k, Ao, co, qs, hkn, hkm, rfl, rfl, hown, hqs, hB⟩ := hrel
    have hbs := hB.size
    by_cases hlt : k < n ∧ k < most
    · obtain ⟨hlt1, hlt2⟩ := hlt
      obtain ⟨ad, p, rfl, hp, hc, hr, hpc, hpl⟩ := (h.gr hB).at_ hlt1
      have hc' : wr.cell? (ad.add k) = some (.slice p.A p.n p.c) := hc
      obtain ⟨m, hm⟩ : ∃ m, m = min p.n size := ⟨_, rfl⟩
      have hmi : min (p.n : Int) (size : Int) = (m : Int) := by omega
      have hmn : m ≤ p.n := by omega
      have hms : m ≤ size := by omega
      have hrm := hr.take hmn
      rw [u8s_take] at hrm
      obtain ⟨l, hl⟩ : ∃ l, l = p.l.take m := ⟨_, rfl⟩
      rw [← hl] at hrm
      have hlm : l.length = m := by simpa using hrm.1
      have hcut := fun w1 => run_cut_h (P := Tryd.prog) Tryd.underlying22 (by kernel_rfl) (A := p.A) (n := p.n) (c := p.c) (hi := m) (h := (m : Int)) rfl (by omega) w1
      have HCUT := Lib.hid hcut
      have HQS := Lib.hid hqs
      clear hm hl hc hp hpl hcut hqs
      go_wp2_with fail
      refine wp_region_cut (by kernel_rfl) [IsV (.slice Ao k co), NewV wr.heap.size 5, IsV (.slice (some ad) n c), IsV (.int .i64 ((k : Nat) : Int)), IsV (.pointer (some (ad.add k))), IsV (.slice p.A p.n p.c), IsV (.slice (some ad) n c), IsV (.int .i64 ((k : Nat) : Int)), IsV (.pointer (some (ad.add k))), IsV (.slice p.A p.n p.c), IsV (.int .i64 ((p.n : Nat) : Int)), IsV (.int .i64 ((size : Nat) : Int)), IsV (.int .i64 ((m : Nat) : Int)), IsV (.slice p.A m p.c), CopyV wr.heap.size 5 l, P35 wr.heap.size size] 16 (by decide) (by kernel_rfl) (by kernel_rfl) (by kernel_rfl) ?_ ?_ ?_
      · intro φ hφ v w1 w2 h hg
        simp only [List.mem_cons, List.not_mem_nil, or_false] at hφ
        rcases hφ with rfl | rfl | rfl | rfl | rfl | rfl | rfl | rfl | rfl | rfl | rfl | rfl | rfl | rfl | rfl | rfl
        all_goals first | exact h | exact RdV.gr h hg | exact P35.gr h hg | exact NewV.gr h hg | exact CopyV.gr h hg
      · refine ⟨?_, ?_, ?_, ?_, ?_, ?_, ?_, ?_, ?_, ?_, ?_, ?_, ?_, ?_, ?_, ?_, trivial⟩
        · intro a1 w1 hG hF
          exact s_old rfl (wants0 rfl) (.tmp 7) (.inr rfl) (.slice Ao k co) (hF.ol 7 (by kernel_rfl)) rfl
        · intro a1 w1 hG hF
          exact ssa_new rfl rfl wr.heap.size 5 rfl (((Gr.drew wr).trans hG).size) (by go_simp)
        · intro a1 w1 hG hF
          exact s_old rfl (wants0 rfl) (.tmp 0) (.inr rfl) (.slice (some ad) n c) (hF.ol 0 (by kernel_rfl)) rfl
        · intro a1 w1 hG hF
          exact s_old rfl (wants0 rfl) (.tmp 8) (.inr rfl) (.int .i64 ((k : Nat) : Int)) (hF.ol 8 (by kernel_rfl)) rfl
        · intro a1 w1 hG hF
          obtain ⟨_, e22, rfl⟩ := hF.dp 2 22 (by kernel_rfl)
          obtain ⟨_, e23, rfl⟩ := hF.dp 3 23 (by kernel_rfl)
          exact s_is rfl (wants0 rfl) _ rfl (run_idxSl Tryd.underlying23 (by kernel_rfl) e22 e23 (by omega))
        · intro a1 w1 hG hF
          obtain ⟨_, e24, rfl⟩ := hF.dp 4 24 (by kernel_rfl)
          exact s_is rfl (wants0 rfl) _ rfl (run_loadSl Tryd.underlying22 e24 (Gr.cell ((Gr.drew wr).trans hG) hc'))
        · intro a1 w1 hG hF
          exact s_old rfl (wants0 rfl) (.tmp 0) (.inr rfl) (.slice (some ad) n c) (hF.ol 0 (by kernel_rfl)) rfl
        · intro a1 w1 hG hF
          exact s_old rfl (wants0 rfl) (.tmp 8) (.inr rfl) (.int .i64 ((k : Nat) : Int)) (hF.ol 8 (by kernel_rfl)) rfl
        · intro a1 w1 hG hF
          obtain ⟨_, e26, rfl⟩ := hF.dp 6 26 (by kernel_rfl)
          obtain ⟨_, e27, rfl⟩ := hF.dp 7 27 (by kernel_rfl)
          exact s_is rfl (wants0 rfl) _ rfl (run_idxSl Tryd.underlying23 (by kernel_rfl) e26 e27 (by omega))
        · intro a1 w1 hG hF
          obtain ⟨_, e28, rfl⟩ := hF.dp 8 28 (by kernel_rfl)
          exact s_is rfl (wants0 rfl) _ rfl (run_loadSl Tryd.underlying22 e28 (Gr.cell ((Gr.drew wr).trans hG) hc'))
        · intro a1 w1 hG hF
          obtain ⟨_, e29, rfl⟩ := hF.dp 9 29 (by kernel_rfl)
          exact s_is rfl (wants0 rfl) _ rfl (run_len_slice Tryd.underlying22 e29)
        · intro a1 w1 hG hF
          exact s_old rfl (wants0 rfl) (.tmp 2) (.inr rfl) (.int .i64 ((size : Nat) : Int)) (hF.ol 2 (by kernel_rfl)) rfl
        · intro a1 w1 hG hF
          obtain ⟨_, e30, rfl⟩ := hF.dp 10 30 (by kernel_rfl)
          obtain ⟨_, e31, rfl⟩ := hF.dp 11 31 (by kernel_rfl)
          exact s_is rfl (wants0 rfl) _ rfl (run_min_ e30 e31 hmi)
        · intro a1 w1 hG hF
          obtain ⟨_, e25, rfl⟩ := hF.dp 5 25 (by kernel_rfl)
          obtain ⟨_, e32, rfl⟩ := hF.dp 12 32 (by kernel_rfl)
          exact s_is rfl (wants0 rfl) _ rfl (by simp only [execOp, e25, e32, Option.map, Sem.run_bind, HCUT.out, Result.andThen_ok, Sem.run_pure])
        · intro a1 w1 hG hF
          obtain ⟨x21, e21, f21⟩ := hF.dp 1 21 (by kernel_rfl)
          obtain ⟨_, e33, rfl⟩ := hF.dp 13 33 (by kernel_rfl)
          exact ssa_clip rfl rfl wr.heap.size l 5 rfl (.tmp 21) (.tmp 33) 22 rfl i0 (.int .u8 0) Tryd.underlying22 hi0 hz0 hz1 hz2 rfl ⟨x21, e21, f21⟩ p.A m p.c e33 (((Gr.drew wr).trans hG).rd hrm) (by omega) (((Gr.drew wr).trans hG).size)
        · intro a1 w1 hG hF
          obtain ⟨x34, e34, f34⟩ := hF.dp 14 34 (by kernel_rfl)
          obtain ⟨A9, c9, rfl, hc9, hb9⟩ := own_form f34
          have hr9 := Rd.of_own f34
          exact s_val rfl (wants0 rfl) _ rfl (.slice (some ⟨w1.heap.size, 0, none⟩) 1 1) (w1.alloc (.cells #[.slice A9 l.length c9] 22)) (run_build1S e34) ⟨w1.heap.size, ⟨A9, l.length, c9, l⟩, rfl, cell_one_new w1 _ _ 0 _ rfl, (Gr.alloc _ _).rd hr9, hc9, by show l.length ≤ size; omega, fun ad e => ⟨(hb9 ad e).1, by simp only [asz]; have := (hb9 ad e).2.1; omega⟩⟩ (Gr.alloc _ _)
      · intro vs w1 hG hf
        have z20 : vs 0 = .slice Ao k co := hf.1
        have y35 : (P35 wr.heap.size size) (vs 15) w1 := hf.2.2.2.2.2.2.2.2.2.2.2.2.2.2.2.1
        clear hf
        simp only [List.take_succ_cons, List.take_zero, List.drop_succ_cons, List.drop_zero, putAll, Nat.zero_add, Nat.reduceAdd, z20]
        obtain ⟨g, q, z35, hq1, hq2, hq3, hq4, hq5⟩ := y35
        have hG1 := (Gr.drew wr).trans hG
        have hown1 := Gr.own hG1 hown
        have hrg : Rd w1 (some ⟨g, 0, none⟩) 1 [q.val] := ⟨rfl, fun j u hj => ⟨_, rfl, by
          cases j with
          | zero => simp only [List.getElem?_cons_zero, Option.some.injEq] at hj; subst hj; rw [add_zero_]; exact hq1
          | succ j => simp at hj⟩⟩
        have hb1 : w.heap.size ≤ w1.heap.size := Nat.le_trans hbs hG1.size
        rw [z35]
        refine wpList_app _ rfl (.tmp 20) (.tmp 35) 23 rfl w.heap.size 22 i1 (.slice none 0 0) 24 Tryd.underlying23 hi1 hy0 hy1 hy2 rfl (.slice Ao k co) k _ (by kernel_rfl) hown1 (some ⟨g, 0, none⟩) 1 1 [q.val] (by kernel_rfl) hrg (by intro u hu; simp only [List.mem_singleton] at hu; subst hu; exact q.one) (by omega) (by unfold maxLen; omega) hb1 ?_
        intro v2 w2 hA2
        obtain ⟨A2, c2, rfl, _, _⟩ := own_form hA2.own
        have hB2 : Below w.heap.size w w2 := (hB.trans (hG1.mono hbs)).trans (hA2.below hown1 hb1)
        have hR : FewR w n most size (.slice A2 (k + 1) c2) (.int .i64 ((k + 1 : Nat) : Int)) w2 := by
          have hob : ∀ b, (Value.slice Ao k co).ownBlock = some b → b < wr.heap.size := fun b hb => (hown.lt b hb).2
          refine ⟨k + 1, A2, c2, qs ++ [q], by omega, by omega, rfl, rfl, by rw [List.map_append]; exact hA2.own, fun x hx => ?_, hB2⟩
          have hsz2 := hA2.grown.size
          rcases List.mem_append.1 hx with hx | hx
          · obtain ⟨h1, h2, h3, h4⟩ := HQS.out x hx
            refine ⟨Rd.grown (hG1.rd h1) hA2.grown (fun ad e => (h4 ad e).2.symm), h2, h3, fun ad e => ⟨Nat.lt_of_lt_of_le (h4 ad e).1 (Nat.le_trans hG1.size hsz2), ?_⟩⟩
            rcases hA2.lies with e1 | ⟨b, e1, hb⟩
            · rw [e1]; exact (h4 ad e).2
            · rw [e1]; intro e2; injection e2 with e2; have := (h4 ad e).1; have := hG1.size; omega
          · simp only [List.mem_singleton] at hx
            subst hx
            refine ⟨Rd.grown hq2 hA2.grown (fun ad e e2 => ?_), hq3, hq4, fun ad e => ⟨Nat.lt_of_lt_of_le (hq5 ad e).2 hsz2, ?_⟩⟩
            · have := hob _ e2.symm; have := (hq5 ad e).1; omega
            · rcases hA2.lies with e1 | ⟨b, e1, hb⟩
              · rw [e1]; intro e2; have := hob _ e2; have := (hq5 ad e).1; omega
              · rw [e1]; intro e2; injection e2 with e2; have := (hq5 ad e).2; omega
        clear hA2 hown1 hown hrg hB2 hB hG hG1 hq1 hq2 hr hrm
        refine wpList_val rfl (.slice A2 (k + 1) c2) w2 (by kernel_rfl) ?_
        unfold wpList
        go_simp
        go_wp2_with fail
        exact ⟨hR, by simp [intOf]; omega⟩
    · have hP : Parts wr Ao k qs := ⟨Rd.of_own hown, fun x hx => ⟨(hqs x hx).1, (hqs x hx).2.1⟩⟩
      clear hown
      have hqs' : ∀ p ∈ qs, p.n ≤ size := fun x hx => (hqs x hx).2.2.1
      clear hqs
      by_cases hlt1 : k < n
      · have hlt2 : most ≤ k := by omega
        clear hlt
        go_wp2_with fail
        go_ret
        exact ⟨Ao, k, co, qs, rfl, hkm, hP, hqs', hB⟩
      · clear hlt
        go_wp2_with fail
        go_ret
        exact ⟨Ao, k, co, qs, rfl, hkm, hP, hqs', hB⟩
end Go.Proofs.YtbpgodkdbbiadaaDoor

