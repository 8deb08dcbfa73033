/- Pairs read in the law RingStands; who was seen. No condition. -/
import Derived.Test.YtmcnnjcbgbdeeaaDoorRLaw0
namespace Go.Proofs.YtmcnnjcbgbdeeaaDoor
open Go.RowKit
theorem eqPr (a b : Int) (w : World) : (Op.equalIn (9998 + 2) 43 (.agg #[.int .i64 a, .int .i64 b]) (.agg #[.int .i64 a, .int .i64 b])).run Tryd.prog w = .ok true w := by
  have hsz : ∀ w, (sizeOf 3).run Tryd.prog w = .ok 1 w := fun w => run_sizeR (by kernel_rfl) w
  have p0 : (part 3 #[.int .i64 a, .int .i64 b] (0 * 1)).run Tryd.prog w = .ok (.int .i64 a) w := by simp [part, isAgg, run_underlying Tryd.underlying3]
  have p1 : (part 3 #[.int .i64 a, .int .i64 b] (1 * 1)).run Tryd.prog w = .ok (.int .i64 b) w := by simp [part, isAgg, run_underlying Tryd.underlying3]
  have e0 : ∀ z : Int, (Op.equalIn (9998 + 1) 3 (.int .i64 z) (.int .i64 z)).run Tryd.prog w = .ok true w := fun z => by
    rw [run_equalIn_int w 9998 3 .i64 .i64 z z Tryd.underlying3, beq_self_eq_true]
  rw [Op.equalIn]
  simp only [Sem.run_bind, run_underlying Tryd.underlying43, Result.andThen_ok, hsz, Std.Legacy.Range.forIn_eq_forIn_range', Std.Legacy.Range.size, Nat.sub_zero, Nat.add_sub_cancel, Nat.div_one]
  rw [show List.range' 0 2 1 = [0, 1] from rfl]
  simp only [List.forIn_cons, List.forIn_nil, Sem.run_bind, p0, p1, e0, Result.andThen_ok, Bool.not_true, Bool.false_eq_true, if_false, Sem.run_pure]
section
variable {ev : Operand → Value} {d : Option Tmp} {t : TypeId} {p : String} {af : Array Edge} {gd : Option (Nat × Bool)} {w : World} {x y : Operand}
theorem run_idx2S {P : Program} {T e : TypeId} (hT : P.underlying T = some (.slice e)) (hsz : (P.info? e).map (·.size) = some 2) {g n c k : Nat} (h1 : ev x = .slice (some ⟨g, 0, none⟩) n c) (h2 : ev y = .int .i64 (k : Int)) (hk : k < n) :
    (execOp ev ⟨d, .indexAddr T x y, t, p, af, gd⟩).run P w = .ok (.value (.pointer (some ⟨g, k * 2, none⟩))) w := by
  simp only [execOp, h1, h2]
  go_simp
  simp [run_sizeR hsz]
theorem run_loadPr {g o : Nat} {z0 z1 : Int} (h1 : ev x = .pointer (some ⟨g, o, none⟩)) (q0 : w.cell? ⟨g, o, none⟩ = some (.int .i64 z0)) (q1 : w.cell? ⟨g, o + 1, none⟩ = some (.int .i64 z1)) :
    (execOp ev ⟨d, .load 43 x, t, p, af, gd⟩).run Tryd.prog w = .ok (.value (.agg #[.int .i64 z0, .int .i64 z1])) w := by
  simp only [execOp, h1]
  go_simp
theorem run_idx43 {g o : Nat} (h1 : ev x = .pointer (some ⟨g, o, none⟩)) (h2 : ev y = .int .i64 0) :
    (execOp ev ⟨d, .indexAddr 43 x y, t, p, af, gd⟩).run Tryd.prog w = .ok (.value (.pointer (some ⟨g, o, none⟩))) w := by
  simp only [execOp, h1, h2]
  go_simp
theorem run_nePr {a b : Int} (h1 : ev x = .agg #[.int .i64 a, .int .i64 b]) (h2 : ev y = .agg #[.int .i64 a, .int .i64 b]) :
    (execOp ev ⟨d, .binOp .neq 43 x y 43, t, p, af, gd⟩).run Tryd.prog w = .ok (.value (.bool false)) w := by
  have he : (Op.equalIn 10000 43 (.agg #[.int .i64 a, .int .i64 b]) (.agg #[.int .i64 a, .int .i64 b])).run Tryd.prog w = .ok true w := eqPr a b w
  simp only [execOp, h1, h2]
  go_simp
theorem run_lssF {P : Program} {T U : TypeId} {a b : Int} (h1 : ev x = .int .i64 a) (h2 : ev y = .int .i64 b) (h : ¬ a < b) : (execOp ev ⟨d, .binOp .lss T x y U, t, p, af, gd⟩).run P w = .ok (.value (.bool false)) w := by
  simp only [execOp, h1, h2]
  go_simp
theorem run_gtrF {P : Program} {T U : TypeId} {a b : Int} (h1 : ev x = .int .i64 a) (h2 : ev y = .int .i64 b) (h : ¬ b < a) : (execOp ev ⟨d, .binOp .gtr T x y U, t, p, af, gd⟩).run P w = .ok (.value (.bool false)) w := by
  simp only [execOp, h1, h2]
  go_simp
end
theorem pairs_at {w : World} {B : Nat} {A : Option Addr} {N c : Nat} {P : List (Nat × Nat)} (h : w.ownsRow B 43 2 (.slice A N c) N (P.flatMap pairC)) {i : Nat} {q : Nat × Nat} (hi : i < N) (hq : P[i]? = some q) :
    ∃ g, A = some ⟨g, 0, none⟩ ∧ w.cell? ⟨g, i * 2, none⟩ = some (.int .i64 (q.1 : Int)) ∧ w.cell? ⟨g, i * 2 + 1, none⟩ = some (.int .i64 (q.2 : Int)) := by
  rcases h.2 with ⟨_, e2⟩ | ⟨g, cap, cur, e1, _⟩
  · omega
  · injection e1 with e1
    subst e1
    have hc := h.cells (g := g) rfl
    have h0 := hc (i * 2) (.int .i64 (q.1 : Int)) (by have := flat_get pairC_length P i 0 (by omega); rw [Nat.add_zero, hq] at this; exact this)
    have h1 := hc (i * 2 + 1) (.int .i64 (q.2 : Int)) (by have := flat_get pairC_length P i 1 (by omega); rw [hq] at this; exact this)
    rw [add_row, Nat.zero_add] at h0 h1
    exact ⟨g, rfl, h0, h1⟩
theorem standG_length {up : Nat → Bool} : ∀ (a o : List Nat), (standG up a o).length ≤ a.length
  | [], _ => by simp [standG]
  | x :: r, o => by
    unfold standG
    split
    · have := standG_length (up := up) r o
      simp only [List.length_cons]; omega
    · split
      · have := standG_length (up := up) r []
        simp only [List.length_cons]; omega
      · rename_i y o'
        have := standG_length (up := up) r o'
        simp only [List.length_cons]; omega
/-- Who stands in is up, and one of the order; nobody twice. -/
theorem stand_in {up : Nat → Bool} {W : List Nat} {n reps : Nat} (hWm : ∀ x ∈ W, x < reps) (hn : W.Nodup) {P : List (Nat × Nat)} (hP : P = standG up (W.take n) ((W.drop n).filter up)) :
    (∀ p ∈ P, p.1 < reps ∧ up p.1 = true) ∧ (P.map (·.1)).Nodup := by
  have ho : ∀ y ∈ (W.drop n).filter up, up y = true := fun y h => (List.mem_filter.1 h).2
  refine ⟨fun p hp => ?_, ?_⟩
  · rw [hP] at hp
    obtain ⟨h1, h2⟩ := standG_mem ho p hp
    refine ⟨hWm _ ?_, h1⟩
    rcases h2 with h2 | h2
    · exact List.mem_of_mem_take h2
    · exact List.mem_of_mem_drop (List.mem_filter.1 h2).1
  · rw [hP]
    refine standG_nodup ho ?_
    have hsub : (W.take n ++ (W.drop n).filter up).Sublist (W.take n ++ W.drop n) := List.Sublist.append_left (List.filter_sublist) _
    rw [List.take_append_drop] at hsub
    exact hn.sublist hsub
/-- Where the law stands: who was seen. -/
def SeenR (L : List Nat) (n g : Nat) (w : World) (i : Value) (wr : World) : Prop := ∃ (k : Nat) (bs : List Bool), k ≤ n ∧ i = .int .i64 (k : Int) ∧ bs.length = 8 ∧ (∀ x, x < 8 → bs[x]? = some (decide (x ∈ L.take k))) ∧ Arr wr g 34 (bs.map Value.bool) ∧ Gr w wr
end Go.Proofs.YtmcnnjcbgbdeeaaDoor
