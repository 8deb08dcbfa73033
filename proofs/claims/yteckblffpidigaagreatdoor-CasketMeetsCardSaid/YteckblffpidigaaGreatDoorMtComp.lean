/- slices.CompactFunc at siblings. No condition. -/
import Derived.Test.YteckblffpidigaaGreatDoorMtKeep
namespace Go.Proofs.YteckblffpidigaaGreatDoor
open Go.RowKit
set_option maxRecDepth 100000 in
set_option maxHeartbeats 4000000 in
theorem eqS_any {x y : SibV} (hx : x.c.upto.length = 16) (hy : y.c.upto.length = 16) (w : World) : Calls Tryz.prog 29 #[.agg (sibC x).toArray, .agg (sibC y).toArray] w fun e w' => e = .returned (.bool (decide (x.d = y.d))) ∧ GG w w' := by
  obtain ⟨xs, hxs⟩ : ∃ xs, xs = sibC x := ⟨_, rfl⟩
  obtain ⟨ys, hys⟩ : ∃ ys, ys = sibC y := ⟨_, rfl⟩
  rw [← hxs, ← hys]
  have h2 : Arr (w.alloc (.cells xs.toArray 44)) w.heap.size 44 xs := Arr.newAt rfl rfl
  have hsz : (w.alloc (.cells xs.toArray 44)).heap.size = w.heap.size + 1 := Array.size_push _
  have h3 : Arr ((w.alloc (.cells xs.toArray 44)).alloc (.cells ys.toArray 44)) (w.heap.size + 1) 44 ys := by rw [← hsz]; exact Arr.newAt rfl rfl
  have h23 := h2.gr (Gr.alloc (w.alloc (.cells xs.toArray 44)) (.cells ys.toArray 44))
  have gb : GG w ((w.alloc (.cells xs.toArray 44)).alloc (.cells ys.toArray 44)) := (GG.alloc _ _).trans (GG.alloc _ _)
  have r2 : ((w.alloc (.cells xs.toArray 44)).alloc (.cells ys.toArray 44)).rangeAt w.heap.size 0 (encD x.d) := (SibAt.of hx (by rw [← hxs]; exact Arr.range h23)).dot
  have r3 : ((w.alloc (.cells xs.toArray 44)).alloc (.cells ys.toArray 44)).rangeAt (w.heap.size + 1) 0 (encD y.d) := (SibAt.of hy (by rw [← hys]; exact Arr.range h3)).dot
  clear h2 hsz h3 h23 hxs hys
  go_enter Tryz.func29, Tryz.ntmps29
  go_upto_region 1 with fail
  change Code.wp _ _ _ _ ((w.alloc (.cells xs.toArray 44)).alloc (.cells ys.toArray 44))
  generalize (w.alloc (.cells xs.toArray 44)).alloc (.cells ys.toArray 44) = w0 at gb r2 r3 ⊢
  generalize w.heap.size + 1 = g3 at r3 ⊢
  generalize w.heap.size = g2 at r2 ⊢
  go_wp2_with first
    | (refine wpList_loadT rfl 39 (.tmp 5) rfl g2 0 (by kernel_rfl) (encD x.d) r2 Tryz.underlying39 rfl (infoDot x.d) ?_)
    | (refine wpList_loadT rfl 39 (.tmp 7) rfl g3 0 (by kernel_rfl) (encD y.d) r3 Tryz.underlying39 rfl (infoDot y.d) ?_)
    | (refine wpList_valW rfl (.bool (decide (x.d = y.d))) _ (run_eqDot (x := .tmp 6) (y := .tmp 8) rfl rfl) ?_)
  go_ret
  exact ⟨rfl, gb⟩
section
variable {α : Type} {enc : α → List Value} {k : Nat}
theorem flat_len (hk : ∀ x, (enc x).length = k) (M : List α) : (M.flatMap enc).length = M.length * k := by
  rw [List.length_flatMap]
  have : (M.map fun x => (enc x).length) = List.replicate M.length k := by
    rw [List.eq_replicate_iff]
    refine ⟨by simp, fun b hb => ?_⟩
    obtain ⟨x, _, rfl⟩ := List.mem_map.1 hb
    exact hk x
  rw [this, List.sum_replicate_nat]
theorem flat_set (hk : ∀ x, (enc x).length = k) : ∀ (M : List α) (j : Nat) (x : α), j < M.length → (M.flatMap enc).take (j * k) ++ enc x ++ (M.flatMap enc).drop (j * k + k) = (M.set j x).flatMap enc := by
  intro M
  induction M with
  | nil => intro j x h; simp at h
  | cons a M ih =>
    intro j x h
    cases j with
    | zero =>
      simp only [List.flatMap_cons, Nat.zero_mul, List.take_zero, List.nil_append, Nat.zero_add, List.set_cons_zero]
      rw [List.drop_append_of_le_length (by rw [hk]; exact Nat.le_refl _), List.drop_of_length_le (by rw [hk]; exact Nat.le_refl _), List.nil_append]
    | succ j =>
      have ih' := ih j x (by simpa using h)
      simp only [List.flatMap_cons, List.set_cons_succ]
      rw [← ih', Nat.add_mul, Nat.one_mul]
      have e1 : (enc a ++ M.flatMap enc).take (j * k + k) = enc a ++ (M.flatMap enc).take (j * k) := by
        rw [List.take_append, hk, List.take_of_length_le (by rw [hk]; omega)]
        congr 2
        omega
      have e2 : (enc a ++ M.flatMap enc).drop (j * k + k + k) = (M.flatMap enc).drop (j * k + k) := by
        rw [List.drop_append, hk, List.drop_of_length_le (by rw [hk]; omega), List.nil_append]
        congr 1
        omega
      rw [e1, e2]
      simp only [List.append_assoc]
theorem arr_set (hk : ∀ x, (enc x).length = k) {w : World} {g j : Nat} {t : TypeId} {M : List α} {rest : List Value} {x : α} (h : Arr w g t (M.flatMap enc ++ rest)) (hj : j < M.length) : Arr (w.setCells g (j * k) (enc x)) g t ((M.set j x).flatMap enc ++ rest) := by
  have hl := flat_len hk M
  have hjk : j * k + k ≤ M.length * k := by
    have := Nat.mul_le_mul_right k (show j + 1 ≤ M.length from hj)
    rwa [Nat.add_mul, Nat.one_mul] at this
  have h1 := Arr.setCells_from (enc x) (j * k) w _ h (by rw [List.length_append, hl, hk]; omega)
  rw [hk, List.take_append_of_le_length (by omega), List.drop_append_of_le_length (by omega), ← List.append_assoc, flat_set hk M j x hj] at h1
  exact h1
end
end Go.Proofs.YteckblffpidigaaGreatDoor
