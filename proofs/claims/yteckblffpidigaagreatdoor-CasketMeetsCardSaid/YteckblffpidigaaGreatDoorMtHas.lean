/- The walks of dot.Has and of the copy of a row of writes. No condition. -/
import Derived.Test.YteckblffpidigaaGreatDoorMtChk
namespace Go.Proofs.YteckblffpidigaaGreatDoor
open Go.RowKit
/-- A struct is loaded, behind a guard that holds. -/
theorem wpList_loadT {P : Program} {ops : Array Oper} {Q : Exit → Act → World → Prop} {rest : List Oper} {o : Oper} {a : Act} {w : World} (hw : Region.wanted o (yielded ops a.tmps) = true) (ty : TypeId) (x : Operand) (ho : o.op = .load ty x) (b off : Nat) (hx : a.eval x = .pointer (some ⟨b, off, none⟩)) (cs : List Value) (hc : w.rangeAt b off cs)
    {d : TypeDesc} (hu : P.underlying ty = some d) (hd : d.isRow = true) (hi : (P.info? ty).map (·.size) = some cs.length) (h : wpList P ops Q rest (a.put o.dst (.agg cs.toArray)) w) : wpList P ops Q (o :: rest) a w := by
  refine wpList_valW hw _ w ?_ h
  simp only [execOp, ho, hx, Sem.run_bind, run_loadAt_mid w b off ty cs d hc hu hd hi, Result.andThen_ok, Sem.run_pure]
set_option maxRecDepth 100000 in
set_option maxHeartbeats 4000000 in
theorem hasP_any {c : CtxM} {d : DotM} {M : Option Addr} {m cM : Nat} {w : World} (hc : OkC c) (hd : rightD d) (hM : DotsR w M m c.more) :
    Calls Tryz.prog 10 #[.agg (ctxC c M m cM).toArray, .agg (encD d).toArray] w fun e w' => e = .returned (.bool (decide (hasC c d))) ∧ Gr w w' := by
  obtain ⟨r, hr⟩ : ∃ r, r = decide (hasC c d) := ⟨_, rfl⟩
  have HI := Lib.hid (infoCtx hc.len M m cM)
  have H1 : Hid (∀ w1, Gr w w1 → Calls Tryz.prog 37 #[.agg (ctxC c M m cM).toArray] w1 fun e w' => e = .returned (.int .i64 0) ∧ Gr w1 w') := Lib.hid (fun w1 h => check_any hc (hM.gr h))
  have H2 := Lib.hid (right_any d hd)
  have H3 : Hid (∀ w1, Gr w w1 → Calls Tryz.prog 39 #[.agg (ctxC c M m cM).toArray, .agg (encD d).toArray] w1 fun e w' => e = .returned (.bool r) ∧ Gr w1 w') := Lib.hid (fun w1 h => by rw [hr]; exact has_any hc hd (hM.gr h))
  rw [← hr]
  obtain ⟨C, hC⟩ : ∃ C, C = ctxC c M m cM := ⟨_, rfl⟩
  rw [← hC] at HI H1 H3 ⊢
  clear hC hr hc hM hd
  have hA0 : Arr (w.alloc (.cells C.toArray 42)) w.heap.size 42 C := Arr.newAt rfl rfl
  have hsz : (w.alloc (.cells C.toArray 42)).heap.size = w.heap.size + 1 := Array.size_push _
  have hA3 : Arr ((w.alloc (.cells C.toArray 42)).alloc (.cells (encD d).toArray 39)) (w.heap.size + 1) 39 (encD d) := by rw [← hsz]; exact Arr.newAt rfl rfl
  have hA2 := hA0.gr (Gr.alloc (w.alloc (.cells C.toArray 42)) (.cells (encD d).toArray 39))
  have hG : Gr w ((w.alloc (.cells C.toArray 42)).alloc (.cells (encD d).toArray 39)) := (Gr.alloc _ _).trans (Gr.alloc _ _)
  clear hA0 hsz
  go_enter Tryz.func10, Tryz.ntmps10
  go_upto_region 1 with fail
  change Code.wp _ _ _ _ ((w.alloc (.cells C.toArray 42)).alloc (.cells (encD d).toArray 39))
  generalize (w.alloc (.cells C.toArray 42)).alloc (.cells (encD d).toArray 39) = w5 at hA2 hA3 hG ⊢
  generalize w.heap.size + 1 = g3 at hA3 ⊢
  generalize w.heap.size = g2 at hA2 ⊢
  go_wp2_with first
    | (refine wpList_loadT rfl 42 (.tmp 2) rfl g2 0 rfl C (Arr.range hA2) Tryz.underlying42 rfl HI.out ?_)
    | (refine wpList_loadT rfl 39 (.tmp 3) rfl g3 0 rfl (encD d) (Arr.range hA3) Tryz.underlying39 rfl (infoDot d) ?_)
    | (go_at_call 37; refine (H1.out w5 hG).mono ?_; rintro e w6 ⟨rfl, hG6⟩; replace hA2 := hA2.gr hG6; replace hA3 := hA3.gr hG6)
    | (go_at_call 38; refine (H2.out w6).mono ?_; rintro e w7 ⟨rfl, hG7⟩; replace hA2 := hA2.gr hG7; replace hA3 := hA3.gr hG7)
    | (go_at_call 39; refine (H3.out w7 (hG.trans (hG6.trans hG7))).mono ?_; rintro e w8 ⟨rfl, hG8⟩)
  go_ret
  exact ⟨rfl, hG.trans (hG6.trans (hG7.trans hG8))⟩
theorem dots_cells {w : World} {A : Option Addr} {n : Nat} {L : List DotM} (h : DotsR w A n L) : ∀ j u, (L.flatMap encD)[j]? = some u → ∃ ad, A = some ad ∧ w.cell? (ad.add j) = some u := by
  intro j u hu
  have e0 : j = j / 2 * 2 + j % 2 := by omega
  have hj : j % 2 < 2 := Nat.mod_lt _ (by omega)
  rw [e0, flat_get encD_length L (j / 2) (j % 2) hj] at hu
  cases hx : L[j / 2]? with
  | none => rw [hx] at hu; cases hu
  | some d =>
    rw [hx] at hu
    obtain ⟨b, o, rfl, hr⟩ := h.2 _ d hx
    refine ⟨_, rfl, ?_⟩
    have := hr (j % 2) u hu
    rw [add_row]
    rw [show o + j = o + j / 2 * 2 + j % 2 by omega]
    exact this
end Go.Proofs.YteckblffpidigaaGreatDoor
