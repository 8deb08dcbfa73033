/- slices.AppendSeq, Collect, SortedFunc at writes. No condition. -/
import Derived.Test.YteckblffpidigaaGreatDoorMtSeq
import Derived.Test.YteckblffpidigaaGreatDoorKitM
import Derived.Great.BuildSlice
namespace Go.Proofs.YteckblffpidigaaGreatDoor
open Go.RowKit
attribute [local go_sem] Oper.semAt_some
section
variable {ev : Operand → Value} {d : Option Tmp} {t : TypeId} {p : String} {af : Array Edge} {gd : Option (Nat × Bool)} {w : World} {x : Operand}
set_option maxRecDepth 100000 in
theorem run_buildD {X : DotM} (h1 : ev x = .agg (encD X).toArray) :
    (execOp ev ⟨d, .buildSlice 26 1 #[(0, x)], t, p, af, gd⟩).run Tryz.prog w = .ok (.value (.slice (some ⟨w.heap.size, 0, none⟩) 1 1)) (w.alloc (.cells (encD X).toArray 39)) := by
  obtain ⟨ie, z, hie, hz, q1, _, q3⟩ := infoDt_parts
  have hf : ∀ C : Array Value, C.size = 2 → Instr.fill (fun i => some (i * ie.size, ie.size)) C [(0, .agg (encD X).toArray)] = some (encD X).toArray := by
    intro C hC
    rw [fill_step (fun i => some (i * ie.size, ie.size)) C 0 (.agg (encD X).toArray) (encD X) 0 (by simp [q1, encD_length]) rfl [] (by simp [encD_length, hC])]
    simp only [Instr.fill]
    rw [List.drop_of_length_le (by simp [encD_length, hC])]
    simp
  have h := run_buildSlice (P := Tryz.prog) w 26 39 1 #[(0, .agg (encD X).toArray)] (encD X).toArray ie z Tryz.underlying26 hie hz (by rw [q1]; omega) (by rw [q1]; omega) (hf _ (by simp [q1]))
  simp only [execOp, List.map_toArray, List.map_cons, List.map_nil, h1, Sem.run_bind, h, Result.andThen_ok, Sem.run_pure]
end
section
variable {F : Fence} {n : Nat} {ops : Array Oper} {Q : Exit → Act → World → Prop} {a : Act} {w : World} {rest : List Oper} {op : Oper}
theorem wpListIn_buildD {X : DotM} (hgd : op.guard = none) (x : Operand) (ho : op.op = .buildSlice 26 1 #[(0, x)]) (h1 : a.eval x = .agg (encD X).toArray)
    (h : wpListIn F n Tryz.prog ops Q rest (a.put op.dst (.slice (some ⟨w.heap.size, 0, none⟩) 1 1)) (w.alloc (.cells (encD X).toArray 39))) : wpListIn F n Tryz.prog ops Q (op :: rest) a w := by
  refine wpListIn_plain hgd fun K hK => ?_
  obtain ⟨d, o, t, p, af, gd⟩ := op
  simp only at ho
  subst ho
  unfold Oper.wpIn
  refine ⟨by simp [Oper.about], ?_⟩
  rw [Oper.semAt_plain F _ _ (by intro c hc; cases hc), run_buildD h1]
  exact hK _ _ h
end
theorem arr_own {β : Type} (B : Nat) (t : TypeId) (f : β → List Value) : Own (fun s W => Arr W B t (f s)) := fun s X Y row hs hg hrow => by
  have hb : X.heap[B]? = some (.cells (f s).toArray t (0, 0)) := hs
  exact (hg.block B (Array.getElem?_eq_some_iff.1 hb).1 (fun e => by obtain ⟨o, ho, hc⟩ := hrow B e.symm; rw [hb] at ho; cases ho; cases hc)).trans hb
theorem newCells (W : World) (t : TypeId) (cs : List Value) : ∀ j u, cs[j]? = some u → (W.alloc (.cells cs.toArray t)).cell? ((⟨W.heap.size, 0, none⟩ : Addr).add j) = some u := fun j u h => by
  rw [show (⟨W.heap.size, 0, none⟩ : Addr).add j = ⟨W.heap.size, j, none⟩ by simp [Addr.add]; exact fun h => h.symm]
  rw [cell_of_row (W.alloc (.cells cs.toArray t)) W.heap.size j cs.toArray t (0, 0) (World.alloc_heap_new W _)]
  simpa using h
theorem flatD_snoc (L : List DotM) (x : DotM) : (L ++ [x]).flatMap encD = L.flatMap encD ++ encD x := by rw [List.flatMap_append, List.flatMap_singleton]
theorem infoDz : (Tryz.prog.info? 39).map (fun i => (i.zero, i.size, i.bytes)) = some (some (.agg #[.int .i64 0, .int .i64 0]), 2, 16) := by kernel_rfl
theorem KeepB.put {B l : Nat} {W : World} {o : Obj} (h : B ≤ l) : KeepB B W (W.putObj l o) := ⟨fun k hk => World.putObj_heap_other (by omega), by simp⟩
theorem KeepB.alloc {B : Nat} {W : World} (o : Obj) (h : B ≤ W.heap.size) : KeepB B W (W.alloc o) := KeepB.of_gr h (Gr.alloc W o)
theorem own_put {w : World} {B : Nat} {e : TypeId} {size : Nat} {v : Value} {n D : Nat} {xs : List Value} {o o2 : Obj} (h : w.ownsRow B e size v n xs) (hD : w.heap[D]? = some o) (ho : o.isCells = false) : (w.putObj D o2).ownsRow B e size v n xs := by
  refine ⟨h.1, ?_⟩
  rcases h.2 with h2 | ⟨g, cap, cur, e1, h1, h2, h3⟩
  · exact .inl h2
  · refine .inr ⟨g, cap, cur, e1, h1, ?_, h3⟩
    rw [World.putObj_heap_other ?_]
    · exact h2
    · intro e2
      subst e2
      rw [h2] at hD
      injection hD with hD
      subst hD
      cases ho
/-- What AppendSeq hands back. -/
def SeqQ (L : List DotM) (k : Nat) (w : World) (e : Ending) (w' : World) : Prop := ∃ (A : Option Addr) (c : Nat), e = .returned (.slice A k c) ∧ OwnD w' w.heap.size A k c L ∧ Below w.heap.size w w'
set_option maxRecDepth 100000 in
set_option maxHeartbeats 8000000 in
theorem append_in (F : Fence) (n : Nat) (hro : F.round = none) (hn : 6 ≤ n) (hw : ∀ f, F.fn f) (Bm k c : Nat) (A : Option Addr) (L : List DotM) (hk : k ≤ 100000) (w : World) (hm : w.cell? ⟨Bm, 0, none⟩ = some (.slice A k c)) (hL : DotsR w A k L) :
    CallsIn F n Tryz.prog 106 #[.slice none 0 0, .func (.func 102) #[] #[.pointer (some ⟨Bm, 0, none⟩)]] w (SeqQ L k w) := by
  have h1 : 1 ≤ n := by omega
  obtain ⟨i0, hi, hz0, hz1, hz2⟩ := info_parts infoDz
  have hlen := hL.1
  refine callsIn_of_wp_marks Tryz.func106 rfl (hw _) ?_ hro
  try simp only [Tryz.ntmps106, List.size_toArray, List.length_cons, List.length_nil, Nat.reduceAdd, Nat.reduceSub, Array.replicate_succ, Array.replicate_zero, List.push_toArray, List.append_toArray, List.nil_append, List.cons_append]
  gi_wp2
  have bO := Boxed.new w 26 (.slice none 0 0)
  have hB0 : Below w.heap.size w (w.alloc (.cells #[.slice none 0 0] 26)) := (Below.refl _ w).alloc (Nat.le_refl _) _
  have hsz0 : (w.alloc (.cells #[.slice none 0 0] 26)).heap.size = w.heap.size + 1 := by simp
  obtain ⟨W0, hW0⟩ : ∃ W0, w.alloc (.cells #[.slice none 0 0] 26) = W0 := ⟨_, rfl⟩
  rw [hW0] at bO hB0 hsz0 ⊢
  clear hW0
  refine wpIn_rangeFunc_ownH hro h1 (gf := 102) (lb := #[.pointer (some ⟨Bm, 0, none⟩)]) rfl (hw _) (enters_of Tryz.func102 (by kernel_rfl) rfl)
    (encs := fun d : DotM => #[aggD d]) (Kp := KeepB w.heap.size) (values_stops F (n - 1) (hw _) hro (by omega) Bm k c A L hk w hm hL) KeepB.trans (fun W l o o' h1 _ _ _ => KeepB.put (by omega)) hB0 (fun _ => rfl)
    (fun pre W => (∃ v, Boxed W w.heap.size 26 v ∧ W.ownsRow w.heap.size 39 2 v pre.length (pre.flatMap encD) ∧ True) ∧ Below w.heap.size w W)
    (fun _ _ _ => False)
    (OwnFrom.and (Own.from (holdsRow_own w.heap.size w.heap.size 26 39 2 (fun pre : List DotM => pre.length) (fun pre : List DotM => pre.flatMap encD) (fun pre v => True)) _) (ownFrom_below (Nat.le_refl _) (by omega)))
    (fun _ _ _ _ _ hs _ _ => hs)
    ⟨⟨_, bO, World.ownsRow_nil _ _ _ _, trivial⟩, hB0⟩
    (fun x a' W => ∃ Bx, w.heap.size < Bx ∧ Arr W Bx 39 (encD x) ∧ a' = { tmps := #[.slice none 0 0, .func (.func 102) #[] #[.pointer (some ⟨Bm, 0, none⟩)], .pointer (some ⟨w.heap.size, 0, none⟩), undef, .slice none 0 0, .pointer (some ⟨Bx, 0, none⟩), .func (.func 102) #[] #[.pointer (some ⟨Bm, 0, none⟩)], aggD x, undef, undef, undef, undef, undef], defers := [] })
    (fun x a' _ X Y row hs hg hr => by obtain ⟨Bx, h1, h2, h3⟩ := hs; exact ⟨Bx, h1, arr_own Bx 39 (fun (_ : Unit) => encD x) () X Y row h2 hg (fun r e => (hr r e).2), h3⟩)
    ?assign ?body ?done ?stop
  case assign =>
    rintro l pre x W K ⟨⟨v, bO1, hrow, _⟩, hB1⟩ hK
    gi_wp2_with (first
      | (refine wpListIn_new (w := W) (t := 39) rfl _ _ _ rfl W.heap.size (encD x) rfl rfl rfl (by kernel_rfl) (infoDot x) (encD_one x) ?_
         intro w3 hA3 hG3 hg3)
      | gi_in)
    exact hK _ _ ((KeepsOthers.of_grownBy hg3 (fun j o e => by cases e)).from _) (KeepB.of_gr hB1.size hG3) ⟨⟨v, bO1.kept hg3 (by simp), hrow.kept hg3 (by cases v.ownBlock <;> simp), trivial⟩, hB1.trans (hG3.mono hB1.size)⟩ ⟨W.heap.size, bO1.lt, hA3, rfl⟩
  case body =>
    rintro l pre x a' W hl ⟨r, hr⟩ ⟨⟨v, bO1, hrow, _⟩, hB1⟩ ⟨Bx, hBx, hX, rfl⟩ hlt
    have cO := bO1.cell
    have fO := bO1.frozen
    gi_wp2_with (first
      | (refine wpListIn_loadT rfl _ _ rfl Bx 0 rfl (encD x) (Arr.range hX) Tryz.underlying39 rfl (infoDot x) ?_)
      | (refine wpListIn_buildD (X := x) rfl _ rfl rfl ?_)
      | (gi_at_builtin
         refine wpListIn_append_own _ rfl _ _ 26 rfl w.heap.size 39 i0 (.agg #[.int .i64 0, .int .i64 0]) 2 16 Tryz.underlying26 hi hz0 hz1 hz2 (by kernel_rfl) (by decide) _ _ _ rfl (hrow.alloc _) ⟨W.heap.size, 0, none⟩ 1 1 (encD x) rfl rfl (newCells W 39 (encD x)) (encD_one x) (Nat.le_trans (m := 1000001) (by omega) (by decide)) (by omega) (Nat.le_trans hB1.size (by simp)) ?_
         intro v' w1 hown' hgrow _
         obtain ⟨g', cap', rfl⟩ := ownsRow_succ hown'
         obtain ⟨hv1, hv2, hr2, hk2, hb2⟩ := bO1.appended (by decide) hrow hB1.size (Nat.le_refl _) hown' hgrow
         have hc1 := hv1.cell
         have hf1 := hv1.frozen))
    exact ⟨hk2.from _, ⟨fun k hk => hb2.block k hk, hb2.size⟩, ⟨⟨_, hv2, by rw [flatD_snoc, List.length_append]; exact hr2⟩, hB1.trans hb2⟩⟩
  case done =>
    rintro D ss W hD hS ⟨⟨v, bO1, hrow, _⟩, hB1⟩ hK
    have cO := bO1.cell
    gi_wp2
    refine ⟨by simp, .inl ⟨_, _, rfl, run_takeDeferred hK, ?_⟩⟩
    refine ⟨_, results_tmp rfl _ _ _, ?_⟩
    rw [hS, hlen] at hrow
    have hbe := hB1.trans (belowK_b (w := w) (Nat.le_refl _) _ D _ (.deferred none) (by omega) hK rfl rfl)
    have hrow2 := own_put (o2 := .deferred none) hrow hK rfl
    rcases hrow.2 with ⟨rfl, hz⟩ | ⟨gq, cap, cur, rfl, _⟩
    · subst hz
      exact ⟨none, 0, rfl, hrow2, hbe⟩
    · exact ⟨some ⟨gq, 0, none⟩, cap, rfl, hrow2, hbe⟩
  case stop =>
    rintro D c pre W _ _ h _
    exact h.elim
/-- Out of the fence. -/
theorem appendSeq_any {Bm k c : Nat} {A : Option Addr} {L : List DotM} (hk : k ≤ 100000) {w : World} (hm : w.cell? ⟨Bm, 0, none⟩ = some (.slice A k c)) (hL : DotsR w A k L) :
    Calls Tryz.prog 106 #[.slice none 0 0, .func (.func 102) #[] #[.pointer (some ⟨Bm, 0, none⟩)]] w (SeqQ L k w) :=
  callsIn_wide.1 (append_in Fence.wide 6 rfl (Nat.le_refl _) (fun _ => trivial) Bm k c A L hk w hm hL)
theorem values_any (A : Option Addr) (k c : Nat) (w : World) :
    Calls Tryz.prog 89 #[.slice A k c] w fun e w' => e = .returned (.func (.func 102) #[] #[.pointer (some ⟨w.heap.size, 0, none⟩)]) ∧ w' = w.alloc (.cells #[.slice A k c] 26) :=
  callsIn_wide.1 (values_new Fence.wide 6 trivial rfl A k c w)
set_option maxRecDepth 100000 in
theorem collect_any {Bm k c : Nat} {A : Option Addr} {L : List DotM} (hk : k ≤ 100000) {w : World} (hm : w.cell? ⟨Bm, 0, none⟩ = some (.slice A k c)) (hL : DotsR w A k L) :
    Calls Tryz.prog 101 #[.func (.func 102) #[] #[.pointer (some ⟨Bm, 0, none⟩)]] w (SeqQ L k w) := by
  have HA := Lib.hid (appendSeq_any hk hm hL)
  clear hm hL
  go_enter Tryz.func101, Tryz.ntmps101
  go_wp2_with (go_at_call 106; refine HA.out.mono ?_; rintro e w1 ⟨A1, c1, rfl, ho, hB⟩)
  go_ret
  exact ⟨A1, c1, rfl, ho, hB⟩
theorem sortD_none (p : Option Addr) (cap : Nat) (fv : Value) (w : World) : Calls Tryz.prog 32 #[.slice p 0 cap, fv] w fun e w' => e = .returned (.tuple #[]) ∧ w' = w :=
  Go.Proofs.AnyF.slices_SortFunc_none DotSort p cap fv w
/-- What SortedFunc hands back. -/
def SortQ (L : List DotM) (k : Nat) (w : World) (e : Ending) (w' : World) : Prop := ∃ (A : Option Addr) (c : Nat) (L' : List DotM), e = .returned (.slice A k c) ∧ L'.Perm L ∧ (L'.Pairwise fun p q => ¬ dLt q p) ∧ DotsR w' A k L' ∧ (∀ b o, A = some ⟨b, o, none⟩ → w.heap.size ≤ b ∧ b < w'.heap.size) ∧ Gr w w'
set_option maxRecDepth 100000 in
theorem sorted_any {Bm k c : Nat} {A : Option Addr} {L : List DotM} (hk : k ≤ 100000) {w : World} (hm : w.cell? ⟨Bm, 0, none⟩ = some (.slice A k c)) (hL : DotsR w A k L) :
    Calls Tryz.prog 88 #[.func (.func 102) #[] #[.pointer (some ⟨Bm, 0, none⟩)], .func (.func 90) #[] #[]] w (SortQ L k w) := by
  have HC := Lib.hid (collect_any hk hm hL)
  clear hm hL
  go_enter Tryz.func88, Tryz.ntmps88
  go_upto_region 2 with (go_at_call 101; refine HC.out.mono ?_; rintro e w1 ⟨A1, c1, rfl, ho, hB⟩)
  have hlen := ho.len
  have HO := Lib.hid ho
  have hG : Gr w w1 := hB
  rcases ho.2 with ⟨e1, e2⟩ | ⟨g, cap, cur, e1, hgB, _⟩
  · injection e1 with e1 e3 e4
    subst e1 e4 e2
    have hnil : L = [] := List.length_eq_zero_iff.1 hlen
    clear ho hB hlen
    go_wp2_with (go_at_call 32; refine (sortD_none none 0 _ _).mono ?_; rintro e w2 ⟨rfl, rfl⟩)
    go_ret
    exact ⟨none, 0, [], rfl, by rw [hnil], List.Pairwise.nil, DotsR.nil _ _, fun b o h => by (cases h), hG⟩
  · injection e1 with e1 e3 e4
    subst e1 e4
    have hgl := own_lt HO.out ⟨g, 0, none⟩ rfl
    have HGB : Hid (w.heap.size ≤ g ∧ g < w1.heap.size) := Lib.hid ⟨hgB, hgl⟩
    have HS := Lib.hid (sort_dord (c := c1) hlen (by omega) hgB HO.out)
    clear ho hB hlen hgl hgB
    go_wp2_with (go_at_call 32; refine HS.out.mono ?_; rintro e w2 ⟨rfl, L', hp, hs, hd, hB2, _⟩)
    go_ret
    exact ⟨_, _, L', rfl, hp, hs, hd, fun b o h => by (injection h with h; injection h with h1 h2; subst h1; exact ⟨HGB.out.1, Nat.lt_of_lt_of_le HGB.out.2 hB2.size⟩), Below.trans hG hB2⟩
end Go.Proofs.YteckblffpidigaaGreatDoor
