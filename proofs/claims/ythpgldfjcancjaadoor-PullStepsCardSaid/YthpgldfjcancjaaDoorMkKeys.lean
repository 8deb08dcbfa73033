/- The walk of merkle's Tree.Keys inside the fence. No condition. -/
import Derived.Shelf.SlSortCmp.NoneTotal
import Derived.Test.YthpgldfjcancjaaDoorMkLeaf
import Derived.Test.YthpgldfjcancjaaDoorMkBuildN
namespace Go.Proofs.YthpgldfjcancjaaDoor
open Go.RowKit
attribute [local go_sem] Oper.semAt_some
/-- The names of a leaf. -/
def ofLeaf (a : Int) (ss : List Nm) : List Nm := ss.filter fun x => decide ((leafOf x : Int) = a)
theorem ofLeaf_hit (a : Int) (ss : List Nm) {x : Nm} (h : (leafOf x : Int) = a) : ofLeaf a (ss ++ [x]) = ofLeaf a ss ++ [x] := by simp [ofLeaf, h]
theorem ofLeaf_miss (a : Int) (ss : List Nm) {x : Nm} (h : ¬ (leafOf x : Int) = a) : ofLeaf a (ss ++ [x]) = ofLeaf a ss := by simp [ofLeaf, h]
theorem flatN_snoc (L : List Nm) (x : Nm) : (L ++ [x]).flatMap encN = L.flatMap encN ++ u8s x.1 := by rw [List.flatMap_append, List.flatMap_singleton]; rfl
theorem infoB : (Tryd.prog.info? 51).map (fun i => (i.zero, i.size, i.bytes)) = some (some (by32 Z32), 32, 32) := by kernel_rfl
theorem arr_own {β : Type} (B : Nat) (t : TypeId) (f : β → List Value) : Own (fun s W => Arr W B t (f s)) := fun s X Y row hs hg hrow => by
  have hb : X.heap[B]? = some (.cells (f s).toArray t (0, 0)) := hs
  exact (hg.block B (Array.getElem?_eq_some_iff.1 hb).1 (fun e => by obtain ⟨o, ho, hc⟩ := hrow B e.symm; rw [hb] at ho; cases ho; cases hc)).trans hb
section
variable {F : Fence} {n : Nat} {P : Program} {Q : Exit → Act → World → Prop} {a : Act} {w : World} {op : Oper} {K : Act → World → Prop}
theorem operIn_load_mid (ty : TypeId) (x : Operand) (ho : op.op = .load ty x) {g : Nat} {t : TypeId} {cs : List Value} (hx : a.eval x = .pointer (some ⟨g, 0, none⟩)) (hA : Arr w g t cs)
    (hT : ∃ n e, P.underlying ty = some (.array n e)) (hi : (P.info? ty).map (·.size) = some cs.length) (h : K (a.put op.dst (.agg cs.toArray)) w) : op.wpIn F n P a w K Q := by
  obtain ⟨m, e, hT⟩ := hT
  unfold Oper.wpIn
  refine ⟨by simp [Oper.about, ho], ?_⟩
  rw [Oper.semAt_plain F _ _ (by rw [ho]; intro c hc; cases hc)]
  simp only [execOp, ho, hx, Sem.run_bind, hA.loadAt hT hi, Result.andThen_ok, Sem.run_pure]
  exact h
end
section
theorem newCells (W : World) (t : TypeId) (cs : List Value) : ∀ j u, cs[j]? = some u → (W.alloc (.cells cs.toArray t)).cell? ((⟨W.heap.size, 0, none⟩ : Addr).add j) = some u := fun j u h => by
  rw [show (⟨W.heap.size, 0, none⟩ : Addr).add j = ⟨W.heap.size, j, none⟩ by simp [Addr.add]; exact fun h => h.symm]
  rw [cell_of_row (W.alloc (.cells cs.toArray t)) W.heap.size j cs.toArray t (0, 0) (World.alloc_heap_new W _)]
  simpa using h
theorem CollN.leaf {D : DataW Unit} {ss : List Nm} (a : Int) (h : CollN D (fun _ => false) ss) : (ofLeaf a ss).Nodup ∧ ∀ x : Nm, x ∈ ofLeaf a ss ↔ (Maps.has D (kLit x.1) = true ∧ (leafOf x : Int) = a) :=
  ⟨h.1.filter _, fun x => by unfold ofLeaf; rw [List.mem_filter, h.2 x, decide_eq_true_iff]; simp⟩
theorem cell_of_heap {A B : World} {b o : Nat} (h : B.heap[b]? = A.heap[b]?) : B.cell? ⟨b, o, none⟩ = A.cell? ⟨b, o, none⟩ := by simp only [World.cell?, h]
theorem NmR.put {w : World} {g D : Nat} {n : Nat} {L : List Nm} {o : Obj} (h : NmR w (some ⟨g, 0, none⟩) n L) (hne : D ≠ g) : NmR (w.putObj D o) (some ⟨g, 0, none⟩) n L :=
  ⟨h.1, fun i x hx => by
    obtain ⟨b, e, hr⟩ := h.2 i x hx
    obtain rfl : g = b := by injection e with e; injection e
    exact ⟨g, rfl, fun j u hu => (cell_of_heap (World.putObj_heap_other (fun e => hne e.symm))).trans (hr j u hu)⟩⟩
theorem ofLeaf_le (a : Int) (ss : List Nm) : (ofLeaf a ss).length ≤ ss.length := List.length_filter_le _ _
theorem sort_none (p : Option Addr) (cap : Nat) (fv : Value) (w : World) : Calls Tryd.prog 29 #[.slice p 0 cap, fv] w fun e w' => e = .returned (.tuple #[]) ∧ w' = w :=
  Go.Proofs.AnyF.slices_SortFunc_none BlindSort p cap fv w
/-- What Keys hands back: the names of the leaf in their order. -/
def KeysQ (D0 : DataW Unit) (a : Int) (w : World) (e : Ending) (w' : World) : Prop := ∃ (A : Option Addr) (m c : Nat) (L : List Nm), e = .returned (.slice A m c) ∧ NmR w' A m L ∧ L.Nodup ∧ (∀ x : Nm, x ∈ L ↔ (Maps.has D0 (kLit x.1) = true ∧ (leafOf x : Int) = a)) ∧ (L.Pairwise fun p q => ¬ Lib.compareBytes q.1 p.1 < 0) ∧ m ≤ Maps.size D0 ∧ Below w.heap.size w w'
set_option maxRecDepth 100000 in
set_option maxHeartbeats 8000000 in
theorem keys_walk (F : Fence) (n : Nat) (hro : F.round = none) (hn : 6 ≤ n) (hw : ∀ f, F.fn f) (hcw : ∀ (m : Nat) (f : FuncId) (args : Array Value) (w : World) (R : Ending → World → Prop), Calls Tryd.prog f args w R → CallsIn F m Tryd.prog f args w R) (g b nn : Nat) (D0 : DataW Unit) (a : Int) (hsz : Maps.size D0 ≤ 1000000) (w : World) (hc : w.cell? ⟨g, 0, none⟩ = some (.map (some b))) (hown : w.ownsMap Tryd.prog 51 R32 b nn D0) :
    CallsIn F n Tryd.prog 17 #[.pointer (some ⟨g, 0, none⟩), .int .i64 a] w (KeysQ D0 a w) := by
  have h1 : 1 ≤ n := by omega
  obtain ⟨i0, hi, hz0, hz1, hz2⟩ := info_parts infoB
  refine callsIn_of_wp_marks Tryd.func17 rfl (hw _) ?_ hro
  simp only [Tryd.ntmps17, List.size_toArray, List.length_cons, List.length_nil, Nat.reduceAdd, Nat.reduceSub, Array.replicate_succ, Array.replicate_zero, List.push_toArray, List.append_toArray, List.nil_append, List.cons_append]
  have hg := lt_of_cell hc
  have hB2 : Below w.heap.size w ((w.alloc (.cells #[.int .i64 a] 3)).alloc (.cells #[.slice none 0 0] 48)) := ((Below.refl _ w).alloc (Nat.le_refl _) _).alloc (by simp) _
  have hc2 := (hB2.cell (p := ⟨g, 0, none⟩) hg).trans hc
  gi_wp2_with (first
    | (gi_at_call 27; refine (keys_new F (n - 1) (hw _) hro (some b) _).mono ?_; rintro e w' ⟨rfl, rfl⟩))
  have bL := ((Boxed.new w 3 (.int .i64 a)).alloc (.cells #[.slice none 0 0] 48)).alloc (.cells #[.map (some b)] 72)
  have bO := (Boxed.new (w.alloc (.cells #[.int .i64 a] 3)) 48 (.slice none 0 0)).alloc (.cells #[.map (some b)] 72)
  have bM := Boxed.new ((w.alloc (.cells #[.int .i64 a] 3)).alloc (.cells #[.slice none 0 0] 48)) 72 (.map (some b))
  simp only [World.size_alloc] at bO bM
  have hB0 : Below w.heap.size w (((w.alloc (.cells #[.int .i64 a] 3)).alloc (.cells #[.slice none 0 0] 48)).alloc (.cells #[.map (some b)] 72)) := hB2.alloc (by simp; omega) _
  have hsz0 : (((w.alloc (.cells #[.int .i64 a] 3)).alloc (.cells #[.slice none 0 0] 48)).alloc (.cells #[.map (some b)] 72)).heap.size = w.heap.size + 3 := by simp
  obtain ⟨W0, hW0⟩ : ∃ W0, ((w.alloc (.cells #[.int .i64 a] 3)).alloc (.cells #[.slice none 0 0] 48)).alloc (.cells #[.map (some b)] 72) = W0 := ⟨_, rfl⟩
  rw [hW0] at bL bO bM hB0 hsz0 ⊢
  clear hW0 hc2 hB2
  have hown0 : W0.ownsMap Tryd.prog 51 R32 b nn D0 := by
    have hbl := hown.lt
    obtain ⟨es, clock, hb, Ft, hs, hD⟩ := hown
    exact ⟨es, clock, (hB0.block b hbl).trans hb, Ft, hs, hD⟩
  refine wpIn_rangeFunc_ownH hro h1 (gf := 38) (lb := #[.pointer (some ⟨w.heap.size + 1 + 1, 0, none⟩)]) rfl (hw _) (enters_of Tryd.func38 (by kernel_rfl) rfl)
    (encs := fun x : Nm => #[valN x]) (Kp := KeepsWalks) (keys_stops F (n - 1) (hw _) hro (by omega) (w.heap.size + 1 + 1) b nn D0 W0 (by omega) bM.cell hown0) walksK_t (fun W l o o' h1 h2 h3 h4 => walksK_b W l o o' h1 h2 h3 h4) (Below.refl _ _) (fun _ => rfl)
    (fun pre W => ((∃ v, Boxed W (w.heap.size + 1) 48 v ∧ W.ownsRow w.heap.size 51 32 v (ofLeaf a pre).length ((ofLeaf a pre).flatMap encN) ∧ True) ∧ Boxed W w.heap.size 3 (.int .i64 a)) ∧ Below w.heap.size w W)
    (fun _ _ _ => False)
    (OwnFrom.and (OwnFrom.and (Own.from (holdsRow_own w.heap.size (w.heap.size + 1) 48 51 32 (fun pre => (ofLeaf a pre).length) (fun pre => (ofLeaf a pre).flatMap encN) (fun pre v => True)) _) (Own.from (boxed_own _ _ _) _)) (ownFrom_below (Nat.le_refl _) (by omega)))
    (fun _ _ _ _ _ hs _ _ => hs)
    ⟨⟨⟨_, bO, World.ownsRow_nil _ _ _ _, trivial⟩, bL⟩, hB0⟩
    (fun x a' W => ∃ Bx, w.heap.size + 1 < Bx ∧ Arr W Bx 51 (u8s x.1) ∧ a' = { tmps := #[.pointer (some ⟨g, 0, none⟩), .int .i64 a, undef, .pointer (some ⟨w.heap.size, 0, none⟩), .slice none 0 0, .pointer (some ⟨w.heap.size + 1, 0, none⟩), .pointer (some ⟨Bx, 0, none⟩), .pointer (some ⟨g, 0, none⟩), .bool false, .pointer (some ⟨g, 0, none⟩), .pointer (some ⟨g, 0, none⟩), .pointer (some ⟨g, 0, none⟩), .map (some b), .func (.func 38) #[] #[.pointer (some ⟨w.heap.size + 1 + 1, 0, none⟩)], valN x, undef, undef, undef, undef, undef, undef, undef, undef, undef, undef, undef], defers := [] })
    (fun x a' _ X Y row hs hg hr => by obtain ⟨Bx, h1, h2, h3⟩ := hs; exact ⟨Bx, h1, arr_own Bx 51 (fun (_ : Unit) => u8s x.1) () X Y row h2 hg (fun r e => (hr r e).2), h3⟩)
    ?assign ?body ?done ?stop
  case assign =>
    rintro l pre x W K ⟨⟨⟨v, bO1, hrow, _⟩, bL1⟩, hB1⟩ hK
    gi_wp2_with (first
      | (refine wpListIn_new (w := W) (t := 51) rfl _ _ _ rfl W.heap.size (u8s x.1) rfl rfl rfl (by rw [u8s_length, x.2]; kernel_rfl) (infoN x) (u8s_oneCell x.1) ?_
         intro w3 hA3 hG3 hg3)
      | gi_in)
    exact hK _ _ ((KeepsOthers.of_grownBy hg3 (fun j o e => by cases e)).from _) (KeepsWalks.of_grownBy hg3 (fun j o e => by cases e)) ⟨⟨⟨v, bO1.kept hg3 (by simp), hrow.kept hg3 (by cases v.ownBlock <;> simp), trivial⟩, bL1.kept hg3 (by simp)⟩, hB1.trans (hG3.mono hB1.size)⟩ ⟨W.heap.size, bO1.lt, hA3, rfl⟩
  case body =>
    rintro l pre x a' W hl ⟨r, hr⟩ ⟨⟨⟨v, bO1, hrow, _⟩, bL1⟩, hB1⟩ ⟨Bx, hBx, hX, rfl⟩ hlt
    have h1' : 1 ≤ n - 1 - 1 := by omega
    have cL := bL1.cell
    have cO := bO1.cell
    have fO := bO1.frozen
    gi_wp2
    refine wpIn_region_any (by kernel_rfl) ?_
    change wpAnyIn _ _ _ _ _ _ _ _ _ (World.drew _)
    have hXd : Arr W.drew Bx 51 (u8s x.1) := hX
    have cLd : W.drew.cell? ⟨w.heap.size, 0, none⟩ = some (.int .i64 a) := cL
    have cLa := (bL1.alloc (.cells (u8s x.1).toArray 51)).cell
    refine wpAnyIn_ready (rs := [0, 2]) (by kernel_rfl) (by simp) (AllReadyIn.cons rfl (fun K hK => ?_) (AllReadyIn.cons rfl (fun K hK => ?_) AllReadyIn.nil))
    · (rw [if_pos (by rfl)]; refine operIn_load_mid _ _ rfl rfl hXd ⟨_, _, Tryd.underlying51⟩ (infoN x) (hK _ _ ?_); clear hK K)
      refine wpAnyIn_ready (rs := [1, 2]) (by kernel_rfl) (by simp) (AllReadyIn.cons rfl (fun K hK => ?_) (AllReadyIn.cons rfl (fun K hK => ?_) AllReadyIn.nil))
      · (rw [if_pos (by rfl)]; go_simp; gi_at_call 28; refine (CallsIn.inRound l (leaf_in F (n - 1 - 1 - 1) (hw _) hro x _)).mono ?_; rintro e w' ⟨rfl, rfl⟩; refine hK _ _ ?_; clear hK K)
        refine wpAnyIn_ready (rs := [2]) (by kernel_rfl) (by simp) (AllReadyIn.cons rfl (fun K hK => ?_) AllReadyIn.nil)
        (rw [if_pos (by rfl)]; go_simp; refine hK _ _ ?_; clear hK K)
        refine wpAnyIn_ready (rs := [3]) (by kernel_rfl) (by simp) (AllReadyIn.cons rfl (fun K hK => ?_) AllReadyIn.nil)
        (rw [if_pos (by rfl)]; go_simp; refine hK _ _ ?_; clear hK K; refine wpAnyIn_done (by kernel_rfl) ?_ _)
        obtain ⟨W2, hW2, bO2, bL2, hrow2, hX2, hKO2, hB2⟩ : ∃ W2, (W.alloc (.cells (u8s x.1).toArray 51)).drew = W2 ∧ Boxed W2 (w.heap.size + 1) 48 v ∧ Boxed W2 w.heap.size 3 (.int .i64 a) ∧ W2.ownsRow w.heap.size 51 32 v (ofLeaf a pre).length ((ofLeaf a pre).flatMap encN) ∧ Arr W2 Bx 51 (u8s x.1) ∧ KeepsOthers W W2 ∧ Below w.heap.size W W2 :=
          ⟨_, rfl, bO1.alloc _, bL1.alloc _, hrow.alloc _, hX.alloc _, (KeepsOthers.alloc W _).trans (KeepsOthers.drew _), ((Below.refl _ W).alloc hB1.size _).drew⟩
        rw [hW2]
        clear hW2 cL cLd cLa cO fO hXd
        have cO2 := bO2.cell
        have fO2 := bO2.frozen
        gi_wp2_with (first
          | (refine wpListIn_load_mid rfl _ _ rfl rfl hX2 ⟨_, _, Tryd.underlying51⟩ (infoN x) ?_)
          | (refine wpListIn_buildN x.2 rfl _ rfl rfl ?_)
          | (gi_at_builtin
             refine wpListIn_append_own _ rfl _ _ 48 rfl w.heap.size 51 i0 (by32 Z32) 32 32 Tryd.underlying48 hi hz0 hz1 hz2 (by kernel_rfl) (by decide) _ _ _ rfl (hrow2.alloc _) ⟨W2.heap.size, 0, none⟩ 1 1 (u8s x.1) rfl (by rw [u8s_length, x.2]) (newCells W2 51 (u8s x.1)) (u8s_oneCell x.1) (Nat.le_trans (m := 1000001) (by have := ofLeaf_le a pre; omega) (by decide)) (by have := ofLeaf_le a pre; omega) (Nat.le_trans (hB1.trans hB2).size (by simp)) ?_
             intro v' w1 hown' hgrow _
             obtain ⟨g', cap', rfl⟩ := ownsRow_succ hown'
             obtain ⟨hv1, hv2, hr2, hk2, hb2⟩ := bO2.appended (by decide) hrow2 (hB1.trans hB2).size (Nat.le_succ _) hown' hgrow
             have bL3 := ((bL2.alloc _).kept hgrow (bL2.not_row (by decide) hrow2)).other (B' := w.heap.size + 1) (by omega) (Value.slice (some ⟨g', 0, none⟩) ((ofLeaf a pre).length + 1) cap')
             have hc1 := hv1.cell
             have hf1 := hv1.frozen))
        · have hx : (leafOf x : Int) = a := by unfold leafOf; rw [List.getD_eq_getElem?_getD]; exact beq_iff_eq.1 (by assumption)
          exact ⟨(hKO2.trans hk2).from _, (hKO2.trans hk2).walks, ⟨⟨_, hv2, by rw [ofLeaf_hit a pre hx, flatN_snoc, List.length_append]; exact hr2⟩, bL3⟩, hB1.trans (hB2.trans hb2)⟩
        · have hx : ¬ (leafOf x : Int) = a := by unfold leafOf; rw [List.getD_eq_getElem?_getD]; exact beq_eq_false_iff_ne.1 (by assumption)
          exact ⟨hKO2.from _, hKO2.walks, ⟨⟨v, bO2, by rw [ofLeaf_miss a pre hx]; exact ⟨hrow2, trivial⟩⟩, bL2⟩, hB1.trans hB2⟩
      · (rw [if_pos (by rfl)]; go_simp; refine hK _ _ ?_; clear hK K)
        refine wpAnyIn_ready (rs := [1]) (by kernel_rfl) (by simp) (AllReadyIn.cons rfl (fun K hK => ?_) AllReadyIn.nil)
        (rw [if_pos (by rfl)]; go_simp; gi_at_call 28; refine (CallsIn.inRound l (leaf_in F (n - 1 - 1 - 1) (hw _) hro x _)).mono ?_; rintro e w' ⟨rfl, rfl⟩; refine hK _ _ ?_; clear hK K)
        refine wpAnyIn_ready (rs := [3]) (by kernel_rfl) (by simp) (AllReadyIn.cons rfl (fun K hK => ?_) AllReadyIn.nil)
        (rw [if_pos (by rfl)]; go_simp; refine hK _ _ ?_; clear hK K; refine wpAnyIn_done (by kernel_rfl) ?_ _)
        obtain ⟨W2, hW2, bO2, bL2, hrow2, hX2, hKO2, hB2⟩ : ∃ W2, (W.alloc (.cells (u8s x.1).toArray 51)).drew = W2 ∧ Boxed W2 (w.heap.size + 1) 48 v ∧ Boxed W2 w.heap.size 3 (.int .i64 a) ∧ W2.ownsRow w.heap.size 51 32 v (ofLeaf a pre).length ((ofLeaf a pre).flatMap encN) ∧ Arr W2 Bx 51 (u8s x.1) ∧ KeepsOthers W W2 ∧ Below w.heap.size W W2 :=
          ⟨_, rfl, bO1.alloc _, bL1.alloc _, hrow.alloc _, hX.alloc _, (KeepsOthers.alloc W _).trans (KeepsOthers.drew _), ((Below.refl _ W).alloc hB1.size _).drew⟩
        rw [hW2]
        clear hW2 cL cLd cLa cO fO hXd
        have cO2 := bO2.cell
        have fO2 := bO2.frozen
        gi_wp2_with (first
          | (refine wpListIn_load_mid rfl _ _ rfl rfl hX2 ⟨_, _, Tryd.underlying51⟩ (infoN x) ?_)
          | (refine wpListIn_buildN x.2 rfl _ rfl rfl ?_)
          | (gi_at_builtin
             refine wpListIn_append_own _ rfl _ _ 48 rfl w.heap.size 51 i0 (by32 Z32) 32 32 Tryd.underlying48 hi hz0 hz1 hz2 (by kernel_rfl) (by decide) _ _ _ rfl (hrow2.alloc _) ⟨W2.heap.size, 0, none⟩ 1 1 (u8s x.1) rfl (by rw [u8s_length, x.2]) (newCells W2 51 (u8s x.1)) (u8s_oneCell x.1) (Nat.le_trans (m := 1000001) (by have := ofLeaf_le a pre; omega) (by decide)) (by have := ofLeaf_le a pre; omega) (Nat.le_trans (hB1.trans hB2).size (by simp)) ?_
             intro v' w1 hown' hgrow _
             obtain ⟨g', cap', rfl⟩ := ownsRow_succ hown'
             obtain ⟨hv1, hv2, hr2, hk2, hb2⟩ := bO2.appended (by decide) hrow2 (hB1.trans hB2).size (Nat.le_succ _) hown' hgrow
             have bL3 := ((bL2.alloc _).kept hgrow (bL2.not_row (by decide) hrow2)).other (B' := w.heap.size + 1) (by omega) (Value.slice (some ⟨g', 0, none⟩) ((ofLeaf a pre).length + 1) cap')
             have hc1 := hv1.cell
             have hf1 := hv1.frozen))
        · have hx : (leafOf x : Int) = a := by unfold leafOf; rw [List.getD_eq_getElem?_getD]; exact beq_iff_eq.1 (by assumption)
          exact ⟨(hKO2.trans hk2).from _, (hKO2.trans hk2).walks, ⟨⟨_, hv2, by rw [ofLeaf_hit a pre hx, flatN_snoc, List.length_append]; exact hr2⟩, bL3⟩, hB1.trans (hB2.trans hb2)⟩
        · have hx : ¬ (leafOf x : Int) = a := by unfold leafOf; rw [List.getD_eq_getElem?_getD]; exact beq_eq_false_iff_ne.1 (by assumption)
          exact ⟨hKO2.from _, hKO2.walks, ⟨⟨v, bO2, by rw [ofLeaf_miss a pre hx]; exact ⟨hrow2, trivial⟩⟩, bL2⟩, hB1.trans hB2⟩
    · (rw [if_pos (by rfl)]; go_simp; refine hK _ _ ?_; clear hK K)
      refine wpAnyIn_ready (rs := [0]) (by kernel_rfl) (by simp) (AllReadyIn.cons rfl (fun K hK => ?_) AllReadyIn.nil)
      (rw [if_pos (by rfl)]; refine operIn_load_mid _ _ rfl rfl hXd ⟨_, _, Tryd.underlying51⟩ (infoN x) (hK _ _ ?_); clear hK K)
      refine wpAnyIn_ready (rs := [1]) (by kernel_rfl) (by simp) (AllReadyIn.cons rfl (fun K hK => ?_) AllReadyIn.nil)
      (rw [if_pos (by rfl)]; go_simp; gi_at_call 28; refine (CallsIn.inRound l (leaf_in F (n - 1 - 1 - 1) (hw _) hro x _)).mono ?_; rintro e w' ⟨rfl, rfl⟩; refine hK _ _ ?_; clear hK K)
      refine wpAnyIn_ready (rs := [3]) (by kernel_rfl) (by simp) (AllReadyIn.cons rfl (fun K hK => ?_) AllReadyIn.nil)
      (rw [if_pos (by rfl)]; go_simp; refine hK _ _ ?_; clear hK K; refine wpAnyIn_done (by kernel_rfl) ?_ _)
      obtain ⟨W2, hW2, bO2, bL2, hrow2, hX2, hKO2, hB2⟩ : ∃ W2, (W.alloc (.cells (u8s x.1).toArray 51)).drew = W2 ∧ Boxed W2 (w.heap.size + 1) 48 v ∧ Boxed W2 w.heap.size 3 (.int .i64 a) ∧ W2.ownsRow w.heap.size 51 32 v (ofLeaf a pre).length ((ofLeaf a pre).flatMap encN) ∧ Arr W2 Bx 51 (u8s x.1) ∧ KeepsOthers W W2 ∧ Below w.heap.size W W2 :=
        ⟨_, rfl, bO1.alloc _, bL1.alloc _, hrow.alloc _, hX.alloc _, (KeepsOthers.alloc W _).trans (KeepsOthers.drew _), ((Below.refl _ W).alloc hB1.size _).drew⟩
      rw [hW2]
      clear hW2 cL cLd cLa cO fO hXd
      have cO2 := bO2.cell
      have fO2 := bO2.frozen
      gi_wp2_with (first
        | (refine wpListIn_load_mid rfl _ _ rfl rfl hX2 ⟨_, _, Tryd.underlying51⟩ (infoN x) ?_)
        | (refine wpListIn_buildN x.2 rfl _ rfl rfl ?_)
        | (gi_at_builtin
           refine wpListIn_append_own _ rfl _ _ 48 rfl w.heap.size 51 i0 (by32 Z32) 32 32 Tryd.underlying48 hi hz0 hz1 hz2 (by kernel_rfl) (by decide) _ _ _ rfl (hrow2.alloc _) ⟨W2.heap.size, 0, none⟩ 1 1 (u8s x.1) rfl (by rw [u8s_length, x.2]) (newCells W2 51 (u8s x.1)) (u8s_oneCell x.1) (Nat.le_trans (m := 1000001) (by have := ofLeaf_le a pre; omega) (by decide)) (by have := ofLeaf_le a pre; omega) (Nat.le_trans (hB1.trans hB2).size (by simp)) ?_
           intro v' w1 hown' hgrow _
           obtain ⟨g', cap', rfl⟩ := ownsRow_succ hown'
           obtain ⟨hv1, hv2, hr2, hk2, hb2⟩ := bO2.appended (by decide) hrow2 (hB1.trans hB2).size (Nat.le_succ _) hown' hgrow
           have bL3 := ((bL2.alloc _).kept hgrow (bL2.not_row (by decide) hrow2)).other (B' := w.heap.size + 1) (by omega) (Value.slice (some ⟨g', 0, none⟩) ((ofLeaf a pre).length + 1) cap')
           have hc1 := hv1.cell
           have hf1 := hv1.frozen))
      · have hx : (leafOf x : Int) = a := by unfold leafOf; rw [List.getD_eq_getElem?_getD]; exact beq_iff_eq.1 (by assumption)
        exact ⟨(hKO2.trans hk2).from _, (hKO2.trans hk2).walks, ⟨⟨_, hv2, by rw [ofLeaf_hit a pre hx, flatN_snoc, List.length_append]; exact hr2⟩, bL3⟩, hB1.trans (hB2.trans hb2)⟩
      · have hx : ¬ (leafOf x : Int) = a := by unfold leafOf; rw [List.getD_eq_getElem?_getD]; exact beq_eq_false_iff_ne.1 (by assumption)
        exact ⟨hKO2.from _, hKO2.walks, ⟨⟨v, bO2, by rw [ofLeaf_miss a pre hx]; exact ⟨hrow2, trivial⟩⟩, bL2⟩, hB1.trans hB2⟩
  case done =>
    rintro D ss W hD hS ⟨⟨⟨v, bO1, hrow, _⟩, bL1⟩, hB1⟩ hK
    have cO := bO1.cell
    have hL0 := CollN.leaf a hS.1
    have hle := ofLeaf_le a ss
    have hlen2 : (ofLeaf a ss).length ≤ Maps.size D0 := Nat.le_trans hle hS.2
    have hlen : (ofLeaf a ss).length ≤ 1000000 := Nat.le_trans hlen2 hsz
    rcases hrow.2 with ⟨rfl, hz⟩ | ⟨gq, cap, cur, rfl, hgB, hgh, hcap⟩
    · have hnil : ofLeaf a ss = [] := List.length_eq_zero_iff.1 hz
      gi_wp2_with (gi_at_call 29; refine (hcw _ _ _ _ _ (sort_none none 0 _ _)).mono ?_; rintro e w' ⟨rfl, rfl⟩)
      refine ⟨by simp, .inl ⟨_, _, rfl, run_takeDeferred hK, ?_⟩⟩
      refine ⟨_, results_tmp rfl _ _ _, none, 0, 0, [], rfl, ⟨rfl, fun i x hx => by simp at hx⟩, List.nodup_nil, fun x => ?_, List.Pairwise.nil, Nat.zero_le _, hB1.trans (belowK_b (w := w) (Nat.le_refl _) _ D _ _ (by omega) hK rfl rfl)⟩
      rw [← hL0.2 x, hnil]
    · have hbo : w.heap.size + 1 ≠ gq := by
        intro e
        have h2 : W.heap[w.heap.size + 1]? = _ := bO1
        rw [e, hgh] at h2
        injection h2 with h2
        injection h2 with _ h2
        exact absurd h2 (by decide)
      gi_wp2_with (gi_at_call 29; refine (hcw _ _ _ _ _ (sort_names (L := ofLeaf a ss) rfl hlen hgB hrow)).mono ?_; rintro e w' ⟨rfl, L', hmem, hpw, hnm, hperm, hBW, hoth⟩; have cO2 : w'.cell? ⟨w.heap.size + 1, 0, none⟩ = _ := (cell_of_heap (hoth _ bO1.lt (hbo))).trans cO)
      have hDl : D < W.heap.size := (Array.getElem?_eq_some_iff.1 hK).1
      have hDg : D ≠ gq := fun e => by rw [e, hgh] at hK; cases hK
      have hK2 : w'.heap[D]? = some (.deferred (some [])) := (hoth D hDl hDg).trans hK
      refine ⟨by simp, .inl ⟨_, _, rfl, run_takeDeferred hK2, ?_⟩⟩
      refine ⟨_, results_tmp rfl _ _ _, some ⟨gq, 0, none⟩, _, cap, L', rfl, hnm.put hDg, hperm.nodup_iff.2 hL0.1, fun x => (hmem x).trans (hL0.2 x), (by simpa only [Int.not_lt] using hpw), hlen2, hB1.trans (hBW.trans (belowK_b (w := w) (Nat.le_refl _) _ D _ _ (by omega) hK2 rfl rfl))⟩
  case stop =>
    rintro D c pre W _ _ h _
    exact h.elim
end
/-- Keys, at a tree's map. -/
theorem keys_any {w : World} {g b nn : Nat} {M : List UInt8 → Option (List UInt8)} (hT : TM w b nn M) (hnn : nn ≤ 1000000) (hc : w.cell? ⟨g, 0, none⟩ = some (.map (some b))) (a : Int) :
    Calls Tryd.prog 17 #[.pointer (some ⟨g, 0, none⟩), .int .i64 a] w fun e w' => ∃ (A : Option Addr) (m c : Nat) (L : List Nm), e = .returned (.slice A m c) ∧ NmR w' A m L ∧ L.Nodup ∧ (∀ x : Nm, x ∈ L ↔ (M x.1 ≠ none ∧ (leafOf x : Int) = a)) ∧ (L.Pairwise fun p q => ¬ Lib.compareBytes q.1 p.1 < 0) ∧ m ≤ nn ∧ Gr w w' := by
  obtain ⟨D, hD, h2⟩ := hT.own
  have h := keys_walk Fence.wide 6 rfl (Nat.le_refl _) (fun _ => trivial) (fun _ _ _ _ _ h => callsIn_wide.2 h) g b nn D a (Nat.le_trans hD.size_le hnn) w hc hD
  refine (callsIn_wide.1 h).mono ?_
  rintro e w' ⟨A, m, c, L, rfl, hL, hnd, hm, hp, hml, hB⟩
  refine ⟨A, m, c, L, rfl, hL, hnd, fun x => ?_, hp, Nat.le_trans hml hD.size_le, hB⟩
  rw [hm x, TM.has h2 x.2]
  cases M x.1 <;> simp
end Go.Proofs.YthpgldfjcancjaaDoor
