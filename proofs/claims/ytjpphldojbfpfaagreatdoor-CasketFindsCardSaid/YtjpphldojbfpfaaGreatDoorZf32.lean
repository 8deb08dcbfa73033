/- Texts of one proof, laid as one: part 32. No condition. -/
import Derived.Stop.BytesEq
import Derived.Shelf.SlSortCmp.WholeK
import Derived.Lib.BytesEntry
import Derived.Test.YtjpphldojbfpfaaGreatDoorProg
import Derived.Test.YtjpphldojbfpfaaGreatDoorZf01
import Derived.Test.YtjpphldojbfpfaaGreatDoorZf02
import Derived.Test.YtjpphldojbfpfaaGreatDoorZf03
import Derived.Test.YtjpphldojbfpfaaGreatDoorZf04
namespace Go.Proofs.YtjpphldojbfpfaaGreatDoor
open Go.RowKit
def joinD (D : Nat → List UInt8) (i : Nat) : List UInt8 := (List.range i).flatMap D
theorem joinD_succ (D : Nat → List UInt8) (i : Nat) : joinD D (i + 1) = joinD D i ++ D i := by
  unfold joinD; rw [List.range_succ, List.flatMap_append, List.flatMap_singleton]
def anyD (D : Nat → List UInt8) (i : Nat) : Bool := (List.range i).any fun j => D j != Z32
theorem anyD_succ (D : Nat → List UInt8) (i : Nat) : anyD D (i + 1) = (anyD D i || (D i != Z32)) := by
  unfold anyD; rw [List.range_succ, List.any_append]; simp
theorem joinD_length {D : Nat → List UInt8} (hD : ∀ i, (D i).length = 32) : ∀ i, (joinD D i).length = 32 * i
  | 0 => rfl
  | i + 1 => by rw [joinD_succ, List.length_append, joinD_length hD i, hD]; omega
def aboveL (D : Nat → List UInt8) : List UInt8 := if anyD D 4 then shaL (joinD D 4) else Z32
theorem above_base {w0 wr w5 w6 : World} {D : Nat → List UInt8} {i : Nat} {A : Option Addr} {cc : Nat} (ho : wr.ownsRow w0.heap.size 5 1 (.slice A (32 * i) cc) (32 * i) (u8s (joinD D i))) (hG : Gr w0 wr) (hG5 : Gr wr w5)
    (hg6 : w5.grownBy w6 (Value.slice A (32 * i) cc).ownBlock) : Gr w0 w6 := by
  refine Below.grown (hG.trans hG5) hg6 (hG.trans hG5).size fun j ej => ?_; rcases ho.2 with ⟨e, _⟩ | ⟨g, cap, cur, e, hb, _, _⟩
  · injection e with e1
    subst e1; cases ej
  · injection e with e1
    subst e1; injection ej with ej
    simp only at ej; omega
theorem above_next {w0 wr w5 w6 : World} {D : Nat → List UInt8} {i : Nat} {A : Option Addr} {cc : Nat} {b b' : Bool} {v' : Value} (hi : i ≤ 4) (hlt : i < 4) (hA : anyD D (i + 1) = (b || (D i != Z32))) (hb : b' = (b || (D i != Z32)))
    (ho : wr.ownsRow w0.heap.size 5 1 (.slice A (32 * i) cc) (32 * i) (u8s (joinD D i))) (hG : Gr w0 wr) (hG5 : Gr wr w5) (ho6 : w6.ownsRow w0.heap.size 5 1 v' (32 * i + 32) (u8s (joinD D i) ++ u8s (D i)))
    (hg6 : w5.grownBy w6 (Value.slice A (32 * i) cc).ownBlock) :
    (∃ i_1 A cc, i_1 ≤ 4 ∧ v' = Value.slice A (32 * i_1) cc ∧ Value.bool b' = Value.bool (anyD D i_1) ∧ Value.int IntKind.i64 ((i : Int) + 1) = Value.int IntKind.i64 (i_1 : Int) ∧ w6.ownsRow w0.heap.size 5 1 v' (32 * i_1) (u8s (joinD D i_1)) ∧ Gr w0 w6) ∧
    4 - (intOf (Value.int IntKind.i64 ((i : Int) + 1))).toNat < 4 - (intOf (Value.int IntKind.i64 (i : Int))).toNat := by
  refine ⟨?_, by simp only [intOf]; omega⟩; have e32 : 32 * (i + 1) = 32 * i + 32 := by omega
  obtain ⟨A', c', e⟩ : ∃ A' c', v' = .slice A' (32 * i + 32) c' := by
    rcases ho6.2 with ⟨_, e⟩ | ⟨g, cap, cur, e, _⟩
    · omega
    · exact ⟨_, _, e⟩
  refine ⟨i + 1, A', c', by omega, by rw [e32]; exact e, by rw [hA, hb], by simp, ?_, above_base ho hG hG5 hg6⟩; rw [e32, joinD_succ, show u8s (joinD D i ++ D i) = u8s (joinD D i) ++ u8s (D i) by simp [u8s]]; exact ho6
theorem above_keep {w0 wr w5 w6 : World} {D : Nat → List UInt8} {i : Nat} {A : Option Addr} {cc : Nat} {t : TypeId} {cs : List Value} (hA5 : Arr w5 wr.heap.size t cs) (ho : wr.ownsRow w0.heap.size 5 1 (.slice A (32 * i) cc) (32 * i) (u8s (joinD D i)))
    (hg6 : w5.grownBy w6 (Value.slice A (32 * i) cc).ownBlock) : Arr w6 wr.heap.size t cs := by
  refine (hg6.block _ hA5.lt fun e => ?_).trans hA5; rcases ho.2 with ⟨e1, _⟩ | ⟨g, cap, cur, e1, hb, hh, _⟩
  · injection e1 with e1
    subst e1; cases e
  · injection e1 with e1
    subst e1; have hl := (Array.getElem?_eq_some_iff.1 hh).1; injection e with e
    simp only at e; omega
theorem run_neqA32 {ev : Operand → Value} {d : Option Tmp} {t : TypeId} {p : String} {af : Array Edge} {gd : Option (Nat × Bool)} {w : World} {x y : Operand} {T : TypeId} {D : List UInt8} (hD : D.length = 32) (h1 : ev x = .agg (u8s D).toArray) (h2 : ev y = .agg (u8s Z32).toArray) :
    (execOp ev ⟨d, .binOp .neq 35 x y T, t, p, af, gd⟩).run Tryz.prog w = .ok (.value (.bool (D != Z32))) w := by
  have h3 := run_equalIn_bytes (P := Tryz.prog) w 9998 35 5 32 Tryz.underlying35 Tryz.underlying5 (fun w => by kernel_rfl) D Z32 hD rfl; have h4 : (Op.equalIn 10000 35 (.agg (u8s D).toArray) (.agg (u8s Z32).toArray)).run Tryz.prog w = .ok (D == Z32) w := h3; simp only [execOp, h1, h2]; go_simp; simp [bne]
set_option maxRecDepth 100000 in
set_option maxHeartbeats 8000000 in
theorem above_any {w : World} {g o c : Nat} {D : Nat → List UInt8} (hD : ∀ i, (D i).length = 32) (hR : ∀ i, i < 4 → w.rangeAt g (o + i * 32) (u8s (D i))) (gw : Glob w) :
    Calls Tryz.prog 50 #[.slice (some ⟨g, o, none⟩) 4 c] w fun e w' => e = .returned (by32 (aboveL D)) ∧ Gr w w' := by
  have HR := Lib.hid hR; have HD := Lib.hid hD; clear hR hD; obtain ⟨i0, hi0, hz0, hz1, hz2⟩ := info_parts Tryz.info5
  go_enter Tryz.func50, Tryz.ntmps50
  go_wp2_with fail
  have h4 : Arr (w.alloc (.cells (u8s Z32).toArray 35)) w.heap.size 35 (u8s Z32) := Arr.newAt rfl rfl; have gb : Gr w (w.alloc (.cells (u8s Z32).toArray 35)) := Gr.alloc _ _; change Code.wp _ _ _ _ (w.alloc (.cells (u8s Z32).toArray 35)); have hsz : (w.alloc (.cells (u8s Z32).toArray 35)).heap.size = w.heap.size + 1 := by simp
  generalize w.alloc (.cells (u8s Z32).toArray 35) = w0 at h4 gb hsz ⊢
  go_loopw [3, 4, 9] (fun v s k wr => ∃ (i : Nat) (A : Option Addr) (cc : Nat), i ≤ 4 ∧ v = .slice A (32 * i) cc ∧ s = .bool (anyD D i) ∧ k = .int .i64 i ∧ wr.ownsRow w0.heap.size 5 1 v (32 * i) (u8s (joinD D i)) ∧ Gr w0 wr) (fun _ _ k _ => 4 - (intOf k).toNat)
  case atStart => exact ⟨0, none, 0, by omega, rfl, rfl, rfl, ⟨rfl, .inl ⟨rfl, rfl⟩⟩, Gr.refl _⟩
  case round =>
    obtain ⟨i, A, cc, hi, rfl, rfl, rfl, ho, hG⟩ := hrel
    by_cases hlt : i < 4
    · have hr0 := HR.out i hlt; have hri : wr.rangeAt g (o + i * 32) (u8s (D i)) := fun j u hu => (Below.cell (gb.trans hG) (lt_of_cell (hr0 j u hu))).trans (hr0 j u hu); have hDi := HD.out i; have hs0 := hG.size; have hAS := anyD_succ D i; obtain ⟨b, hb⟩ : ∃ b, b = anyD D i := ⟨_, rfl⟩; rw [← hb] at hAS ⊢; have HAS := Lib.hid hAS; clear hAS hb; cases b with
      | true =>
        go_wp2_with first
          | (refine wpList_load_mid rfl _ _ rfl g _ rfl (u8s (D i)) _ (hri) Tryz.underlying35 rfl (infoD _ hDi) ?_)
          | (refine wpList_new (w := wr) (t := 35) rfl _ _ _ rfl wr.heap.size (u8s (D i)) rfl rfl rfl (by rw [u8s_length, hDi]; kernel_rfl) (infoD _ hDi) (u8s_oneCell _) ?_; intro w5 hA5 hG5)
          | (at_builtin; refine wpList_append_own _ rfl _ _ 43 rfl w0.heap.size 5 i0 (.int .u8 0) 1 1 Tryz.underlying43 hi0 hz0 hz1 hz2 rfl (by decide) _ _ _ rfl (Gr.own hG5 ho) ⟨wr.heap.size, 0, none⟩ 32 32 (u8s (D i)) rfl (by rw [u8s_length, hDi]) (fun j u h => by rw [add_row, Nat.zero_add]; exact hA5.cell h) (u8s_oneCell _) (Nat.le_trans (m := 1000) (by omega) (by decide)) (by omega) (Nat.le_trans hs0 hG5.size) ?_; intro v' w6 ho6 hg6 _)
        exact above_next hi hlt HAS.out rfl ho hG hG5 ho6 hg6
      | false =>
        go_wp2_with first
          | (refine wpList_load_mid rfl _ _ rfl g _ rfl (u8s (D i)) _ (hri) Tryz.underlying35 rfl (infoD _ hDi) ?_)
          | (refine wpList_new (w := wr) (t := 35) rfl _ _ _ rfl wr.heap.size (u8s (D i)) rfl rfl rfl (by rw [u8s_length, hDi]; kernel_rfl) (infoD _ hDi) (u8s_oneCell _) ?_; intro w5 hA5 hG5)
          | (at_builtin; refine wpList_append_own _ rfl _ _ 43 rfl w0.heap.size 5 i0 (.int .u8 0) 1 1 Tryz.underlying43 hi0 hz0 hz1 hz2 rfl (by decide) _ _ _ rfl (Gr.own hG5 ho) ⟨wr.heap.size, 0, none⟩ 32 32 (u8s (D i)) rfl (by rw [u8s_length, hDi]) (fun j u h => by rw [add_row, Nat.zero_add]; exact hA5.cell h) (u8s_oneCell _) (Nat.le_trans (m := 1000) (by omega) (by decide)) (by omega) (Nat.le_trans hs0 hG5.size) ?_; intro v' w6 ho6 hg6 _; have hA6 : Arr w6 wr.heap.size 35 (u8s (D i)) := above_keep hA5 ho hg6)
          | (refine wpList_loadW rfl 35 (.tmp 6) rfl rfl hA6 ⟨_, _, Tryz.underlying35⟩ (infoD _ hDi) ?_)
          | (refine wpList_valW rfl (.bool (D i != Z32)) _ (run_neqA32 (x := .tmp 18) (y := .tmp 19) hDi rfl rfl) ?_)
        exact above_next hi hlt HAS.out (Bool.false_or _).symm ho hG hG5 ho6 hg6
    · obtain rfl : i = 4 := by omega
      have hA4 := h4.gr hG; have hal : aboveL D = if anyD D 4 then shaL (joinD D 4) else Z32 := rfl
      obtain ⟨b, hb⟩ : ∃ b, b = anyD D 4 := ⟨_, rfl⟩; rw [← hb] at hal ⊢; have HAL := Lib.hid hal; clear hal hb; cases b with
      | false =>
        go_wp2_with (refine wpList_store_mid rfl _ _ _ rfl w.heap.size 0 (u8s Z32).toArray rfl rfl (by have := hA4.there; simpa using this) (by have := infoD Z32 rfl; simpa using this) (all_oneCell_toArray (u8s_oneCell _)) ?_; rw [List.toList_toArray]; have hA5 := hA4.setAll (u8s Z32) rfl; have hG5 : Gr w (wr.setCells w.heap.size 0 (u8s Z32)) := Below.trans (gb.trans hG) (below_setCells (Nat.le_refl _) _ _ _); generalize wr.setCells w.heap.size 0 (u8s Z32) = w5 at hA5 hG5 ⊢)
        refine bodyPost_ret (results_cell_row rfl _ _ w.heap.size _ _ _ _ rfl hA5 Tryz.underlying35 rfl (by have := infoD Z32 rfl; simpa using this)) rfl ?_; rw [HAL.out]; exact ⟨rfl, hG5⟩
      | true =>
        have hrd := Rd.of_own ho
        have hcc : 32 * 4 ≤ cc := by
          rcases ho.2 with ⟨_, e⟩ | ⟨g1, cap, cur, e, _, _, hn, _⟩
          · omega
          · injection e with _ _ e
            omega
        have hjl := joinD_length HD.out 4; have hP := parts1 (w := wr) rfl 43 ⟨A, 32 * 4, cc, joinD D 4⟩ hrd hcc; have hS := shaSum_any (some ⟨wr.heap.size, 0, none⟩) 1 1 [⟨A, 32 * 4, cc, joinD D 4⟩] (by omega) (joinD D 4) (by simp [allP]) (by omega) _ hP (Glob.gr ((gb.trans hG).trans (Gr.alloc wr _)) gw); have HS := Lib.hid hS; have hDl := shaL_length (joinD D 4); clear hS hP
        go_wp2_with first
          | (go_at_call 19; refine HS.out.mono ?_; rintro e w5 ⟨rfl, hB5⟩)
          | (refine wpList_store_mid rfl _ _ _ rfl w.heap.size 0 (u8s (shaL (joinD D 4))).toArray rfl rfl (by have := ((hA4.gr (Gr.alloc wr _)).gr hB5).there; simpa [u8s_length, hDl, Z32_length] using this) (by have := infoD _ hDl; simpa using this) (all_oneCell_toArray (u8s_oneCell _)) ?_; rw [List.toList_toArray]; have hA6 := ((hA4.gr (Gr.alloc wr _)).gr hB5).setAll (u8s (shaL (joinD D 4))) (by rw [u8s_length, u8s_length, hDl]; rfl); have hG6 : Gr w (w5.setCells w.heap.size 0 (u8s (shaL (joinD D 4)))) := Below.trans (((gb.trans hG).trans (Gr.alloc wr _)).trans hB5) (below_setCells (Nat.le_refl _) _ _ _); generalize w5.setCells w.heap.size 0 (u8s (shaL (joinD D 4))) = w6 at hA6 hG6 ⊢)
        refine bodyPost_ret (results_cell_row rfl _ _ w.heap.size _ _ _ _ rfl hA6 Tryz.underlying35 rfl (by have := infoD _ hDl; simpa using this)) rfl ?_; rw [HAL.out]; exact ⟨rfl, hG6⟩
end Go.Proofs.YtjpphldojbfpfaaGreatDoor
namespace Go.Proofs.YtjpphldojbfpfaaGreatDoor
open Go.RowKit
def LeafOf (M : List UInt8 → Option (List UInt8)) (a : Int) (L : List Nm) : Prop := L.Nodup ∧ (∀ x : Nm, x ∈ L ↔ (M x.1 ≠ none ∧ (leafOf x : Int) = a)) ∧ L.Pairwise fun p q => ¬ Lib.compareBytes q.1 p.1 < 0
def joinM (M : List UInt8 → Option (List UInt8)) (L : List Nm) : List UInt8 := L.flatMap fun x => x.1 ++ (M x.1).getD Z32
def leafL (M : List UInt8 → Option (List UInt8)) (L : List Nm) : List UInt8 := if L.length = 0 then Z32 else shaL (joinM M L)
theorem joinM_take {M : List UInt8 → Option (List UInt8)} {L : List Nm} {i : Nat} {x : Nm} (h : L[i]? = some x) : joinM M (L.take (i + 1)) = joinM M (L.take i) ++ x.1 ++ (M x.1).getD Z32 := by
  unfold joinM; rw [List.take_add_one, h, List.flatMap_append]; simp [List.append_assoc]
theorem getD_length {M : List UInt8 → Option (List UInt8)} (hM : ∀ k d, M k = some d → k.length = 32 ∧ d.length = 32) (k : List UInt8) : ((M k).getD Z32).length = 32 := by
  cases h : M k with
  | none => rfl
  | some d => exact (hM k d h).2
theorem joinM_length {M : List UInt8 → Option (List UInt8)} (hM : ∀ k d, M k = some d → k.length = 32 ∧ d.length = 32) (L : List Nm) : (joinM M L).length = 64 * L.length := by
  induction L with
  | nil => rfl
  | cons x L ih =>
    unfold joinM at ih ⊢; rw [List.flatMap_cons, List.length_append, List.length_append, ih, x.2, getD_length hM, List.length_cons]; omega
abbrev Rw := List (Nm × Nm)
def look (R : Rw) (k : List UInt8) : Option (List UInt8) := (R.find? fun p => decide (p.1.1 = k)).map fun p => p.2.1
def insR (k d : Nm) : Rw → Rw
  | [] => [(k, d)]
  | r :: R => if Lib.compareBytes r.1.1 k.1 < 0 then r :: insR k d R else (k, d) :: (r :: R).filter fun p => decide (p.1 ≠ k)
def setR (R : Rw) (k d : Nm) : Rw := if d.1 = Z32 then R.filter (fun p => decide (p.1 ≠ k)) else insR k d R
def SortedR (R : Rw) : Prop := R.Pairwise fun p q => Lib.compareBytes p.1.1 q.1.1 < 0
def inLeaf (R : Rw) (a : Nat) : Rw := R.filter fun p => decide (leafOf p.1 = a)
def joinR (R : Rw) : List UInt8 := R.flatMap fun p => p.1.1 ++ p.2.1
def leafR (R : Rw) (a : Nat) : List UInt8 := if (inLeaf R a).length = 0 then Z32 else shaL (joinR (inLeaf R a))
def nodeR (R : Rw) : Nat → Nat → List UInt8
  | 0, a => leafR R a
  | h + 1, a => aboveL fun i => nodeR R h (4 * a + i)
theorem aboveL_length (D : Nat → List UInt8) : (aboveL D).length = 32 := by
  unfold aboveL; split
  · exact shaL_length _
  · rfl
theorem leafR_length (R : Rw) (a : Nat) : (leafR R a).length = 32 := by
  unfold leafR; split
  · rfl
  · exact shaL_length _
theorem nodeR_length (R : Rw) : ∀ h a, (nodeR R h a).length = 32
  | 0, a => leafR_length R a
  | _ + 1, _ => aboveL_length _
theorem cb_irrefl (a : List UInt8) : ¬ Lib.compareBytes a a < 0 := by rw [cb_refl]; omega
theorem cb_ge_lt {a b : List UInt8} (h : ¬ Lib.compareBytes a b < 0) (hne : b ≠ a) : Lib.compareBytes b a < 0 := by
  have := cb_anti a b
  by_cases h0 : Lib.compareBytes a b = 0
  · exact absurd (cb_zero h0).symm hne
  · omega
theorem mem_insR {k d : Nm} {x : Nm × Nm} : ∀ {R : Rw}, x ∈ insR k d R → x = (k, d) ∨ x ∈ R
  | [], h => by
    have h2 : x ∈ [(k, d)] := h; exact .inl (by simpa using h2)
  | r :: R, h => by
    unfold insR at h; split at h
    · rcases List.mem_cons.1 h with h | h
      · exact .inr (by rw [h]; exact List.mem_cons_self ..)
      · rcases mem_insR h with h | h
        · exact .inl h
        · exact .inr (List.mem_cons_of_mem _ h)
    · rcases List.mem_cons.1 h with h | h
      · exact .inl h
      · exact .inr ((List.mem_filter.1 h).1)
theorem insR_sorted {k d : Nm} : ∀ {R : Rw}, SortedR R → SortedR (insR k d R)
  | [], _ => by
    show List.Pairwise _ [(k, d)]; exact List.pairwise_singleton _ _
  | r :: R, h => by
    obtain ⟨h1, h2⟩ := List.pairwise_cons.1 h; unfold insR; split
    · rename_i hlt
      refine List.pairwise_cons.2 ⟨fun x hx => ?_, insR_sorted h2⟩; rcases mem_insR hx with rfl | hx
      · exact hlt
      · exact h1 x hx
    · rename_i hge
      refine List.pairwise_cons.2 ⟨fun x hx => ?_, List.Pairwise.filter _ h⟩; obtain ⟨hx, hne⟩ := List.mem_filter.1 hx; have hne : x.1 ≠ k := by simpa using hne
      show Lib.compareBytes k.1 x.1.1 < 0
      have hk : ¬ Lib.compareBytes x.1.1 k.1 < 0 := by
        intro hlt; rcases List.mem_cons.1 hx with rfl | hx
        · exact hge hlt
        · exact hge (cb_trans (h1 x hx) hlt)
      exact cb_ge_lt hk fun e => hne (Subtype.ext e.symm)
theorem setR_sorted {R : Rw} (h : SortedR R) (k d : Nm) : SortedR (setR R k d) := by
  unfold setR; split
  · exact List.Pairwise.filter _ h
  · exact insR_sorted h
theorem look_cons (r : Nm × Nm) (R : Rw) (x : List UInt8) : look (r :: R) x = if r.1.1 = x then some r.2.1 else look R x := by
  unfold look; rw [List.find?_cons]
  by_cases e : r.1.1 = x
  · simp [e]
  · simp [e]
theorem look_nil (x : List UInt8) : look [] x = none := rfl
theorem look_drop (k : Nm) (x : List UInt8) : ∀ R : Rw, look (R.filter fun p => decide (p.1 ≠ k)) x = if x = k.1 then none else look R x
  | [] => by simp [look_nil]
  | r :: R => by
    rw [List.filter_cons]
    by_cases e : r.1 = k
    · rw [if_neg (by simpa using e), look_drop k x R, look_cons, e]
      by_cases e2 : x = k.1
      · rw [if_pos e2, if_pos e2]
      · rw [if_neg e2, if_neg e2, if_neg fun q => e2 q.symm]
    · rw [if_pos (by simpa using e), look_cons, look_drop k x R, look_cons]; have e1 : r.1.1 ≠ k.1 := fun q => e (Subtype.ext q)
      by_cases e2 : x = k.1
      · rw [if_pos e2, if_pos e2, if_neg (by rw [e2]; exact e1)]
      · rw [if_neg e2, if_neg e2]
theorem look_ins (k d : Nm) (x : List UInt8) : ∀ R : Rw, look (insR k d R) x = if x = k.1 then some d.1 else look R x
  | [] => by
    show look [(k, d)] x = _; rw [look_cons]
    by_cases e : x = k.1
    · rw [if_pos e, if_pos e.symm]
    · rw [if_neg e, if_neg fun q => e q.symm]
  | r :: R => by
    unfold insR; split
    · rename_i hlt
      rw [look_cons, look_ins k d x R, look_cons]; have e1 : r.1.1 ≠ k.1 := fun q => by rw [q] at hlt; exact cb_irrefl _ hlt
      by_cases e2 : x = k.1
      · rw [if_pos e2, if_pos e2, if_neg (by rw [e2]; exact e1)]
      · rw [if_neg e2, if_neg e2]
    · rw [look_cons, look_drop]
      by_cases e2 : x = k.1
      · rw [if_pos e2.symm, if_pos e2]
      · rw [if_neg (fun q => e2 q.symm), if_neg e2, if_neg e2]
theorem look_set (R : Rw) (k d : Nm) : look (setR R k d) = upd (look R) k.1 (if d.1 = Z32 then none else some d.1) := by
  funext x
  unfold setR upd; split
  · rw [look_drop]
  · rw [look_ins]
theorem look_mem {R : Rw} (h : SortedR R) {k d : Nm} (hm : (k, d) ∈ R) : look R k.1 = some d.1 := by
  induction R with
  | nil => cases hm
  | cons r R ih =>
    obtain ⟨h1, h2⟩ := List.pairwise_cons.1 h; rw [look_cons]; rcases List.mem_cons.1 hm with e | hm
    · rw [← e, if_pos rfl]
    · rw [if_neg fun q => ?_, ih h2 hm]; have := h1 _ hm; rw [q] at this; exact cb_irrefl _ this
theorem look_some {R : Rw} {x d : List UInt8} (h : look R x = some d) : ∃ p ∈ R, p.1.1 = x ∧ p.2.1 = d := by
  unfold look at h; obtain ⟨p, hp, hd⟩ := Option.map_eq_some_iff.1 h; exact ⟨p, List.mem_of_find?_eq_some hp, by simpa using List.find?_some hp, hd⟩
theorem sorted_nodup {R : Rw} (h : SortedR R) : (R.map fun p => p.1).Nodup := by
  unfold List.Nodup; rw [List.pairwise_map]; exact h.imp fun {p q} hlt e => by rw [e] at hlt; exact cb_irrefl _ hlt
theorem leafOf_rows {R : Rw} (h : SortedR R) (a : Nat) : LeafOf (look R) (a : Int) ((inLeaf R a).map fun p => p.1) := by
  have hs : SortedR (inLeaf R a) := List.Pairwise.filter _ h; refine ⟨sorted_nodup hs, fun x => ⟨fun hx => ?_, fun hx => ?_⟩, ?_⟩
  · obtain ⟨p, hp, rfl⟩ := List.mem_map.1 hx; obtain ⟨hp1, hp2⟩ := List.mem_filter.1 hp; rw [look_mem h hp1]
    exact ⟨by simp, by have : leafOf p.1 = a := by simpa using hp2
                       omega⟩
  · obtain ⟨h1, h2⟩ := hx; cases hl : look R x.1 with
    | none => exact absurd hl h1
    | some d =>
      obtain ⟨p, hp, e1, _⟩ := look_some hl; have e : p.1 = x := Subtype.ext e1; refine List.mem_map.2 ⟨p, List.mem_filter.2 ⟨hp, ?_⟩, e⟩; rw [e]; simpa using (by omega : leafOf x = a)
  · rw [List.pairwise_map]
    exact hs.imp fun {p q} hlt hgt => by
      have := cb_trans hlt hgt; exact cb_irrefl _ this
theorem leafOf_uniq {M : List UInt8 → Option (List UInt8)} {a : Int} {L L' : List Nm} (h : LeafOf M a L) (h' : LeafOf M a L') : L = L' := by
  have hp : L.Perm L' := (List.perm_ext_iff_of_nodup h.1 h'.1).2 fun x => (h.2.1 x).trans (h'.2.1 x).symm; refine List.Perm.eq_of_pairwise (le := fun p q => ¬ Lib.compareBytes q.1 p.1 < 0) ?_ h.2.2 h'.2.2 hp; intro p q _ _ h1 h2
  by_cases e : p = q
  · exact e
  · exact absurd (cb_ge_lt h1 fun q => e (Subtype.ext q)) h2
theorem joinM_rows {R : Rw} (h : SortedR R) (a : Nat) : joinM (look R) ((inLeaf R a).map fun p => p.1) = joinR (inLeaf R a) := by
  unfold joinM joinR
  have : ∀ S : Rw, (∀ p ∈ S, p ∈ R) → ((S.map fun p => p.1).flatMap fun x => x.1 ++ (look R x.1).getD Z32) = S.flatMap fun p => p.1.1 ++ p.2.1 := by
    intro S
    induction S with
    | nil => intro _; rfl
    | cons p S ih =>
      intro hS; rw [List.map_cons, List.flatMap_cons, List.flatMap_cons, ih fun q hq => hS q (List.mem_cons_of_mem _ hq), look_mem h (hS p (List.mem_cons_self ..))]; rfl
  exact this _ fun p hp => (List.mem_filter.1 hp).1
theorem leafL_rows {R : Rw} (h : SortedR R) {a : Nat} {L : List Nm} (hL : LeafOf (look R) (a : Int) L) : leafL (look R) L = leafR R a := by
  rw [leafOf_uniq hL (leafOf_rows h a)]; unfold leafL leafR; rw [List.length_map, joinM_rows h]
theorem inLeaf_drop (k : Nm) {c : Nat} (hc : leafOf k ≠ c) (R : Rw) : inLeaf (R.filter fun p => decide (p.1 ≠ k)) c = inLeaf R c := by
  unfold inLeaf; rw [List.filter_filter]; refine List.filter_congr fun p _ => ?_
  by_cases e : leafOf p.1 = c
  · have : p.1 ≠ k := fun q => hc (by rw [← q]; exact e); simp [e, this]
  · simp [e]
theorem inLeaf_ins (k d : Nm) {c : Nat} (hc : leafOf k ≠ c) : ∀ R : Rw, inLeaf (insR k d R) c = inLeaf R c
  | [] => by
    show inLeaf [(k, d)] c = inLeaf [] c; unfold inLeaf; rw [List.filter_cons, if_neg (by simpa using hc)]
  | r :: R => by
    unfold insR; split
    · have ih := inLeaf_ins k d hc R; unfold inLeaf at ih ⊢; rw [List.filter_cons, List.filter_cons, ih]
    · have ih := inLeaf_drop k hc (r :: R); unfold inLeaf at ih ⊢; rw [List.filter_cons, if_neg (by simpa using hc), ih]
theorem inLeaf_set (R : Rw) (k d : Nm) {c : Nat} (hc : leafOf k ≠ c) : inLeaf (setR R k d) c = inLeaf R c := by
  unfold setR; split
  · exact inLeaf_drop k hc R
  · exact inLeaf_ins k d hc R
theorem aboveL_congr {D E : Nat → List UInt8} (h : ∀ i, i < 4 → D i = E i) : aboveL D = aboveL E := by
  have h1 : anyD D 4 = anyD E 4 := by
    unfold anyD
    have : ∀ l : List Nat, (∀ i ∈ l, i < 4) → (l.any fun j => D j != Z32) = l.any fun j => E j != Z32 := by
      intro l
      induction l with
      | nil => intro _; rfl
      | cons x l ih => intro hl; rw [List.any_cons, List.any_cons, ih fun i hi => hl i (List.mem_cons_of_mem _ hi), h x (hl x (List.mem_cons_self ..))]
    exact this _ fun i hi => by simpa using hi
  have h2 : joinD D 4 = joinD E 4 := by
    unfold joinD
    have : ∀ l : List Nat, (∀ i ∈ l, i < 4) → l.flatMap D = l.flatMap E := by
      intro l
      induction l with
      | nil => intro _; rfl
      | cons x l ih => intro hl; rw [List.flatMap_cons, List.flatMap_cons, ih fun i hi => hl i (List.mem_cons_of_mem _ hi), h x (hl x (List.mem_cons_self ..))]
    exact this _ fun i hi => by simpa using hi
  unfold aboveL; rw [h1, h2]
theorem nodeR_congr {R S : Rw} : ∀ (h a : Nat), (∀ c, a * 4 ^ h ≤ c → c < (a + 1) * 4 ^ h → leafR R c = leafR S c) → nodeR R h a = nodeR S h a
  | 0, a, hc => hc a (by simp) (by simp)
  | h + 1, a, hc => by
    refine aboveL_congr fun i hi => nodeR_congr h _ fun c h1 h2 => hc c ?_ ?_
    · refine Nat.le_trans ?_ h1; rw [Nat.pow_succ, ← Nat.mul_assoc, Nat.mul_right_comm]; exact Nat.mul_le_mul_right _ (by omega)
    · refine Nat.lt_of_lt_of_le h2 ?_; rw [Nat.pow_succ, ← Nat.mul_assoc, Nat.mul_right_comm]; exact Nat.mul_le_mul_right _ (by omega)
theorem leafR_set (R : Rw) (k d : Nm) {c : Nat} (hc : leafOf k ≠ c) : leafR (setR R k d) c = leafR R c := by
  unfold leafR; rw [inLeaf_set R k d hc]
theorem nodeR_off (R : Rw) (k d : Nm) {h a : Nat} (hc : leafOf k / 4 ^ h ≠ a) : nodeR (setR R k d) h a = nodeR R h a := by
  refine nodeR_congr h a fun c h1 h2 => leafR_set R k d fun e => hc ?_; subst e; have hp : 0 < 4 ^ h := Nat.pow_pos (by omega); rw [Nat.div_eq_iff hp]; rw [Nat.add_mul] at h2; omega
end Go.Proofs.YtjpphldojbfpfaaGreatDoor
namespace Go.Proofs.YtjpphldojbfpfaaGreatDoor
open Go.RowKit
open Go.ChangeMaps (setBlock)
def treeT (g b : Nat) : Nat → Obj → Bool := fun k o => match o with | .map _ _ => k == b | .cells _ t _ => k == g && t == 126 | _ => false
theorem treeT_cells {g b k : Nat} {C : Array Value} {t : TypeId} {f : Nat × Nat} (h : (t == 126) = false) : treeT g b k (.cells C t f) = false := by simp [treeT, h]
section
variable {w w' : World}
theorem Tn.setMap {τ : Nat → Obj → Bool} {B b n n' : Nat} {M M' : List UInt8 → Option (List UInt8)} {o : Obj} (h : TM w b n M) (hw : w' = setBlock w b o) (h' : TM w' b n' M') (hB : B ≤ b) (hm : ∀ es c, τ b (.map es c) = true) : Tn τ B w w' := by
  obtain ⟨es, c, hbk⟩ := h.isMap; obtain ⟨es', c', hbk'⟩ := h'.isMap; subst hw; have ho : ∀ i, i ≠ b → (setBlock w b o).heap[i]? = w.heap[i]? := fun i hi => ChangeMaps.heap_setBlock_other hbk o hi; refine ⟨rfl, rfl, rfl, by simp [setBlock], fun i _ hf => ho i (fun e => ?_), fun i _ => ?_⟩
  · subst e; rcases hf with hf | hf
    · omega
    · rw [hbk] at hf; simp [Turns, hm] at hf
  · by_cases e : i = b
    · subst e; rw [hbk', hbk]; simp [Turns, hm]
    · rw [ho i e]
theorem Tn.setCells {τ : Nat → Obj → Bool} {B g : Nat} {t : TypeId} (hB : B ≤ g) (hm : ∀ C f, τ g (.cells C t f) = true) : ∀ (vs : List Value) (i : Nat) (w : World) (cs : List Value), Arr w g t cs → Tn τ B w (w.setCells g i vs)
  | [], _, _, _, _ => Tn.refl _
  | v :: vs, i, _, _, h => (Tn.cell h hB hm i v).trans (Tn.setCells hB hm vs (i + 1) _ _ (h.set i v))
end
theorem TreeAt.map' {w w' : World} {g b n n' : Nat} {M M' : List UInt8 → Option (List UInt8)} {N : Nat → Nat → List UInt8} {o : Obj} (h : TreeAt w g b n M N) (hw : w' = setBlock w b o) (h' : TM w' b n' M') : TreeAt w' g b n' M' N := by
  obtain ⟨es, c, hbk⟩ := h.map.isMap; refine ⟨?_, h', h.full⟩
  have hne : g ≠ b := by
    intro e; have h2 : w.heap[g]? = _ := h.arr; rw [e, hbk] at h2; cases h2
  have h2 : w'.heap[g]? = w.heap[g]? := by rw [hw]; exact ChangeMaps.heap_setBlock_other hbk o hne
  exact h2.trans h.arr
theorem TreeAt.more {w : World} {g b n : Nat} {M : List UInt8 → Option (List UInt8)} {N : Nat → Nat → List UInt8} (h : TreeAt w g b n M N) : TreeAt w g b (n + 1) M N := ⟨h.arr, h.map.more (Nat.le_succ n), h.full⟩
structure TreeIs (w : World) (g b n : Nat) (R : Rw) : Prop where
  at_ : ∃ N, TreeAt w g b n (look R) N ∧ ∀ h a, h ≤ 4 → a < 4 ^ (4 - h) → N (4 - h) a = nodeR R h a
  sorted : SortedR R
section
variable {w w' : World} {g b n : Nat} {R : Rw}
theorem TreeIs.gr (h : TreeIs w g b n R) (hG : Gr w w') : TreeIs w' g b n R := by
  obtain ⟨⟨N, h1, h2⟩, h3⟩ := h; exact ⟨⟨N, h1.gr hG, h2⟩, h3⟩
end
theorem leafR_nil (a : Nat) : leafR [] a = Z32 := rfl
theorem nodeR_nil : ∀ h a, nodeR [] h a = Z32
  | 0, a => leafR_nil a
  | h + 1, a => by
    have e : nodeR [] (h + 1) a = aboveL fun _ => Z32 := aboveL_congr fun i _ => nodeR_nil h _; rw [e]; rfl
def Path (R R' : Rw) (h : Nat) (N : Nat → Nat → List UInt8) : Prop :=
  (∀ i a, i ≤ 4 → i < h → a < 4 ^ (4 - i) → N (4 - i) a = nodeR R' i a) ∧ ∀ i a, i ≤ 4 → h ≤ i → a < 4 ^ (4 - i) → N (4 - i) a = nodeR R i a
theorem Path.step {R : Rw} {k d : Nm} {h : Nat} {N : Nat → Nat → List UInt8} (hP : Path R (setR R k d) h N) (hh : h ≤ 4) : Path R (setR R k d) (h + 1) (updN N (4 - h) (leafOf k / 4 ^ h) (nodeR (setR R k d) h (leafOf k / 4 ^ h))) := by
  refine ⟨fun i a hi hih ha => ?_, fun i a hi hih ha => ?_⟩
  · unfold updN
    by_cases e : 4 - i = 4 - h ∧ a = leafOf k / 4 ^ h
    · rw [if_pos e]; obtain ⟨e1, e2⟩ := e; have : i = h := by omega
      rw [this, e2]
    · rw [if_neg e]; rcases Nat.lt_or_ge i h with h1 | h1
      · exact hP.1 i a hi h1 ha
      · have e1 : i = h := by omega
        subst e1; have hne : a ≠ leafOf k / 4 ^ i := fun q => e ⟨rfl, q⟩; rw [hP.2 i a hi (Nat.le_refl _) ha, nodeR_off R k d fun q => hne q.symm]
  · unfold updN; rw [if_neg fun e => by omega]; exact hP.2 i a hi (by omega) ha
theorem Path.four {R : Rw} {k d : Nm} {h : Nat} {N : Nat → Nat → List UInt8} (hP : Path R (setR R k d) (h + 1) N) (hh : h < 4) (hk : leafOf k < 256) : aboveL (fun i => N (4 - h) (4 * (leafOf k / 4 ^ (h + 1)) + i)) = nodeR (setR R k d) (h + 1) (leafOf k / 4 ^ (h + 1)) := by
  refine aboveL_congr fun i hi => hP.1 h _ (by omega) (by omega) ?_
  have h1 : leafOf k / 4 ^ (h + 1) < 4 ^ (4 - (h + 1)) := by
    refine Nat.div_lt_of_lt_mul ?_; rw [← Nat.pow_add, show h + 1 + (4 - (h + 1)) = 4 by omega]; exact hk
  have h2 : 4 ^ (4 - h) = 4 ^ (4 - (h + 1)) * 4 := by rw [← Nat.pow_succ]; congr 1; omega
  omega
theorem Path.start {R : Rw} {k d : Nm} {N : Nat → Nat → List UInt8} (h : ∀ h a, h ≤ 4 → a < 4 ^ (4 - h) → N (4 - h) a = nodeR R h a) : Path R (setR R k d) 0 N :=
  ⟨fun i _ _ hi _ => absurd hi (by omega), fun i a hi _ ha => h i a hi ha⟩
theorem leafOf_lt (k : Nm) : leafOf k < 256 := (k.1.getD 0 0).toNat_lt
end Go.Proofs.YtjpphldojbfpfaaGreatDoor
namespace Go.Proofs.YtjpphldojbfpfaaGreatDoor
open Go.RowKit
def LowG (B : Nat) : Prop := 0 < B ∧ 1 < B
theorem Glob.lowG {w : World} (h : Glob w) : LowG w.heap.size := by
  refine ⟨?_, lt_of_cell (h.key (k := 0) (by omega))⟩; exact lt_of_cell (h.start 0 _ rfl)
theorem Glob.keep {B : Nat} {w w' : World} (h : Glob w) (hB : Below B w w') (l : LowG B) : Glob w' := ⟨fun j u hj => (World.cell?_of_block (hB.block _ l.1)).trans (h.start j u hj), fun j u hj => (World.cell?_of_block (hB.block _ l.2)).trans (h.keys j u hj)⟩
end Go.Proofs.YtjpphldojbfpfaaGreatDoor
namespace Go.Proofs.YtjpphldojbfpfaaGreatDoor
open Go.Shelf
def BlindSort_ren : Go.Shelf.Ren := ⟨fun | 6 => 134 | 15 => 149 | 14 => 152 | 28 => 165 | 29 => 166 | 20 => 167 | 21 => 168 | 22 => 169 | 23 => 170 | 24 => 171 | 25 => 172 | 26 => 173 | 27 => 174 | 46 => 184 | 47 => 180 | 48 => 181 | 49 => 185 | 50 => 186 | 57 => 191 | n => n, fun | 22 => 83 | 24 => 36 | 25 => 213 | 3 => 3 | 39 => 118 | 0 => 0 | 53 => 119 | 55 => 34 | 4 => 4 | 46 => 232 | 45 => 231 | 50 => 197 | 5 => 5 | 9 => 9 | 66 => 250 | 70 => 248 | 76 => 259 | 77 => 260 | n => n, fun | n => n⟩
theorem BlindSort : Go.Proofs.SlLaysF0.n6 Tryz.prog BlindSort_ren := {
  mixed := by kernel_rfl
  f6 := ⟨Tryz.f134.name, by decide, Tryz.func134.trans (congrArg some (by kernel_rfl))⟩
  f14 := ⟨Tryz.f152.name, by decide, Tryz.func152.trans (congrArg some (by kernel_rfl))⟩
  f15 := Tryz.func149.trans (congrArg some (by kernel_rfl))
  f20 := ⟨Tryz.f167.name, by decide, Tryz.func167.trans (congrArg some (by kernel_rfl))⟩
  f21 := ⟨Tryz.f168.name, by decide, Tryz.func168.trans (congrArg some (by kernel_rfl))⟩
  f22 := ⟨Tryz.f169.name, by decide, Tryz.func169.trans (congrArg some (by kernel_rfl))⟩
  f23 := ⟨Tryz.f170.name, by decide, Tryz.func170.trans (congrArg some (by kernel_rfl))⟩
  f24 := ⟨Tryz.f171.name, by decide, Tryz.func171.trans (congrArg some (by kernel_rfl))⟩
  f25 := ⟨Tryz.f172.name, by decide, Tryz.func172.trans (congrArg some (by kernel_rfl))⟩
  f26 := ⟨Tryz.f173.name, by decide, Tryz.func173.trans (congrArg some (by kernel_rfl))⟩
  f27 := ⟨Tryz.f174.name, by decide, Tryz.func174.trans (congrArg some (by kernel_rfl))⟩
  f28 := Tryz.func165.trans (congrArg some (by kernel_rfl))
  f29 := Tryz.func166.trans (congrArg some (by kernel_rfl))
  f46 := ⟨Tryz.f184.name, by decide, Tryz.func184.trans (congrArg some (by kernel_rfl))⟩
  f47 := Tryz.func180.trans (congrArg some (by kernel_rfl))
  f48 := Tryz.func181.trans (congrArg some (by kernel_rfl))
  f49 := ⟨Tryz.f185.name, by decide, Tryz.func185.trans (congrArg some (by kernel_rfl))⟩
  f50 := ⟨Tryz.f186.name, by decide, Tryz.func186.trans (congrArg some (by kernel_rfl))⟩
  f57 := ⟨Tryz.f191.name, by decide, Tryz.func191.trans (congrArg some (by kernel_rfl))⟩
  t0 := Tryz.underlying0
  a0 := Tryz.isAgg0
  z0 := Tryz.sizeOf0
  v0 := Tryz.zeroValue0
  t3 := Tryz.underlying3
  a3 := Tryz.isAgg3
  z3 := Tryz.sizeOf3
  v3 := Tryz.zeroValue3
  t4 := Tryz.underlying4
  a4 := Tryz.isAgg4
  z4 := Tryz.sizeOf4
  v4 := Tryz.zeroValue4
  t5 := Tryz.underlying5
  a5 := Tryz.isAgg5
  z5 := Tryz.sizeOf5
  v5 := Tryz.zeroValue5
  t9 := Tryz.underlying9
  a9 := Tryz.isAgg9
  z9 := Tryz.sizeOf9
  v9 := Tryz.zeroValue9
  t22 := Tryz.underlying83
  a22 := Tryz.isAgg83
  z22 := Tryz.sizeOf83
  v22 := Tryz.zeroValue83
  t25 := Tryz.underlying213
  a25 := Tryz.isAgg213
  z25 := Tryz.sizeOf213
  v25 := Tryz.zeroValue213
  t39 := Tryz.underlying118
  a39 := Tryz.isAgg118
  z39 := Tryz.sizeOf118
  v39 := Tryz.zeroValue118
  t45 := Tryz.underlying231
  a45 := Tryz.isAgg231
  z45 := Tryz.sizeOf231
  v45 := Tryz.zeroValue231
  t46 := Tryz.underlying232
  a46 := Tryz.isAgg232
  z46 := Tryz.sizeOf232
  v46 := Tryz.zeroValue232
  t50 := Tryz.underlying197
  a50 := Tryz.isAgg197
  z50 := Tryz.sizeOf197
  v50 := Tryz.zeroValue197
  t53 := Tryz.underlying119
  a53 := Tryz.isAgg119
  z53 := Tryz.sizeOf119
  v53 := Tryz.zeroValue119
  t55 := Tryz.underlying34
  a55 := Tryz.isAgg34
  z55 := Tryz.sizeOf34
  v55 := Tryz.zeroValue34
  t66 := Tryz.underlying250
  a66 := Tryz.isAgg250
  z66 := Tryz.sizeOf250
  v66 := Tryz.zeroValue250
  t70 := Tryz.underlying248
  a70 := Tryz.isAgg248
  z70 := Tryz.sizeOf248
  v70 := Tryz.zeroValue248
  t76 := Tryz.underlying259
  a76 := Tryz.isAgg259
  z76 := Tryz.sizeOf259
  v76 := Tryz.zeroValue259
  t77 := Tryz.underlying260
  a77 := Tryz.isAgg260
  z77 := Tryz.sizeOf260
  v77 := Tryz.zeroValue260 }
end Go.Proofs.YtjpphldojbfpfaaGreatDoor
namespace Go.Proofs.YtjpphldojbfpfaaGreatDoor
open Go.RowKit
theorem run_loadRd {P : Program} {w : World} : ∀ (l : List UInt8) (a : Addr) (acc : ByteArray), (∀ j x, l[j]? = some x → w.cell? (a.add j) = some (.int .u8 (x.toNat : Int))) →
    (Extern.Bytes.loadBytes a l.length acc).run P w = .ok ⟨acc.data ++ l.toArray⟩ w := by
  intro l a acc h
  have h2 := Lib.run_loadBytesX (P := P) w (l.map fun b : UInt8 => (b.toNat : Int)) a acc (fun j x hj => by
    rw [List.getElem?_map, Option.map_eq_some_iff] at hj; obtain ⟨b, hb, rfl⟩ := hj; exact h j b hb)
  rw [List.length_map] at h2; rw [h2]; congr 2
  have : Lib.bytesOf (l.map fun b : UInt8 => (b.toNat : Int)) = l := by
    unfold Lib.bytesOf; rw [List.map_map]
    conv => rhs; rw [← List.map_id l]
    refine List.map_congr_left fun b _ => ?_; simp
  rw [this]
theorem run_compareRd {P : Program} {w : World} {a b : List UInt8} {A B : Addr} {n m c d : Nat} (ha : Rd w (some A) n (u8s a)) (hb : Rd w (some B) m (u8s b)) :
    (Extern.BytealgCompare.compare #[.slice (some A) n c, .slice (some B) m d]).run P w = .ok (.int .i64 (Lib.compareBytes a b)) w := by
  have hal : a.length = n := by have := ha.1; rwa [u8s_length] at this
  have hbl : b.length = m := by have := hb.1; rwa [u8s_length] at this
  have h1 := run_loadRd (P := P) (w := w) a A .empty (fun j x hj => by
    obtain ⟨ad, e, hc⟩ := ha.2 j _ (u8s_at hj); injection e with e
    subst e; exact hc)
  have h2 := run_loadRd (P := P) (w := w) b B .empty (fun j x hj => by
    obtain ⟨ad, e, hc⟩ := hb.2 j _ (u8s_at hj); injection e with e
    subst e; exact hc)
  rw [hal] at h1; rw [hbl] at h2
  have he : ∀ l : List UInt8, (⟨ByteArray.empty.data ++ l.toArray⟩ : ByteArray) = ⟨l.toArray⟩ := fun l => by
    apply ByteArray.ext
    show (#[] : Array UInt8) ++ l.toArray = l.toArray; simp
  rw [he] at h1 h2; change Sem.run P (do pure (goInt (Extern.BytealgCompare.cmp (← Extern.Bytes.bytesOf (.slice (some A) n c)) (← Extern.Bytes.bytesOf (.slice (some B) m d))))) w = _; simp only [Extern.Bytes.bytesOf, Sem.run_bind, Sem.run_pure, h1, h2, Result.andThen]; rw [Lib.cmp_eq]; rfl
set_option maxRecDepth 100000 in
set_option maxHeartbeats 4000000 in
theorem bcmp_any {a b : List UInt8} {A B : Addr} {n m c d : Nat} {w : World} (ha : Rd w (some A) n (u8s a)) (hb : Rd w (some B) m (u8s b)) :
    Calls Tryz.prog 129 #[.slice (some A) n c, .slice (some B) m d] w fun e w' => e = .returned (.int .i64 (Lib.compareBytes a b)) ∧ w = w' := by
  have hr := run_compareRd (P := Tryz.prog) (c := c) (d := d) ha hb
  go_enter Tryz.func129, Tryz.ntmps129
  go_wp2_with fail
  rw [run_callFunc_extern Tryz.func150 (by kernel_rfl) (by kernel_rfl) (by kernel_rfl) (e := Extern.BytealgCompare.compare) (by kernel_rfl), hr]; simp only [Result.andThen]; rw [Oper.upon_value]; go_wp2_with fail
  go_ret
  exact ⟨rfl, rfl⟩
set_option maxRecDepth 100000 in
set_option maxHeartbeats 8000000 in
theorem order_any (a b : List UInt8) (hal : a.length = 32) (hbl : b.length = 32) (w : World) : Calls Tryz.prog 135 #[by32 a, by32 b] w fun e w' => e = .returned (.int .i64 (Lib.compareBytes a b)) ∧ GG w w' := by
  have h2 : Arr ((w.alloc (.cells (u8s a).toArray 36)).alloc (.cells (u8s b).toArray 36)) w.heap.size 36 (u8s a) := Arr.alloc (Arr.newAt rfl rfl) _; have h3 : Arr ((w.alloc (.cells (u8s a).toArray 36)).alloc (.cells (u8s b).toArray 36)) (w.heap.size + 1) 36 (u8s b) := Arr.newAt (by simp only [asz]) rfl; have gb : GG w ((w.alloc (.cells (u8s a).toArray 36)).alloc (.cells (u8s b).toArray 36)) := (GG.alloc _ _).trans (GG.alloc _ _); unfold by32
  go_enter Tryz.func135, Tryz.ntmps135
  go_upto_region 1 with fail
  change Code.wp _ _ _ _ ((w.alloc (.cells (u8s a).toArray 36)).alloc (.cells (u8s b).toArray 36)); generalize (w.alloc (.cells (u8s a).toArray 36)).alloc (.cells (u8s b).toArray 36) = w0 at h2 h3 gb ⊢; generalize w.heap.size + 1 = g3 at h3 ⊢; generalize w.heap.size = g2 at h2 ⊢; have r2 := h2.rdAll hal; have r3 := h3.rdAll hbl; refine wp_region_cutG GG GG.refl (fun _ _ _ => GG.trans) (by kernel_rfl) [IsV (.slice (some ⟨g2, 0, none⟩) 32 32), IsV (.slice (some ⟨g3, 0, none⟩) 32 32), IsV (.int .i64 (Lib.compareBytes a b))] 3 (by decide) (by kernel_rfl) (by kernel_rfl) (by kernel_rfl) ?_ ?_ ?_
  · intro φ hφ v w1 w2 h hg; simp only [List.mem_cons, List.not_mem_nil, or_false] at hφ; rcases hφ with rfl | rfl | rfl <;> exact h
  · refine ⟨?_, ?_, ?_, trivial⟩
    · intro a1 w1 hG hF; have e2 : a1.eval (.tmp 2) = .pointer (some ⟨g2, 0, none⟩) := hF.ol 2 (by kernel_rfl); exact gg_val rfl rfl _ _ (by simp only [execOp, e2, Option.map, Sem.run_bind, run_cutAll (P := Tryz.prog) Tryz.underlying36 (by kernel_rfl), Result.andThen_ok, Sem.run_pure]) rfl (GG.refl _)
    · intro a1 w1 hG hF; have e3 : a1.eval (.tmp 3) = .pointer (some ⟨g3, 0, none⟩) := hF.ol 3 (by kernel_rfl); exact gg_val rfl rfl _ _ (by simp only [execOp, e3, Option.map, Sem.run_bind, run_cutAll (P := Tryz.prog) Tryz.underlying36 (by kernel_rfl), Result.andThen_ok, Sem.run_pure]) rfl (GG.refl _)
    · intro a1 w1 hG hF; have hG := GG.gr hG; obtain ⟨_, e5, rfl⟩ := hF.dp 0 5 (by kernel_rfl); obtain ⟨_, e6, rfl⟩ := hF.dp 1 6 (by kernel_rfl); exact gg_call rfl rfl 129 #[.slice (some ⟨g2, 0, none⟩) 32 32, .slice (some ⟨g3, 0, none⟩) 32 32] (by simp only [execOp, resolve, invoke, List.map_toArray, List.map_cons, List.map_nil, e5, e6]; go_simp) _ (bcmp_any (((Gr.drew w0).trans hG).rd r2) (((Gr.drew w0).trans hG).rd r3)) rfl (GG.refl _)
  · intro vs w1 hG hf; have y7 : vs 2 = .int .i64 (Lib.compareBytes a b) := hf.2.2.1; clear hf; simp only [List.take_succ_cons, List.take_zero, List.drop_succ_cons, List.drop_zero, putAll, Nat.zero_add, Nat.reduceAdd]; have gF := (gb.trans (GG.drew _)).trans hG; rw [y7]; unfold wpList; go_simp; try refine .inl ?_
    try unfold wpList
    go_simp; go_wp2_with fail
    go_ret
    exact ⟨rfl, gF⟩
end Go.Proofs.YtjpphldojbfpfaaGreatDoor
