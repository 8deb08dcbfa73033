/- The walk of merkle.above. No condition. -/
import Derived.Test.YthpgldfjcancjaaDoorKitN
import Derived.Test.YthpgldfjcancjaaDoorKitS
import Derived.Stop.BytesEq
import Derived.Test.YthpgldfjcancjaaDoorKitM
namespace Go.Proofs.YthpgldfjcancjaaDoor
open Go.RowKit
/-- The digests of four, one behind the other. -/
def joinD (D : Nat → List UInt8) (i : Nat) : List UInt8 := (List.range i).flatMap D
theorem joinD_succ (D : Nat → List UInt8) (i : Nat) : joinD D (i + 1) = joinD D i ++ D i := by
  unfold joinD
  rw [List.range_succ, List.flatMap_append, List.flatMap_singleton]
def anyD (D : Nat → List UInt8) (i : Nat) : Bool := (List.range i).any fun j => D j != Z32
theorem anyD_succ (D : Nat → List UInt8) (i : Nat) : anyD D (i + 1) = (anyD D i || (D i != Z32)) := by
  unfold anyD
  rw [List.range_succ, List.any_append]
  simp
theorem joinD_length {D : Nat → List UInt8} (hD : ∀ i, (D i).length = 32) : ∀ i, (joinD D i).length = 32 * i
  | 0 => rfl
  | i + 1 => by rw [joinD_succ, List.length_append, joinD_length hD i, hD]; omega
def aboveL (D : Nat → List UInt8) : List UInt8 := if anyD D 4 then shaL (joinD D 4) else Z32
theorem above_base {w0 wr w5 w6 : World} {D : Nat → List UInt8} {i : Nat} {A : Option Addr} {cc : Nat} (ho : wr.ownsRow w0.heap.size 5 1 (.slice A (32 * i) cc) (32 * i) (u8s (joinD D i))) (hG : Gr w0 wr) (hG5 : Gr wr w5)
    (hg6 : w5.grownBy w6 (Value.slice A (32 * i) cc).ownBlock) : Gr w0 w6 := by
  refine Below.grown (hG.trans hG5) hg6 (hG.trans hG5).size fun j ej => ?_
  rcases ho.2 with ⟨e, _⟩ | ⟨g, cap, cur, e, hb, _, _⟩
  · injection e with e1
    subst e1
    cases ej
  · injection e with e1
    subst e1
    injection ej with ej
    simp only at ej
    omega
theorem above_next {w0 wr w5 w6 : World} {D : Nat → List UInt8} {i : Nat} {A : Option Addr} {cc : Nat} {b b' : Bool} {v' : Value} (hi : i ≤ 4) (hlt : i < 4) (hA : anyD D (i + 1) = (b || (D i != Z32))) (hb : b' = (b || (D i != Z32)))
    (ho : wr.ownsRow w0.heap.size 5 1 (.slice A (32 * i) cc) (32 * i) (u8s (joinD D i))) (hG : Gr w0 wr) (hG5 : Gr wr w5) (ho6 : w6.ownsRow w0.heap.size 5 1 v' (32 * i + 32) (u8s (joinD D i) ++ u8s (D i)))
    (hg6 : w5.grownBy w6 (Value.slice A (32 * i) cc).ownBlock) :
    (∃ i_1 A cc, i_1 ≤ 4 ∧ v' = Value.slice A (32 * i_1) cc ∧ Value.bool b' = Value.bool (anyD D i_1) ∧ Value.int IntKind.i64 ((i : Int) + 1) = Value.int IntKind.i64 (i_1 : Int) ∧ w6.ownsRow w0.heap.size 5 1 v' (32 * i_1) (u8s (joinD D i_1)) ∧ Gr w0 w6) ∧
    4 - (intOf (Value.int IntKind.i64 ((i : Int) + 1))).toNat < 4 - (intOf (Value.int IntKind.i64 (i : Int))).toNat := by
  refine ⟨?_, by simp only [intOf]; omega⟩
  have e32 : 32 * (i + 1) = 32 * i + 32 := by omega
  obtain ⟨A', c', e⟩ : ∃ A' c', v' = .slice A' (32 * i + 32) c' := by
    rcases ho6.2 with ⟨_, e⟩ | ⟨g, cap, cur, e, _⟩
    · omega
    · exact ⟨_, _, e⟩
  refine ⟨i + 1, A', c', by omega, by rw [e32]; exact e, by rw [hA, hb], by simp, ?_, above_base ho hG hG5 hg6⟩
  rw [e32, joinD_succ, show u8s (joinD D i ++ D i) = u8s (joinD D i) ++ u8s (D i) by simp [u8s]]
  exact ho6
theorem above_keep {w0 wr w5 w6 : World} {D : Nat → List UInt8} {i : Nat} {A : Option Addr} {cc : Nat} {t : TypeId} {cs : List Value} (hA5 : Arr w5 wr.heap.size t cs) (ho : wr.ownsRow w0.heap.size 5 1 (.slice A (32 * i) cc) (32 * i) (u8s (joinD D i)))
    (hg6 : w5.grownBy w6 (Value.slice A (32 * i) cc).ownBlock) : Arr w6 wr.heap.size t cs := by
  refine (hg6.block _ hA5.lt fun e => ?_).trans hA5
  rcases ho.2 with ⟨e1, _⟩ | ⟨g, cap, cur, e1, hb, hh, _⟩
  · injection e1 with e1
    subst e1
    cases e
  · injection e1 with e1
    subst e1
    have hl := (Array.getElem?_eq_some_iff.1 hh).1
    injection e with e
    simp only at e
    omega
theorem run_neqA32 {ev : Operand → Value} {d : Option Tmp} {t : TypeId} {p : String} {af : Array Edge} {gd : Option (Nat × Bool)} {w : World} {x y : Operand} {T : TypeId} {D : List UInt8} (hD : D.length = 32) (h1 : ev x = .agg (u8s D).toArray) (h2 : ev y = .agg (u8s Z32).toArray) :
    (execOp ev ⟨d, .binOp .neq 43 x y T, t, p, af, gd⟩).run Tryd.prog w = .ok (.value (.bool (D != Z32))) w := by
  have h3 := run_equalIn_bytes (P := Tryd.prog) w 9998 43 5 32 Tryd.underlying43 Tryd.underlying5 (fun w => by kernel_rfl) D Z32 hD rfl
  have h4 : (Op.equalIn 10000 43 (.agg (u8s D).toArray) (.agg (u8s Z32).toArray)).run Tryd.prog w = .ok (D == Z32) w := h3
  simp only [execOp, h1, h2]
  go_simp
  simp [bne]
set_option maxRecDepth 100000 in
set_option maxHeartbeats 8000000 in
theorem above_any {w : World} {g o c : Nat} {D : Nat → List UInt8} (hD : ∀ i, (D i).length = 32) (hR : ∀ i, i < 4 → w.rangeAt g (o + i * 32) (u8s (D i))) (gw : Glob w) :
    Calls Tryd.prog 33 #[.slice (some ⟨g, o, none⟩) 4 c] w fun e w' => e = .returned (by32 (aboveL D)) ∧ Gr w w' := by
  have HR := Lib.hid hR
  have HD := Lib.hid hD
  clear hR hD
  obtain ⟨i0, hi0, hz0, hz1, hz2⟩ := info_parts Tryd.info5
  go_enter Tryd.func33, Tryd.ntmps33
  go_wp2_with fail
  have h4 : Arr (w.alloc (.cells (u8s Z32).toArray 43)) w.heap.size 43 (u8s Z32) := Arr.newAt rfl rfl
  have gb : Gr w (w.alloc (.cells (u8s Z32).toArray 43)) := Gr.alloc _ _
  change Code.wp _ _ _ _ (w.alloc (.cells (u8s Z32).toArray 43))
  have hsz : (w.alloc (.cells (u8s Z32).toArray 43)).heap.size = w.heap.size + 1 := by simp
  generalize w.alloc (.cells (u8s Z32).toArray 43) = w0 at h4 gb hsz ⊢
  go_loopw [3, 4, 9] (fun v s k wr => ∃ (i : Nat) (A : Option Addr) (cc : Nat), i ≤ 4 ∧ v = .slice A (32 * i) cc ∧ s = .bool (anyD D i) ∧ k = .int .i64 i ∧ wr.ownsRow w0.heap.size 5 1 v (32 * i) (u8s (joinD D i)) ∧ Gr w0 wr) (fun _ _ k _ => 4 - (intOf k).toNat)
  case atStart => exact ⟨0, none, 0, by omega, rfl, rfl, rfl, ⟨rfl, .inl ⟨rfl, rfl⟩⟩, Gr.refl _⟩
  case round =>
    obtain ⟨i, A, cc, hi, rfl, rfl, rfl, ho, hG⟩ := hrel
    by_cases hlt : i < 4
    · have hr0 := HR.out i hlt
      have hri : wr.rangeAt g (o + i * 32) (u8s (D i)) := fun j u hu => (Below.cell (gb.trans hG) (lt_of_cell (hr0 j u hu))).trans (hr0 j u hu)
      have hDi := HD.out i
      have hs0 := hG.size
      have hAS := anyD_succ D i
      obtain ⟨b, hb⟩ : ∃ b, b = anyD D i := ⟨_, rfl⟩
      rw [← hb] at hAS ⊢
      have HAS := Lib.hid hAS
      clear hAS hb
      cases b with
      | true =>
        go_wp2_with first
          | (refine wpList_load_mid rfl _ _ rfl g _ rfl (u8s (D i)) _ (hri) Tryd.underlying43 rfl (infoD _ hDi) ?_)
          | (refine wpList_new (w := wr) (t := 43) rfl _ _ _ rfl wr.heap.size (u8s (D i)) rfl rfl rfl (by rw [u8s_length, hDi]; kernel_rfl) (infoD _ hDi) (u8s_oneCell _) ?_; intro w5 hA5 hG5)
          | (at_builtin; refine wpList_append_own _ rfl _ _ 44 rfl w0.heap.size 5 i0 (.int .u8 0) 1 1 Tryd.underlying44 hi0 hz0 hz1 hz2 rfl (by decide) _ _ _ rfl (Gr.own hG5 ho) ⟨wr.heap.size, 0, none⟩ 32 32 (u8s (D i)) rfl (by rw [u8s_length, hDi]) (fun j u h => by rw [add_row, Nat.zero_add]; exact hA5.cell h) (u8s_oneCell _) (Nat.le_trans (m := 1000) (by omega) (by decide)) (by omega) (Nat.le_trans hs0 hG5.size) ?_; intro v' w6 ho6 hg6 _)
        exact above_next hi hlt HAS.out rfl ho hG hG5 ho6 hg6
      | false =>
        go_wp2_with first
          | (refine wpList_load_mid rfl _ _ rfl g _ rfl (u8s (D i)) _ (hri) Tryd.underlying43 rfl (infoD _ hDi) ?_)
          | (refine wpList_new (w := wr) (t := 43) rfl _ _ _ rfl wr.heap.size (u8s (D i)) rfl rfl rfl (by rw [u8s_length, hDi]; kernel_rfl) (infoD _ hDi) (u8s_oneCell _) ?_; intro w5 hA5 hG5)
          | (at_builtin; refine wpList_append_own _ rfl _ _ 44 rfl w0.heap.size 5 i0 (.int .u8 0) 1 1 Tryd.underlying44 hi0 hz0 hz1 hz2 rfl (by decide) _ _ _ rfl (Gr.own hG5 ho) ⟨wr.heap.size, 0, none⟩ 32 32 (u8s (D i)) rfl (by rw [u8s_length, hDi]) (fun j u h => by rw [add_row, Nat.zero_add]; exact hA5.cell h) (u8s_oneCell _) (Nat.le_trans (m := 1000) (by omega) (by decide)) (by omega) (Nat.le_trans hs0 hG5.size) ?_; intro v' w6 ho6 hg6 _; have hA6 : Arr w6 wr.heap.size 43 (u8s (D i)) := above_keep hA5 ho hg6)
          | (refine wpList_loadW rfl 43 (.tmp 6) rfl rfl hA6 ⟨_, _, Tryd.underlying43⟩ (infoD _ hDi) ?_)
          | (refine wpList_valW rfl (.bool (D i != Z32)) _ (run_neqA32 (x := .tmp 18) (y := .tmp 19) hDi rfl rfl) ?_)
        exact above_next hi hlt HAS.out (Bool.false_or _).symm ho hG hG5 ho6 hg6
    · obtain rfl : i = 4 := by omega
      have hA4 := h4.gr hG
      have hal : aboveL D = if anyD D 4 then shaL (joinD D 4) else Z32 := rfl
      obtain ⟨b, hb⟩ : ∃ b, b = anyD D 4 := ⟨_, rfl⟩
      rw [← hb] at hal ⊢
      have HAL := Lib.hid hal
      clear hal hb
      cases b with
      | false =>
        go_wp2_with (refine wpList_store_mid rfl _ _ _ rfl w.heap.size 0 (u8s Z32).toArray rfl rfl (by have := hA4.there; simpa using this) (by have := infoD Z32 rfl; simpa using this) (all_oneCell_toArray (u8s_oneCell _)) ?_; rw [List.toList_toArray]; have hA5 := hA4.setAll (u8s Z32) rfl; have hG5 : Gr w (wr.setCells w.heap.size 0 (u8s Z32)) := Below.trans (gb.trans hG) (below_setCells (Nat.le_refl _) _ _ _); generalize wr.setCells w.heap.size 0 (u8s Z32) = w5 at hA5 hG5 ⊢)
        refine bodyPost_ret (results_cell_row rfl _ _ w.heap.size _ _ _ _ rfl hA5 Tryd.underlying43 rfl (by have := infoD Z32 rfl; simpa using this)) rfl ?_
        rw [HAL.out]
        exact ⟨rfl, hG5⟩
      | true =>
        have hrd := Rd.of_own ho
        have hcc : 32 * 4 ≤ cc := by
          rcases ho.2 with ⟨_, e⟩ | ⟨g1, cap, cur, e, _, _, hn, _⟩
          · omega
          · injection e with _ _ e
            omega
        have hjl := joinD_length HD.out 4
        have hP := parts1 (w := wr) rfl 44 ⟨A, 32 * 4, cc, joinD D 4⟩ hrd hcc
        have hS := shaSum_any (some ⟨wr.heap.size, 0, none⟩) 1 1 [⟨A, 32 * 4, cc, joinD D 4⟩] (by omega) (joinD D 4) (by simp [allP]) (by omega) _ hP (Glob.gr ((gb.trans hG).trans (Gr.alloc wr _)) gw)
        have HS := Lib.hid hS
        have hDl := shaL_length (joinD D 4)
        clear hS hP
        go_wp2_with first
          | (go_at_call 42; refine HS.out.mono ?_; rintro e w5 ⟨rfl, hB5⟩)
          | (refine wpList_store_mid rfl _ _ _ rfl w.heap.size 0 (u8s (shaL (joinD D 4))).toArray rfl rfl (by have := ((hA4.gr (Gr.alloc wr _)).gr hB5).there; simpa [u8s_length, hDl, Z32_length] using this) (by have := infoD _ hDl; simpa using this) (all_oneCell_toArray (u8s_oneCell _)) ?_; rw [List.toList_toArray]; have hA6 := ((hA4.gr (Gr.alloc wr _)).gr hB5).setAll (u8s (shaL (joinD D 4))) (by rw [u8s_length, u8s_length, hDl]; rfl); have hG6 : Gr w (w5.setCells w.heap.size 0 (u8s (shaL (joinD D 4)))) := Below.trans (((gb.trans hG).trans (Gr.alloc wr _)).trans hB5) (below_setCells (Nat.le_refl _) _ _ _); generalize w5.setCells w.heap.size 0 (u8s (shaL (joinD D 4))) = w6 at hA6 hG6 ⊢)
        refine bodyPost_ret (results_cell_row rfl _ _ w.heap.size _ _ _ _ rfl hA6 Tryd.underlying43 rfl (by have := infoD _ hDl; simpa using this)) rfl ?_
        rw [HAL.out]
        exact ⟨rfl, hG6⟩
end Go.Proofs.YthpgldfjcancjaaDoor
