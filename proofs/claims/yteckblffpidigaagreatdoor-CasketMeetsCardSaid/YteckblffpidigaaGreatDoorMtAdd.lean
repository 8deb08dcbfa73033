/- The walk of dot.Add. No condition. -/
import Derived.Test.YteckblffpidigaaGreatDoorMtTidy
import Derived.Test.YteckblffpidigaaGreatDoorKitM
import Derived.Test.YteckblffpidigaaGreatDoorKitT
namespace Go.Proofs.YteckblffpidigaaGreatDoor
open Go.RowKit
/-- What may turn between the operations of a drawn region with one append to a row that it made. -/
structure RD (B n : Nat) (xs : List Value) (d : DotM) (w w' : World) : Prop where
  below : Below B w w'
  old : ∀ A c, w.ownsRow B 39 2 (.slice A n c) n xs → w'.ownsRow B 39 2 (.slice A n c) n xs
  new : ∀ A c, w.ownsRow B 39 2 (.slice A (n + 1) c) (n + 1) (xs ++ encD d) → w'.ownsRow B 39 2 (.slice A (n + 1) c) (n + 1) (xs ++ encD d)
  arr : ∀ g, Arr w g 39 (encD d) → Arr w' g 39 (encD d)
theorem RD.of_gr {B n : Nat} {xs : List Value} {d : DotM} {w w' : World} (hB : B ≤ w.heap.size) (h : Gr w w') : RD B n xs d w w' := ⟨h.mono hB, fun _ _ k => Gr.own h k, fun _ _ k => Gr.own h k, fun _ k => k.gr h⟩
theorem RD.refl (B n : Nat) (xs : List Value) (d : DotM) (w : World) : RD B n xs d w w := ⟨Below.refl _ _, fun _ _ k => k, fun _ _ k => k, fun _ k => k⟩
theorem RD.trans {B n : Nat} {xs : List Value} {d : DotM} {a b c : World} (h : RD B n xs d a b) (k : RD B n xs d b c) : RD B n xs d a c := ⟨h.below.trans k.below, fun A q r => k.old A q (h.old A q r), fun A q r => k.new A q (h.new A q r), fun g r => k.arr g (h.arr g r)⟩
theorem own_sameBlock {w : World} {B : Nat} {e : TypeId} {size g n c : Nat} {xs : List Value} (h : w.ownsRow B e size (.slice (some ⟨g, 0, none⟩) n c) n xs) : ∃ cur, w.heap[g]? = some (.cells cur e (0, 0)) ∧ cur.size = c * size ∧ cur.toList.take (n * size) = xs ∧ n ≤ c := by
  rcases h.2 with ⟨e1, _⟩ | ⟨g1, cap, cur, e1, _, h2, h3, _, h5, h6⟩
  · cases e1
  · injection e1 with e1 e2 e3
    injection e1 with e1
    injection e1 with e1
    subst e1 e3
    exact ⟨cur, h2, h5, h6, h3⟩
/-- The append. -/
theorem RD.append {B n c : Nat} {xs : List Value} {d : DotM} {A : Option Addr} {w w' : World} (hB : B ≤ w.heap.size) (h0 : n = 0 → c = 0) (ho : w.ownsRow B 39 2 (.slice A n c) n xs) (hT : Tn (blkT A 39) B w w') (hold : w'.ownsRow B 39 2 (.slice A n c) n xs)
    (hnew : ∀ A2 q, w.ownsRow B 39 2 (.slice A2 (n + 1) q) (n + 1) (xs ++ encD d) → w'.ownsRow B 39 2 (.slice A2 (n + 1) q) (n + 1) (xs ++ encD d)) : RD B n xs d w w' := by
  refine ⟨hT.below hB, fun A2 c2 h2 => ?_, hnew, fun g hg => ?_⟩
  · by_cases hA : A2 = A
    · subst hA
      cases A2 with
      | none =>
        rcases h2.2 with ⟨e1, e2⟩ | ⟨g1, cap, cur, e1, _⟩
        · rcases ho.2 with ⟨e3, _⟩ | ⟨g2, cap2, cur2, e3, _⟩
          · injection e1 with _ _ e1
            injection e3 with _ _ e3
            rw [e1]
            rw [e3] at hold
            exact hold
          · cases e3
        · cases e1
      | some ad =>
        rcases h2.2 with ⟨e1, e2⟩ | ⟨g1, cap, cur, e1, _⟩
        · cases e1
        · injection e1 with e1 _ _
          injection e1 with e1
          subst e1
          have := own_eqA h2 ho (by omega)
          rw [this]
          exact hold
    · refine ⟨h2.1, ?_⟩
      rcases h2.2 with h3 | ⟨g1, cap, cur, e1, q1, q2, q3⟩
      · exact .inl h3
      · injection e1 with e1 e2 e3
        subst e1
        refine .inr ⟨g1, cap, cur, by rw [e3], q1, ?_, q3⟩
        rw [hT.block g1 (Array.getElem?_eq_some_iff.1 q2).1 (.inr ?_)]
        · exact q2
        · rw [q2]
          refine (blkT_far (A := A) (e := 39) (k := g1) (fun ad had => ?_) (.cells cur 39 (0, 0)) : _)
          intro hb
          rcases ho.2 with ⟨e4, _⟩ | ⟨g2, _, _, e4, _⟩
          · injection e4 with e4
            rw [had] at e4
            cases e4
          · injection e4 with e4
            rw [had] at e4
            injection e4 with e4
            rw [e4] at hb
            simp only at hb
            subst hb
            exact hA (by rw [had, e4])
  · by_cases hb : ∃ ad, A = some ad ∧ ad.block = g
    · obtain ⟨ad, rfl, hb⟩ := hb
      have hsh : ad = ⟨g, 0, none⟩ := by
        rcases ho.2 with ⟨e4, _⟩ | ⟨g2, _, _, e4, _⟩
        · cases e4
        · injection e4 with e4
          injection e4 with e4
          subst e4
          simp only at hb
          rw [hb]
      subst hsh
      obtain ⟨cur, k1, k2, k3, k4⟩ := own_sameBlock ho
      obtain ⟨cur', k1', k2', k3', _⟩ := own_sameBlock hold
      have hg' : w.heap[g]? = some (.cells (encD d).toArray 39 (0, 0)) := hg
      rw [k1] at hg'
      injection hg' with hg'
      injection hg' with hg'
      have hc1 : c = 1 := by
        rw [hg'] at k2
        simp only [List.size_toArray, encD_length] at k2
        omega
      have hn1 : n = 1 := by
        rcases Nat.eq_zero_or_pos n with hz | hz
        · have := h0 hz
          omega
        · omega
      subst hc1 hn1
      rw [List.take_of_length_le (by simp [k2])] at k3
      rw [List.take_of_length_le (by simp [k2'])] at k3'
      have : cur' = cur := by
        apply Array.ext'
        rw [k3', k3]
      show w'.heap[g]? = _
      rw [k1', this, hg']
    · exact hg.tn hT (fun C f => blkT_far (fun ad had hq => hb ⟨ad, had, hq⟩) _)
theorem own_kx {w w' : World} {g B Bo : Nat} {e : TypeId} {size : Nat} {v : Value} {n : Nat} {xs : List Value} (h : w.ownsRow Bo e size v n xs) (hK : Kx g B w w') (hB : w.heap.size ≤ B) (hg : g < Bo) : w'.ownsRow Bo e size v n xs := by
  refine ⟨h.1, ?_⟩
  rcases h.2 with h2 | ⟨b, cap, cur, e1, h1, h2, h3⟩
  · exact .inl h2
  · refine .inr ⟨b, cap, cur, e1, h1, ?_, h3⟩
    rw [hK.block b (Nat.lt_of_lt_of_le (Array.getElem?_eq_some_iff.1 h2).1 hB) (by omega)]
    exact h2
/-- What may turn behind the call: one block, to one content. -/
structure G4 (g B : Nat) (C : List Value) (w w' : World) : Prop where
  kx : Kx g B w w'
  there : ∀ cs, Arr w g 42 cs → cs.length = 17 → ∃ cs', cs'.length = 17 ∧ Arr w' g 42 cs'
  dest : Arr w g 42 C → Arr w' g 42 C
theorem G4.refl (g B : Nat) (C : List Value) (w : World) : G4 g B C w w := ⟨Kx.refl _ _ _, fun cs h hl => ⟨cs, hl, h⟩, fun h => h⟩
theorem G4.trans {g B : Nat} {C : List Value} {a b c : World} (h : G4 g B C a b) (k : G4 g B C b c) : G4 g B C a c :=
  ⟨h.kx.trans k.kx, fun cs h1 hl => by
    obtain ⟨cs', h2, h3⟩ := h.there cs h1 hl
    exact k.there cs' h3 h2, fun h1 => k.dest (h.dest h1)⟩
theorem G4.of_gr {g B : Nat} {C : List Value} {w w' : World} (hB : B ≤ w.heap.size) (h : Gr w w') : G4 g B C w w' := ⟨Kx.of_gr hB h, fun cs h1 hl => ⟨cs, hl, h1.gr h⟩, fun h1 => h1.gr h⟩
theorem G4.store {g B : Nat} {C : List Value} {w : World} (h : Arr (w.setCells g 0 C) g 42 C) (hl : C.length = 17) : G4 g B C w (w.setCells g 0 C) := by
  have hb := below_setCells (B := g) (g := g) (Nat.le_refl _) C w 0
  refine ⟨⟨hb.os, hb.tape, hb.output, hb.size, fun k _ hne => ?_⟩, fun _ _ _ => ⟨C, hl, h⟩, fun _ => h⟩
  by_cases hk : k < w.heap.size
  · exact World.heap_setCells_other w g 0 C hk hne
  · have hs : (w.setCells g 0 C).heap.size = w.heap.size := by simp
    rw [Array.getElem?_eq_none (by omega), Array.getElem?_eq_none (by omega)]
theorem own_base2 {w : World} {B B' : Nat} {e : TypeId} {size : Nat} {v : Value} {n : Nat} {xs : List Value} (h : w.ownsRow B' e size v n xs) (hB : B ≤ B') : w.ownsRow B e size v n xs := by
  refine ⟨h.1, ?_⟩
  rcases h.2 with h2 | ⟨g, cap, cur, e1, h1, h2⟩
  · exact .inl h2
  · exact .inr ⟨g, cap, cur, e1, Nat.le_trans hB h1, h2⟩
def CloneV (B n : Nat) (xs : List Value) (v : Value) (w : World) : Prop := ∃ A c, v = .slice A n c ∧ w.ownsRow B 39 2 (.slice A n c) n xs ∧ (n = 0 → c = 0)
def BuiltV (d : DotM) (v : Value) (w : World) : Prop := ∃ g, v = .slice (some ⟨g, 0, none⟩) 1 1 ∧ Arr w g 39 (encD d)
def MoreV (B n : Nat) (xs : List Value) (v : Value) (w : World) : Prop := ∃ A c, v = .slice A n c ∧ w.ownsRow B 39 2 (.slice A n c) n xs
theorem CloneV.rd {B n : Nat} {xs : List Value} {d : DotM} {v : Value} {w w' : World} (h : CloneV B n xs v w) (hG : RD B n xs d w w') : CloneV B n xs v w' := by
  obtain ⟨A, c, e, h1, h2⟩ := h
  exact ⟨A, c, e, hG.old A c h1, h2⟩
theorem BuiltV.rd {B n : Nat} {xs : List Value} {d : DotM} {v : Value} {w w' : World} (h : BuiltV d v w) (hG : RD B n xs d w w') : BuiltV d v w' := by
  obtain ⟨g, e, h1⟩ := h
  exact ⟨g, e, hG.arr g h1⟩
theorem MoreV.rd {B n : Nat} {xs : List Value} {d : DotM} {v : Value} {w w' : World} (h : MoreV B (n + 1) (xs ++ encD d) v w) (hG : RD B n xs d w w') : MoreV B (n + 1) (xs ++ encD d) v w' := by
  obtain ⟨A, c, e, h1⟩ := h
  exact ⟨A, c, e, hG.new A c h1⟩
section
variable {P : Program} {ops : Array Oper} {Q : Exit → Act → World → Prop} {L : List (Value → World → Prop)} {i : Nat} {o : Oper} {a : Act} {w : World} {G : World → World → Prop}
theorem gstep (hG : ∀ w', Gr w w' → G w w') (h : Step P ops Q L i o a w) : wpOp P ops Q i (fun a' w' => ∃ v, a' = a.put o.dst v ∧ (L.getD i AnyV) v w' ∧ G w w') a w := by
  unfold Step at h
  exact wpOp_mono (fun a' w' ⟨v, h1, h2, h3⟩ => ⟨v, h1, h2, hG _ h3⟩) h
theorem wpOp_of {P : Program} {ops : Array Oper} {Q : Exit → Act → World → Prop} {i : Nat} {o : Oper} {a : Act} {w : World} (Post : Act → World → Prop) (hi : ops[i]? = some o) (hg : o.guard = none) (h : o.wp P a w Post Q) : wpOp P ops Q i Post a w := by
  have hw : Region.wanted o (yielded ops a.tmps) = true := by simp [Region.wanted, hg]
  unfold wpOp
  simp only [hi, hw, if_true]
  exact .inl h
theorem g_valW (hi : ops[i]? = some o) (hg : o.guard = none) (v : Value) (w' : World) (hrun : (execOp a.eval o).run P w = .ok (.value v) w') (hφ : (L.getD i AnyV) v w') (hG : G w w') : wpOp P ops Q i (fun a' w' => ∃ v, a' = a.put o.dst v ∧ (L.getD i AnyV) v w' ∧ G w w') a w := by
  have hw : Region.wanted o (yielded ops a.tmps) = true := by simp [Region.wanted, hg]
  unfold wpOp
  simp only [hi, hw, if_true, Oper.wp, hrun, Oper.upon]
  exact .inl ⟨v, rfl, hφ, hG⟩
end
set_option maxRecDepth 100000 in
set_option maxHeartbeats 8000000 in
theorem add_any {c : CtxM} {d : DotM} {M : Option Addr} {m cM : Nat} {w : World} (hc : OkC c) (hd : rightD d) (hM : DotsR w M m c.more) (hm : m + 1 ≤ 32) (hM0 : M = none → cM = 0) :
    Calls Tryz.prog 36 #[.agg (ctxC c M m cM).toArray, .agg (encD d).toArray] w fun e w' => CtxQ (Tidy c.upto (c.more ++ [d])) w e w' := by
  obtain ⟨iD, zD, hiD, hz0, hz1, hz2, hz3⟩ := infoDt_parts
  have HI := Lib.hid (infoCtx hc.len M m cM)
  have HI16 := Lib.hid (info16 hc.len)
  have H1 : Hid (∀ w1, Gr w w1 → Calls Tryz.prog 37 #[.agg (ctxC c M m cM).toArray] w1 fun e w' => e = .returned (.int .i64 0) ∧ Gr w1 w') := Lib.hid (fun w1 h => check_any hc (hM.gr h))
  have H2 := Lib.hid (right_any d hd)
  have HM := Lib.hid hM
  have HM0 := Lib.hid hM0
  have HT : Hid (∀ (A : Option Addr) (q : Nat) (w1 : World), DotsR w1 A (m + 1) (c.more ++ [d]) → Calls Tryz.prog 65 #[.agg (numsV c.upto).toArray, .slice A (m + 1) q] w1 fun e w' => CtxQ (Tidy c.upto (c.more ++ [d])) w1 e w') := Lib.hid (fun A q w1 h => tidy_any hc.len hc.small h (fun x hx => by
    rcases List.mem_append.1 hx with hx | hx
    · exact (hc.right x hx).1
    · have : x = d := by simpa using hx
      rw [this]; exact hd) hm)
  have hmo := ctxC_more hc.len M m cM
  have hcl := ctxC_length hc.len M m cM
  have hup : ∀ j u, (numsV c.upto)[j]? = some u → (ctxC c M m cM)[j]? = some u := fun j u h => by
    unfold ctxC
    rw [List.getElem?_append_left (List.getElem?_eq_some_iff.1 h).1]
    exact h
  obtain ⟨C, hC⟩ : ∃ C, C = ctxC c M m cM := ⟨_, rfl⟩
  rw [← hC] at HI H1 hmo hcl hup ⊢
  clear hC hc hM hd hM0
  have hA0 : Arr (w.alloc (.cells C.toArray 42)) w.heap.size 42 C := Arr.newAt rfl rfl
  have hsz : (w.alloc (.cells C.toArray 42)).heap.size = w.heap.size + 1 := Array.size_push _
  have hA3 : Arr ((w.alloc (.cells C.toArray 42)).alloc (.cells (encD d).toArray 39)) (w.heap.size + 1) 39 (encD d) := by rw [← hsz]; exact Arr.newAt rfl rfl
  have hsz2 : ((w.alloc (.cells C.toArray 42)).alloc (.cells (encD d).toArray 39)).heap.size = w.heap.size + 1 + 1 := by rw [← hsz]; exact Array.size_push _
  have hA2 := hA0.gr (Gr.alloc (w.alloc (.cells C.toArray 42)) (.cells (encD d).toArray 39))
  have hG2 : Gr w ((w.alloc (.cells C.toArray 42)).alloc (.cells (encD d).toArray 39)) := (Gr.alloc _ _).trans (Gr.alloc _ _)
  have hA4 : Arr (((w.alloc (.cells C.toArray 42)).alloc (.cells (encD d).toArray 39)).alloc (.cells (ctxC ⟨List.replicate 16 0, []⟩ none 0 0).toArray 42)) (w.heap.size + 1 + 1) 42 (ctxC ⟨List.replicate 16 0, []⟩ none 0 0) := by rw [← hsz2]; exact Arr.newAt rfl rfl
  have hGa : Gr ((w.alloc (.cells C.toArray 42)).alloc (.cells (encD d).toArray 39)) (((w.alloc (.cells C.toArray 42)).alloc (.cells (encD d).toArray 39)).alloc (.cells (ctxC ⟨List.replicate 16 0, []⟩ none 0 0).toArray 42)) := Gr.alloc _ _
  replace hA2 := hA2.gr hGa
  replace hA3 := hA3.gr hGa
  have hG := hG2.trans hGa
  clear hA0 hsz hsz2 hG2 hGa
  go_enter Tryz.func36, Tryz.ntmps36
  go_upto_region 1 with fail
  change Code.wp _ _ _ _ (((w.alloc (.cells C.toArray 42)).alloc (.cells (encD d).toArray 39)).alloc (.cells (ctxC ⟨List.replicate 16 0, []⟩ none 0 0).toArray 42))
  generalize ((w.alloc (.cells C.toArray 42)).alloc (.cells (encD d).toArray 39)).alloc (.cells (ctxC ⟨List.replicate 16 0, []⟩ none 0 0).toArray 42) = w5 at hA2 hA3 hA4 hG ⊢
  obtain ⟨g4, hg4⟩ : ∃ g, g = w.heap.size + 1 + 1 := ⟨_, rfl⟩
  have hg4w : w.heap.size ≤ g4 := by omega
  rw [← hg4] at hA4 ⊢
  generalize w.heap.size + 1 = g3 at hA3 ⊢
  obtain ⟨g2, hg2⟩ : ∃ g, g = w.heap.size := ⟨_, rfl⟩
  rw [← hg2] at hA2 ⊢
  clear hg4 hg2
  go_upto_region 3 with first
    | (refine wpList_loadT rfl 42 (.tmp 2) rfl g2 0 rfl C (Arr.range hA2) Tryz.underlying42 rfl HI.out ?_)
    | (refine wpList_loadT rfl 39 (.tmp 3) rfl g3 0 rfl (encD d) (Arr.range hA3) Tryz.underlying39 rfl (infoDot d) ?_)
    | (go_at_call 37; refine (H1.out w5 hG).mono ?_; rintro e w6 ⟨rfl, hG6⟩; replace hA2 := hA2.gr hG6; replace hA3 := hA3.gr hG6)
    | (go_at_call 38; refine (H2.out w6).mono ?_; rintro e w7 ⟨rfl, hG7⟩; replace hA2 := hA2.gr hG7; replace hA3 := hA3.gr hG7)
  replace hA4 := (hA4.gr hG6).gr hG7
  have hGw7 := hG.trans (hG6.trans hG7)
  have hr16 : w7.rangeAt g2 0 (numsV c.upto) := fun j u h => by
    rw [Nat.zero_add]
    exact hA2.cell (hup j u h)
  have hc16 := hA2.cell hmo
  have hg4l : g4 < w7.heap.size := hA4.lt
  have HCl := Lib.hid (fun w1 (h1 : Gr w7 w1) => cloneD_any (c := cM) (HM.out.gr (hGw7.trans h1)) (by omega : m ≤ 100000) HM0.out)
  have hxl : (c.more.flatMap encD).length = m * 2 := by rw [dots_len, HM.out.1]
  clear hG hG6 hG7 hup hmo hA2
  have hKg : ∀ w1, RD w7.drew.heap.size m (c.more.flatMap encD) d w7.drew w1 → Gr w7 w1 := fun w1 h => (Gr.drew w7).trans h.below
  have hKr : ∀ w1, RD w7.drew.heap.size m (c.more.flatMap encD) d w7.drew w1 → w1.rangeAt g2 0 (numsV c.upto) := fun w1 h => (hKg w1 h).range hr16
  have hKc : ∀ w1, RD w7.drew.heap.size m (c.more.flatMap encD) d w7.drew w1 → w1.cell? ⟨g2, 16, none⟩ = some (.slice M m cM) := fun w1 h => Gr.cell (hKg w1 h) hc16
  have hKd : ∀ w1, RD w7.drew.heap.size m (c.more.flatMap encD) d w7.drew w1 → w1.rangeAt g3 0 (encD d) := fun w1 h => (hKg w1 h).range (Arr.range hA3)
  refine wp_region_cut2G (RD w7.drew.heap.size m (c.more.flatMap encD) d) (RD.refl _ _ _ _) (fun _ _ _ => RD.trans) (by kernel_rfl) [IsV (.pointer (some ⟨g2, 0, none⟩)), IsV (.agg (numsV c.upto).toArray), IsV (.pointer (some ⟨g2, 16, none⟩)), IsV (.slice M m cM), CloneV w7.drew.heap.size m (c.more.flatMap encD), IsV (.agg (encD d).toArray), BuiltV d, MoreV w7.drew.heap.size (m + 1) ((c.more.flatMap encD) ++ encD d)] 8 (by decide) (by kernel_rfl) (by kernel_rfl) (by kernel_rfl) ?_ ?_ ?_
  · intro φ hφ v w1 w2 h hg
    simp only [List.mem_cons, List.not_mem_nil, or_false] at hφ
    rcases hφ with rfl | rfl | rfl | rfl | rfl | rfl | rfl | rfl
    all_goals first | exact h | exact CloneV.rd h hg | exact BuiltV.rd h hg | exact MoreV.rd h hg
  · refine ⟨?_, ?_, ?_, ?_, ?_, ?_, ?_, ?_, trivial⟩
    · intro a1 w1 hG hF
      refine gstep (fun w' h => RD.of_gr hG.below.size h) ?_
      have e2 : a1.eval (.tmp 2) = .pointer (some ⟨g2, 0, none⟩) := hF.ol 2 (by kernel_rfl)
      exact s_is rfl (wants0 rfl) _ rfl (run_fieldR (o := 0) (k := 15) Tryz.underlying42 rfl rfl (by kernel_rfl) e2)
    · intro a1 w1 hG hF
      refine gstep (fun w' h => RD.of_gr hG.below.size h) ?_
      obtain ⟨_, e15, rfl⟩ := hF.dp 0 15 (by kernel_rfl)
      exact s_wp rfl (wants0 rfl) (wp_load_mid _ _ rfl g2 0 e15 (numsV c.upto) _ (hKr w1 hG) Tryz.underlying40 rfl HI16.out ⟨_, rfl, rfl, Gr.refl _⟩)
    · intro a1 w1 hG hF
      refine gstep (fun w' h => RD.of_gr hG.below.size h) ?_
      have e2 : a1.eval (.tmp 2) = .pointer (some ⟨g2, 0, none⟩) := hF.ol 2 (by kernel_rfl)
      exact s_is rfl (wants0 rfl) _ rfl (run_fieldR (o := 16) (k := 0) Tryz.underlying42 rfl rfl (by kernel_rfl) e2)
    · intro a1 w1 hG hF
      refine gstep (fun w' h => RD.of_gr hG.below.size h) ?_
      obtain ⟨_, e17, rfl⟩ := hF.dp 2 17 (by kernel_rfl)
      exact s_is rfl (wants0 rfl) _ rfl (run_load1B (.inr (.inr (.inr (.inl ⟨_, Tryz.underlying26⟩)))) e17 (hKc w1 hG))
    · intro a1 w1 hG hF
      refine gstep (fun w' h => RD.of_gr hG.below.size h) ?_
      obtain ⟨_, e18, rfl⟩ := hF.dp 3 18 (by kernel_rfl)
      exact s_call rfl (wants0 rfl) _ rfl _ _ (by simp only [execOp, resolve, invoke, List.map_toArray, List.map_cons, List.map_nil, e18]; go_simp) ((HCl.out w1 (hKg w1 hG)).mono fun e w2 ⟨A, q, he, ho, hz, hb⟩ => ⟨_, he, ⟨A, q, rfl, own_base2 ho hG.below.size, hz⟩, hb⟩)
    · intro a1 w1 hG hF
      refine gstep (fun w' h => RD.of_gr hG.below.size h) ?_
      have e3 : a1.eval (.tmp 3) = .pointer (some ⟨g3, 0, none⟩) := hF.ol 3 (by kernel_rfl)
      exact s_wp rfl (wants0 rfl) (wp_load_mid _ _ rfl g3 0 e3 (encD d) _ (hKd w1 hG) Tryz.underlying39 rfl (infoDot d) ⟨_, rfl, rfl, Gr.refl _⟩)
    · intro a1 w1 hG hF
      refine gstep (fun w' h => RD.of_gr hG.below.size h) ?_
      obtain ⟨_, e20, rfl⟩ := hF.dp 5 20 (by kernel_rfl)
      exact s_val rfl (wants0 rfl) _ rfl (.slice (some ⟨w1.heap.size, 0, none⟩) 1 1) (w1.alloc (.cells (encD d).toArray 39)) (run_buildD e20) ⟨_, rfl, Arr.newAt rfl rfl⟩ (Gr.alloc _ _)
    · intro a1 w1 hG hF
      obtain ⟨x19, e19, A, q, rfl, ho, hz⟩ := hF.dp 4 19 (by kernel_rfl)
      obtain ⟨x21, e21, g, rfl, hA⟩ := hF.dp 6 21 (by kernel_rfl)
      obtain ⟨A', c', w', hr, h2, hT, hold, hnew⟩ := run_append_keep (P := Tryz.prog) (w := w1) w7.drew.heap.size 26 26 39 iD zD 2 16 Tryz.underlying26 hiD hz0 hz1 hz2 hz3 (by omega) A m q _ ho ⟨g, 0, none⟩ 1 1 (encD d) rfl (fun j u h => by rw [add_row, Nat.zero_add]; exact hA.cell h) (encD_one d) (by unfold maxLen; omega) (by omega) hG.below.size
      exact g_valW rfl rfl _ w' (by simp only [execOp, resolve, invoke, builtin, List.map_toArray, List.map_cons, List.map_nil, e19, e21, Sem.run_bind, Sem.run_pure, hr, Result.andThen_ok]) ⟨A', c', rfl, h2⟩ (RD.append hG.below.size hz ho hT hold hnew)
  · intro vs w1 hG hf
    have y1 : vs 1 = .agg (numsV c.upto).toArray := hf.2.1
    have y7 : (MoreV w7.drew.heap.size (m + 1) (c.more.flatMap encD ++ encD d)) (vs 7) w1 := hf.2.2.2.2.2.2.2.1
    clear hf
    obtain ⟨A7, c7, hy7, ho7⟩ := y7
    simp only [List.take_succ_cons, List.take_zero, putAll, Nat.zero_add, Nat.reduceAdd, y1, hy7]
    have hdots : DotsR w1 A7 (m + 1) (c.more ++ [d]) := dots_own (by rw [flatD_snoc]; exact ho7) (by rw [List.length_append, HM.out.1]; rfl)
    have hGw1 := hGw7.trans (hKg w1 hG)
    have hA41 : Arr w1 g4 42 (ctxC ⟨List.replicate 16 0, []⟩ none 0 0) := hA4.gr (hKg w1 hG)
    have hs71 : w7.heap.size ≤ w1.heap.size := (hKg w1 hG).size
    refine wpOp_callR rfl rfl 65 #[.agg (numsV c.upto).toArray, .slice A7 (m + 1) c7] (by kernel_rfl) ((HT.out A7 c7 w1 hdots).mono fun e w9 ⟨c9, M9, m9, q9, he, hP, hO, hG9⟩ => ⟨_, he, ?_⟩)
    have hA49 := hA41.gr hG9
    have hl9 := ctxC_length hP.len M9 m9 q9
    have HI9 := Lib.hid (infoCtx hP.len M9 m9 q9)
    have HP9 := Lib.hid hP
    clear he
    obtain ⟨C9, hC9⟩ : ∃ C, C = ctxC c9 M9 m9 q9 := ⟨_, rfl⟩
    have HC9 := Lib.hid hC9
    have HO1 : Hid (∀ v ∈ C9, v.oneCell' = true) := Lib.hid (by rw [hC9]; exact ctxC_one c9 M9 m9 q9)
    rw [← hC9] at hl9 HI9 ⊢
    have hI9s : (Tryz.prog.info? 42).map (·.size) = some C9.toArray.size := by have := HI9.out; simpa using this
    have h17 : (ctxC ⟨List.replicate 16 0, []⟩ none 0 0).length = 17 := rfl
    clear hC9 hP
    refine tail_putG (G4 g4 w9.heap.size C9) (G4.refl _ _ _) (fun _ _ _ => G4.trans) 8 [IsV (.tuple #[.agg C9.toArray, .int .i64 0]), IsV (.agg C9.toArray), IsV (.int .i64 0), (fun _ w => Arr w g4 42 C9), IsV (.int .i64 0)] _ rfl (.tuple #[.agg C9.toArray, .int .i64 0]) (by kernel_rfl) ?_ rfl ?_ ?_
    · intro φ hφ v w1 w2 h hg
      simp only [List.mem_cons, List.not_mem_nil, or_false] at hφ
      rcases hφ with rfl | rfl | rfl | rfl | rfl
      all_goals first | exact h | exact hg.dest h
    · refine ⟨?_, ?_, ?_, ?_, trivial⟩
      · intro a1 w2 hG hF
        refine gstep (fun w' h => G4.of_gr hG.kx.size h) ?_
        obtain ⟨_, e23, rfl⟩ := hF.dp 8 23 (by kernel_rfl)
        exact s_is rfl (wants0 rfl) _ rfl (by simp only [execOp, e23]; go_simp)
      · intro a1 w2 hG hF
        refine gstep (fun w' h => G4.of_gr hG.kx.size h) ?_
        obtain ⟨_, e23, rfl⟩ := hF.dp 8 23 (by kernel_rfl)
        exact s_is rfl (wants0 rfl) _ rfl (by simp only [execOp, e23]; go_simp)
      · intro a1 w2 hG hF
        obtain ⟨_, e24, rfl⟩ := hF.dp 9 24 (by kernel_rfl)
        have e4 : a1.eval (.tmp 4) = .pointer (some ⟨g4, 0, none⟩) := (hF.ol 4 (by kernel_rfl)).trans (by kernel_rfl)
        obtain ⟨cs, hcl17, hAw⟩ := hG.there _ hA49 h17
        refine wpOp_of _ rfl rfl (wp_store_mid _ _ _ rfl g4 0 C9.toArray e4 e24 (by have := hAw.there; rw [hcl17] at this; rw [List.size_toArray, hl9]; exact this) hI9s (all_oneCell_toArray HO1.out) ?_)
        have hset := hAw.setAll C9 (by rw [hl9, hcl17])
        rw [List.toList_toArray]
        exact ⟨undef, rfl, hset, G4.store hset hl9⟩
      · intro a1 w2 hG hF
        refine gstep (fun w' h => G4.of_gr hG.kx.size h) ?_
        obtain ⟨_, e25, rfl⟩ := hF.dp 10 25 (by kernel_rfl)
        exact s_old rfl (wants0 rfl) (.tmp 25) (.inl rfl) (.int .i64 0) e25 rfl
    intro vs2 wf hGf hf
    have hAf : Arr wf g4 42 C9 := hf.2.2.1
    have y12 : vs2 12 = .int .i64 0 := hf.2.2.2.1
    clear hf
    simp only [List.drop_succ_cons, List.drop_zero, putAll, Nat.reduceAdd, y12]
    go_simp
    go_wp2_with fail
    refine bodyPost_ret (results_cell_tmp rfl _ _ g4 _ _ _ _ rfl hAf Tryz.underlying42 rfl hI9s) rfl ?_
    have hGw9 := hGw1.trans hG9
    refine ⟨c9, M9, m9, q9, by rw [HC9.out]; rfl, HP9.out, own_base2 (own_kx hO hGf.kx (Nat.le_refl _) (by omega)) hGw1.size, ?_⟩
    exact ⟨hGf.kx.os.trans hGw9.os, hGf.kx.tape.trans hGw9.tape, hGf.kx.output.trans hGw9.output, Nat.le_trans hGw9.size hGf.kx.size, fun k hk => (hGf.kx.block k (Nat.lt_of_lt_of_le hk hGw9.size) (by omega)).trans (hGw9.block k hk)⟩
end Go.Proofs.YteckblffpidigaaGreatDoor
