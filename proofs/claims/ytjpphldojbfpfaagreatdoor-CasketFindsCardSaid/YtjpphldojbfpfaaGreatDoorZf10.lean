/- Texts of one proof, laid as one: part 10. No condition. -/
import Derived.Test.YtjpphldojbfpfaaGreatDoorZf02
import Derived.Test.YtjpphldojbfpfaaGreatDoorZf05
import Derived.Test.YtjpphldojbfpfaaGreatDoorZf08
import Derived.Test.YtjpphldojbfpfaaGreatDoorZf09
namespace Go.Proofs.YtjpphldojbfpfaaGreatDoor
open Go.RowKit
structure RD (B n : Nat) (xs : List Value) (d : DotM) (w w' : World) : Prop where
  below : Below B w w'
  old : ∀ A c, w.ownsRow B 38 2 (.slice A n c) n xs → w'.ownsRow B 38 2 (.slice A n c) n xs
  new : ∀ A c, w.ownsRow B 38 2 (.slice A (n + 1) c) (n + 1) (xs ++ encD d) → w'.ownsRow B 38 2 (.slice A (n + 1) c) (n + 1) (xs ++ encD d)
  arr : ∀ g, Arr w g 38 (encD d) → Arr w' g 38 (encD d)
theorem RD.of_gr {B n : Nat} {xs : List Value} {d : DotM} {w w' : World} (hB : B ≤ w.heap.size) (h : Gr w w') : RD B n xs d w w' := ⟨h.mono hB, fun _ _ k => Gr.own h k, fun _ _ k => Gr.own h k, fun _ k => k.gr h⟩
theorem RD.refl (B n : Nat) (xs : List Value) (d : DotM) (w : World) : RD B n xs d w w := ⟨Below.refl _ _, fun _ _ k => k, fun _ _ k => k, fun _ k => k⟩
theorem RD.trans {B n : Nat} {xs : List Value} {d : DotM} {a b c : World} (h : RD B n xs d a b) (k : RD B n xs d b c) : RD B n xs d a c := ⟨h.below.trans k.below, fun A q r => k.old A q (h.old A q r), fun A q r => k.new A q (h.new A q r), fun g r => k.arr g (h.arr g r)⟩
theorem own_sameBlock {w : World} {B : Nat} {e : TypeId} {size g n c : Nat} {xs : List Value} (h : w.ownsRow B e size (.slice (some ⟨g, 0, none⟩) n c) n xs) : ∃ cur, w.heap[g]? = some (.cells cur e (0, 0)) ∧ cur.size = c * size ∧ cur.toList.take (n * size) = xs ∧ n ≤ c := by
  rcases h.2 with ⟨e1, _⟩ | ⟨g1, cap, cur, e1, _, h2, h3, _, h5, h6⟩
  · cases e1
  · injection e1 with e1 e2 e3
    injection e1 with e1
    injection e1 with e1
    subst e1 e3; exact ⟨cur, h2, h5, h6, h3⟩
theorem RD.append {B n c : Nat} {xs : List Value} {d : DotM} {A : Option Addr} {w w' : World} (hB : B ≤ w.heap.size) (h0 : n = 0 → c = 0) (ho : w.ownsRow B 38 2 (.slice A n c) n xs) (hT : Tn (blkT A 38) B w w') (hold : w'.ownsRow B 38 2 (.slice A n c) n xs)
    (hnew : ∀ A2 q, w.ownsRow B 38 2 (.slice A2 (n + 1) q) (n + 1) (xs ++ encD d) → w'.ownsRow B 38 2 (.slice A2 (n + 1) q) (n + 1) (xs ++ encD d)) : RD B n xs d w w' := by
  refine ⟨hT.below hB, fun A2 c2 h2 => ?_, hnew, fun g hg => ?_⟩
  · by_cases hA : A2 = A
    · subst hA; cases A2 with
      | none =>
        rcases h2.2 with ⟨e1, e2⟩ | ⟨g1, cap, cur, e1, _⟩
        · rcases ho.2 with ⟨e3, _⟩ | ⟨g2, cap2, cur2, e3, _⟩
          · injection e1 with _ _ e1
            injection e3 with _ _ e3
            rw [e1]; rw [e3] at hold; exact hold
          · cases e3
        · cases e1
      | some ad =>
        rcases h2.2 with ⟨e1, e2⟩ | ⟨g1, cap, cur, e1, _⟩
        · cases e1
        · injection e1 with e1 _ _
          injection e1 with e1
          subst e1; have := own_eqA h2 ho (by omega); rw [this]; exact hold
    · refine ⟨h2.1, ?_⟩; rcases h2.2 with h3 | ⟨g1, cap, cur, e1, q1, q2, q3⟩
      · exact .inl h3
      · injection e1 with e1 e2 e3
        subst e1; refine .inr ⟨g1, cap, cur, by rw [e3], q1, ?_, q3⟩; rw [hT.block g1 (Array.getElem?_eq_some_iff.1 q2).1 (.inr ?_)]
        · exact q2
        · rw [q2]; refine (blkT_far (A := A) (e := 38) (k := g1) (fun ad had => ?_) (.cells cur 38 (0, 0)) : _); intro hb; rcases ho.2 with ⟨e4, _⟩ | ⟨g2, _, _, e4, _⟩
          · injection e4 with e4
            rw [had] at e4; cases e4
          · injection e4 with e4
            rw [had] at e4; injection e4 with e4
            rw [e4] at hb; simp only at hb; subst hb; exact hA (by rw [had, e4])
  · by_cases hb : ∃ ad, A = some ad ∧ ad.block = g
    · obtain ⟨ad, rfl, hb⟩ := hb
      have hsh : ad = ⟨g, 0, none⟩ := by
        rcases ho.2 with ⟨e4, _⟩ | ⟨g2, _, _, e4, _⟩
        · cases e4
        · injection e4 with e4
          injection e4 with e4
          subst e4; simp only at hb; rw [hb]
      subst hsh; obtain ⟨cur, k1, k2, k3, k4⟩ := own_sameBlock ho; obtain ⟨cur', k1', k2', k3', _⟩ := own_sameBlock hold; have hg' : w.heap[g]? = some (.cells (encD d).toArray 38 (0, 0)) := hg; rw [k1] at hg'; injection hg' with hg'
      injection hg' with hg'
      have hc1 : c = 1 := by
        rw [hg'] at k2; simp only [List.size_toArray, encD_length] at k2; omega
      have hn1 : n = 1 := by
        rcases Nat.eq_zero_or_pos n with hz | hz
        · have := h0 hz; omega
        · omega
      subst hc1 hn1; rw [List.take_of_length_le (by simp [k2])] at k3; rw [List.take_of_length_le (by simp [k2'])] at k3'
      have : cur' = cur := by
        apply Array.ext'
        rw [k3', k3]
      show w'.heap[g]? = _; rw [k1', this, hg']
    · exact hg.tn hT (fun C f => blkT_far (fun ad had hq => hb ⟨ad, had, hq⟩) _)
theorem own_kx {w w' : World} {g B Bo : Nat} {e : TypeId} {size : Nat} {v : Value} {n : Nat} {xs : List Value} (h : w.ownsRow Bo e size v n xs) (hK : Kx g B w w') (hB : w.heap.size ≤ B) (hg : g < Bo) : w'.ownsRow Bo e size v n xs := by
  refine ⟨h.1, ?_⟩; rcases h.2 with h2 | ⟨b, cap, cur, e1, h1, h2, h3⟩
  · exact .inl h2
  · refine .inr ⟨b, cap, cur, e1, h1, ?_, h3⟩; rw [hK.block b (Nat.lt_of_lt_of_le (Array.getElem?_eq_some_iff.1 h2).1 hB) (by omega)]; exact h2
structure G4 (g B : Nat) (C : List Value) (w w' : World) : Prop where
  kx : Kx g B w w'
  there : ∀ cs, Arr w g 42 cs → cs.length = 17 → ∃ cs', cs'.length = 17 ∧ Arr w' g 42 cs'
  dest : Arr w g 42 C → Arr w' g 42 C
theorem G4.refl (g B : Nat) (C : List Value) (w : World) : G4 g B C w w := ⟨Kx.refl _ _ _, fun cs h hl => ⟨cs, hl, h⟩, fun h => h⟩
theorem G4.trans {g B : Nat} {C : List Value} {a b c : World} (h : G4 g B C a b) (k : G4 g B C b c) : G4 g B C a c :=
  ⟨h.kx.trans k.kx, fun cs h1 hl => by
    obtain ⟨cs', h2, h3⟩ := h.there cs h1 hl; exact k.there cs' h3 h2, fun h1 => k.dest (h.dest h1)⟩
theorem G4.of_gr {g B : Nat} {C : List Value} {w w' : World} (hB : B ≤ w.heap.size) (h : Gr w w') : G4 g B C w w' := ⟨Kx.of_gr hB h, fun cs h1 hl => ⟨cs, hl, h1.gr h⟩, fun h1 => h1.gr h⟩
theorem G4.store {g B : Nat} {C : List Value} {w : World} (h : Arr (w.setCells g 0 C) g 42 C) (hl : C.length = 17) : G4 g B C w (w.setCells g 0 C) := by
  have hb := below_setCells (B := g) (g := g) (Nat.le_refl _) C w 0; refine ⟨⟨hb.os, hb.tape, hb.output, hb.size, fun k _ hne => ?_⟩, fun _ _ _ => ⟨C, hl, h⟩, fun _ => h⟩
  by_cases hk : k < w.heap.size
  · exact World.heap_setCells_other w g 0 C hk hne
  · have hs : (w.setCells g 0 C).heap.size = w.heap.size := by simp
    rw [Array.getElem?_eq_none (by omega), Array.getElem?_eq_none (by omega)]
theorem own_base2 {w : World} {B B' : Nat} {e : TypeId} {size : Nat} {v : Value} {n : Nat} {xs : List Value} (h : w.ownsRow B' e size v n xs) (hB : B ≤ B') : w.ownsRow B e size v n xs := by
  refine ⟨h.1, ?_⟩; rcases h.2 with h2 | ⟨g, cap, cur, e1, h1, h2⟩
  · exact .inl h2
  · exact .inr ⟨g, cap, cur, e1, Nat.le_trans hB h1, h2⟩
def CloneV (B n : Nat) (xs : List Value) (v : Value) (w : World) : Prop := ∃ A c, v = .slice A n c ∧ w.ownsRow B 38 2 (.slice A n c) n xs ∧ (n = 0 → c = 0)
def BuiltV (d : DotM) (v : Value) (w : World) : Prop := ∃ g, v = .slice (some ⟨g, 0, none⟩) 1 1 ∧ Arr w g 38 (encD d)
def MoreV (B n : Nat) (xs : List Value) (v : Value) (w : World) : Prop := ∃ A c, v = .slice A n c ∧ w.ownsRow B 38 2 (.slice A n c) n xs
theorem CloneV.rd {B n : Nat} {xs : List Value} {d : DotM} {v : Value} {w w' : World} (h : CloneV B n xs v w) (hG : RD B n xs d w w') : CloneV B n xs v w' := by
  obtain ⟨A, c, e, h1, h2⟩ := h; exact ⟨A, c, e, hG.old A c h1, h2⟩
theorem BuiltV.rd {B n : Nat} {xs : List Value} {d : DotM} {v : Value} {w w' : World} (h : BuiltV d v w) (hG : RD B n xs d w w') : BuiltV d v w' := by
  obtain ⟨g, e, h1⟩ := h; exact ⟨g, e, hG.arr g h1⟩
theorem MoreV.rd {B n : Nat} {xs : List Value} {d : DotM} {v : Value} {w w' : World} (h : MoreV B (n + 1) (xs ++ encD d) v w) (hG : RD B n xs d w w') : MoreV B (n + 1) (xs ++ encD d) v w' := by
  obtain ⟨A, c, e, h1⟩ := h; exact ⟨A, c, e, hG.new A c h1⟩
section
variable {P : Program} {ops : Array Oper} {Q : Exit → Act → World → Prop} {L : List (Value → World → Prop)} {i : Nat} {o : Oper} {a : Act} {w : World} {G : World → World → Prop}
theorem gstep (hG : ∀ w', Gr w w' → G w w') (h : Step P ops Q L i o a w) : wpOp P ops Q i (fun a' w' => ∃ v, a' = a.put o.dst v ∧ (L.getD i AnyV) v w' ∧ G w w') a w := by
  unfold Step at h; exact wpOp_mono (fun a' w' ⟨v, h1, h2, h3⟩ => ⟨v, h1, h2, hG _ h3⟩) h
theorem wpOp_of {P : Program} {ops : Array Oper} {Q : Exit → Act → World → Prop} {i : Nat} {o : Oper} {a : Act} {w : World} (Post : Act → World → Prop) (hi : ops[i]? = some o) (hg : o.guard = none) (h : o.wp P a w Post Q) : wpOp P ops Q i Post a w := by
  have hw : Region.wanted o (yielded ops a.tmps) = true := by simp [Region.wanted, hg]
  unfold wpOp; simp only [hi, hw, if_true]; exact .inl h
theorem g_valW (hi : ops[i]? = some o) (hg : o.guard = none) (v : Value) (w' : World) (hrun : (execOp a.eval o).run P w = .ok (.value v) w') (hφ : (L.getD i AnyV) v w') (hG : G w w') : wpOp P ops Q i (fun a' w' => ∃ v, a' = a.put o.dst v ∧ (L.getD i AnyV) v w' ∧ G w w') a w := by
  have hw : Region.wanted o (yielded ops a.tmps) = true := by simp [Region.wanted, hg]
  unfold wpOp; simp only [hi, hw, if_true, Oper.wp, hrun, Oper.upon]; exact .inl ⟨v, rfl, hφ, hG⟩
end
set_option maxRecDepth 100000 in
set_option maxHeartbeats 8000000 in
theorem add_any {c : CtxM} {d : DotM} {M : Option Addr} {m cM : Nat} {w : World} (hc : OkC c) (hd : rightD d) (hM : DotsR w M m c.more) (hm : m + 1 ≤ 32) (hM0 : M = none → cM = 0) :
    Calls Tryz.prog 138 #[.agg (ctxC c M m cM).toArray, .agg (encD d).toArray] w fun e w' => CtxQ (Tidy c.upto (c.more ++ [d])) w e w' := by
  obtain ⟨iD, zD, hiD, hz0, hz1, hz2, hz3⟩ := infoDt_parts; have HI := Lib.hid (infoCtx hc.len M m cM); have HI16 := Lib.hid (info16 hc.len); have H1 : Hid (∀ w1, Gr w w1 → Calls Tryz.prog 121 #[.agg (ctxC c M m cM).toArray] w1 fun e w' => e = .returned (.int .i64 0) ∧ Gr w1 w') := Lib.hid (fun w1 h => check_any hc (hM.gr h)); have H2 := Lib.hid (right_any d hd); have HM := Lib.hid hM; have HM0 := Lib.hid hM0
  have HT : Hid (∀ (A : Option Addr) (q : Nat) (w1 : World), DotsR w1 A (m + 1) (c.more ++ [d]) → Calls Tryz.prog 153 #[.agg (numsV c.upto).toArray, .slice A (m + 1) q] w1 fun e w' => CtxQ (Tidy c.upto (c.more ++ [d])) w1 e w') := Lib.hid (fun A q w1 h => tidy_any hc.len hc.small h (fun x hx => by
    rcases List.mem_append.1 hx with hx | hx
    · exact (hc.right x hx).1
    · have : x = d := by simpa using hx
      rw [this]; exact hd) hm)
  have hmo := ctxC_more hc.len M m cM; have hcl := ctxC_length hc.len M m cM
  have hup : ∀ j u, (numsV c.upto)[j]? = some u → (ctxC c M m cM)[j]? = some u := fun j u h => by
    unfold ctxC; rw [List.getElem?_append_left (List.getElem?_eq_some_iff.1 h).1]; exact h
  obtain ⟨C, hC⟩ : ∃ C, C = ctxC c M m cM := ⟨_, rfl⟩; rw [← hC] at HI H1 hmo hcl hup ⊢; clear hC hc hM hd hM0; have hA0 : Arr (w.alloc (.cells C.toArray 42)) w.heap.size 42 C := Arr.newAt rfl rfl; have hsz : (w.alloc (.cells C.toArray 42)).heap.size = w.heap.size + 1 := Array.size_push _; have hA3 : Arr ((w.alloc (.cells C.toArray 42)).alloc (.cells (encD d).toArray 38)) (w.heap.size + 1) 38 (encD d) := by rw [← hsz]; exact Arr.newAt rfl rfl
  have hsz2 : ((w.alloc (.cells C.toArray 42)).alloc (.cells (encD d).toArray 38)).heap.size = w.heap.size + 1 + 1 := by rw [← hsz]; exact Array.size_push _
  have hA2 := hA0.gr (Gr.alloc (w.alloc (.cells C.toArray 42)) (.cells (encD d).toArray 38)); have hG2 : Gr w ((w.alloc (.cells C.toArray 42)).alloc (.cells (encD d).toArray 38)) := (Gr.alloc _ _).trans (Gr.alloc _ _); have hA4 : Arr (((w.alloc (.cells C.toArray 42)).alloc (.cells (encD d).toArray 38)).alloc (.cells (ctxC ⟨List.replicate 16 0, []⟩ none 0 0).toArray 42)) (w.heap.size + 1 + 1) 42 (ctxC ⟨List.replicate 16 0, []⟩ none 0 0) := by rw [← hsz2]; exact Arr.newAt rfl rfl
  have hGa : Gr ((w.alloc (.cells C.toArray 42)).alloc (.cells (encD d).toArray 38)) (((w.alloc (.cells C.toArray 42)).alloc (.cells (encD d).toArray 38)).alloc (.cells (ctxC ⟨List.replicate 16 0, []⟩ none 0 0).toArray 42)) := Gr.alloc _ _
  replace hA2 := hA2.gr hGa
  replace hA3 := hA3.gr hGa
  have hG := hG2.trans hGa; clear hA0 hsz hsz2 hG2 hGa
  go_enter Tryz.func138, Tryz.ntmps138
  go_upto_region 1 with fail
  change Code.wp _ _ _ _ (((w.alloc (.cells C.toArray 42)).alloc (.cells (encD d).toArray 38)).alloc (.cells (ctxC ⟨List.replicate 16 0, []⟩ none 0 0).toArray 42)); generalize ((w.alloc (.cells C.toArray 42)).alloc (.cells (encD d).toArray 38)).alloc (.cells (ctxC ⟨List.replicate 16 0, []⟩ none 0 0).toArray 42) = w5 at hA2 hA3 hA4 hG ⊢; obtain ⟨g4, hg4⟩ : ∃ g, g = w.heap.size + 1 + 1 := ⟨_, rfl⟩; have hg4w : w.heap.size ≤ g4 := by omega
  rw [← hg4] at hA4 ⊢; generalize w.heap.size + 1 = g3 at hA3 ⊢; obtain ⟨g2, hg2⟩ : ∃ g, g = w.heap.size := ⟨_, rfl⟩; rw [← hg2] at hA2 ⊢; clear hg4 hg2
  go_upto_region 3 with first
    | (refine wpList_loadT rfl 42 (.tmp 2) rfl g2 0 rfl C (Arr.range hA2) Tryz.underlying42 rfl HI.out ?_)
    | (refine wpList_loadT rfl 38 (.tmp 3) rfl g3 0 rfl (encD d) (Arr.range hA3) Tryz.underlying38 rfl (infoDot d) ?_)
    | (go_at_call 121; refine (H1.out w5 hG).mono ?_; rintro e w6 ⟨rfl, hG6⟩; replace hA2 := hA2.gr hG6; replace hA3 := hA3.gr hG6)
    | (go_at_call 143; refine (H2.out w6).mono ?_; rintro e w7 ⟨rfl, hG7⟩; replace hA2 := hA2.gr hG7; replace hA3 := hA3.gr hG7)
  replace hA4 := (hA4.gr hG6).gr hG7
  have hGw7 := hG.trans (hG6.trans hG7)
  have hr16 : w7.rangeAt g2 0 (numsV c.upto) := fun j u h => by
    rw [Nat.zero_add]; exact hA2.cell (hup j u h)
  have hc16 := hA2.cell hmo; have hg4l : g4 < w7.heap.size := hA4.lt; have HCl := Lib.hid (fun w1 (h1 : Gr w7 w1) => cloneD_any (c := cM) (HM.out.gr (hGw7.trans h1)) (by omega : m ≤ 100000) HM0.out); have hxl : (c.more.flatMap encD).length = m * 2 := by rw [dots_len, HM.out.1]
  clear hG hG6 hG7 hup hmo hA2; have hKg : ∀ w1, RD w7.drew.heap.size m (c.more.flatMap encD) d w7.drew w1 → Gr w7 w1 := fun w1 h => (Gr.drew w7).trans h.below; have hKr : ∀ w1, RD w7.drew.heap.size m (c.more.flatMap encD) d w7.drew w1 → w1.rangeAt g2 0 (numsV c.upto) := fun w1 h => (hKg w1 h).range hr16; have hKc : ∀ w1, RD w7.drew.heap.size m (c.more.flatMap encD) d w7.drew w1 → w1.cell? ⟨g2, 16, none⟩ = some (.slice M m cM) := fun w1 h => Gr.cell (hKg w1 h) hc16; have hKd : ∀ w1, RD w7.drew.heap.size m (c.more.flatMap encD) d w7.drew w1 → w1.rangeAt g3 0 (encD d) := fun w1 h => (hKg w1 h).range (Arr.range hA3); refine wp_region_cut2G (RD w7.drew.heap.size m (c.more.flatMap encD) d) (RD.refl _ _ _ _) (fun _ _ _ => RD.trans) (by kernel_rfl) [IsV (.pointer (some ⟨g2, 0, none⟩)), IsV (.agg (numsV c.upto).toArray), IsV (.pointer (some ⟨g2, 16, none⟩)), IsV (.slice M m cM), CloneV w7.drew.heap.size m (c.more.flatMap encD), IsV (.agg (encD d).toArray), BuiltV d, MoreV w7.drew.heap.size (m + 1) ((c.more.flatMap encD) ++ encD d)] 8 (by decide) (by kernel_rfl) (by kernel_rfl) (by kernel_rfl) ?_ ?_ ?_
  · intro φ hφ v w1 w2 h hg; simp only [List.mem_cons, List.not_mem_nil, or_false] at hφ; rcases hφ with rfl | rfl | rfl | rfl | rfl | rfl | rfl | rfl
    all_goals first | exact h | exact CloneV.rd h hg | exact BuiltV.rd h hg | exact MoreV.rd h hg
  · refine ⟨?_, ?_, ?_, ?_, ?_, ?_, ?_, ?_, trivial⟩
    · intro a1 w1 hG hF; refine gstep (fun w' h => RD.of_gr hG.below.size h) ?_; have e2 : a1.eval (.tmp 2) = .pointer (some ⟨g2, 0, none⟩) := hF.ol 2 (by kernel_rfl); exact s_is rfl (wants0 rfl) _ rfl (run_fieldR (o := 0) (k := 15) Tryz.underlying42 rfl rfl (by kernel_rfl) e2)
    · intro a1 w1 hG hF; refine gstep (fun w' h => RD.of_gr hG.below.size h) ?_; obtain ⟨_, e15, rfl⟩ := hF.dp 0 15 (by kernel_rfl); exact s_wp rfl (wants0 rfl) (wp_load_mid _ _ rfl g2 0 e15 (numsV c.upto) _ (hKr w1 hG) Tryz.underlying39 rfl HI16.out ⟨_, rfl, rfl, Gr.refl _⟩)
    · intro a1 w1 hG hF; refine gstep (fun w' h => RD.of_gr hG.below.size h) ?_; have e2 : a1.eval (.tmp 2) = .pointer (some ⟨g2, 0, none⟩) := hF.ol 2 (by kernel_rfl); exact s_is rfl (wants0 rfl) _ rfl (run_fieldR (o := 16) (k := 0) Tryz.underlying42 rfl rfl (by kernel_rfl) e2)
    · intro a1 w1 hG hF; refine gstep (fun w' h => RD.of_gr hG.below.size h) ?_; obtain ⟨_, e17, rfl⟩ := hF.dp 2 17 (by kernel_rfl); exact s_is rfl (wants0 rfl) _ rfl (run_load1B (.inr (.inr (.inr (.inl ⟨_, Tryz.underlying40⟩)))) e17 (hKc w1 hG))
    · intro a1 w1 hG hF; refine gstep (fun w' h => RD.of_gr hG.below.size h) ?_; obtain ⟨_, e18, rfl⟩ := hF.dp 3 18 (by kernel_rfl); exact s_call rfl (wants0 rfl) _ rfl _ _ (by simp only [execOp, resolve, invoke, List.map_toArray, List.map_cons, List.map_nil, e18]; go_simp) ((HCl.out w1 (hKg w1 hG)).mono fun e w2 ⟨A, q, he, ho, hz, hb⟩ => ⟨_, he, ⟨A, q, rfl, own_base2 ho hG.below.size, hz⟩, hb⟩)
    · intro a1 w1 hG hF; refine gstep (fun w' h => RD.of_gr hG.below.size h) ?_; have e3 : a1.eval (.tmp 3) = .pointer (some ⟨g3, 0, none⟩) := hF.ol 3 (by kernel_rfl); exact s_wp rfl (wants0 rfl) (wp_load_mid _ _ rfl g3 0 e3 (encD d) _ (hKd w1 hG) Tryz.underlying38 rfl (infoDot d) ⟨_, rfl, rfl, Gr.refl _⟩)
    · intro a1 w1 hG hF; refine gstep (fun w' h => RD.of_gr hG.below.size h) ?_; obtain ⟨_, e20, rfl⟩ := hF.dp 5 20 (by kernel_rfl); exact s_val rfl (wants0 rfl) _ rfl (.slice (some ⟨w1.heap.size, 0, none⟩) 1 1) (w1.alloc (.cells (encD d).toArray 38)) (run_buildD e20) ⟨_, rfl, Arr.newAt rfl rfl⟩ (Gr.alloc _ _)
    · intro a1 w1 hG hF; obtain ⟨x19, e19, A, q, rfl, ho, hz⟩ := hF.dp 4 19 (by kernel_rfl); obtain ⟨x21, e21, g, rfl, hA⟩ := hF.dp 6 21 (by kernel_rfl); obtain ⟨A', c', w', hr, h2, hT, hold, hnew⟩ := run_append_keep (P := Tryz.prog) (w := w1) w7.drew.heap.size 40 40 38 iD zD 2 16 Tryz.underlying40 hiD hz0 hz1 hz2 hz3 (by omega) A m q _ ho ⟨g, 0, none⟩ 1 1 (encD d) rfl (fun j u h => by rw [add_row, Nat.zero_add]; exact hA.cell h) (encD_one d) (by unfold maxLen; omega) (by omega) hG.below.size; exact g_valW rfl rfl _ w' (by simp only [execOp, resolve, invoke, builtin, List.map_toArray, List.map_cons, List.map_nil, e19, e21, Sem.run_bind, Sem.run_pure, hr, Result.andThen_ok]) ⟨A', c', rfl, h2⟩ (RD.append hG.below.size hz ho hT hold hnew)
  · intro vs w1 hG hf; have y1 : vs 1 = .agg (numsV c.upto).toArray := hf.2.1; have y7 : (MoreV w7.drew.heap.size (m + 1) (c.more.flatMap encD ++ encD d)) (vs 7) w1 := hf.2.2.2.2.2.2.2.1; clear hf; obtain ⟨A7, c7, hy7, ho7⟩ := y7; simp only [List.take_succ_cons, List.take_zero, putAll, Nat.zero_add, Nat.reduceAdd, y1, hy7]; have hdots : DotsR w1 A7 (m + 1) (c.more ++ [d]) := dots_own (by rw [flatD_snoc]; exact ho7) (by rw [List.length_append, HM.out.1]; rfl); have hGw1 := hGw7.trans (hKg w1 hG); have hA41 : Arr w1 g4 42 (ctxC ⟨List.replicate 16 0, []⟩ none 0 0) := hA4.gr (hKg w1 hG); have hs71 : w7.heap.size ≤ w1.heap.size := (hKg w1 hG).size; refine wpOp_callR rfl rfl 153 #[.agg (numsV c.upto).toArray, .slice A7 (m + 1) c7] (by kernel_rfl) ((HT.out A7 c7 w1 hdots).mono fun e w9 ⟨c9, M9, m9, q9, he, hP, hO, hG9⟩ => ⟨_, he, ?_⟩); have hA49 := hA41.gr hG9; have hl9 := ctxC_length hP.len M9 m9 q9; have HI9 := Lib.hid (infoCtx hP.len M9 m9 q9); have HP9 := Lib.hid hP; clear he; obtain ⟨C9, hC9⟩ : ∃ C, C = ctxC c9 M9 m9 q9 := ⟨_, rfl⟩; have HC9 := Lib.hid hC9; have HO1 : Hid (∀ v ∈ C9, v.oneCell' = true) := Lib.hid (by rw [hC9]; exact ctxC_one c9 M9 m9 q9); rw [← hC9] at hl9 HI9 ⊢; have hI9s : (Tryz.prog.info? 42).map (·.size) = some C9.toArray.size := by have := HI9.out; simpa using this
    have h17 : (ctxC ⟨List.replicate 16 0, []⟩ none 0 0).length = 17 := rfl; clear hC9 hP; refine tail_putG (G4 g4 w9.heap.size C9) (G4.refl _ _ _) (fun _ _ _ => G4.trans) 8 [IsV (.tuple #[.agg C9.toArray, .int .i64 0]), IsV (.agg C9.toArray), IsV (.int .i64 0), (fun _ w => Arr w g4 42 C9), IsV (.int .i64 0)] _ rfl (.tuple #[.agg C9.toArray, .int .i64 0]) (by kernel_rfl) ?_ rfl ?_ ?_
    · intro φ hφ v w1 w2 h hg; simp only [List.mem_cons, List.not_mem_nil, or_false] at hφ; rcases hφ with rfl | rfl | rfl | rfl | rfl
      all_goals first | exact h | exact hg.dest h
    · refine ⟨?_, ?_, ?_, ?_, trivial⟩
      · intro a1 w2 hG hF; refine gstep (fun w' h => G4.of_gr hG.kx.size h) ?_; obtain ⟨_, e23, rfl⟩ := hF.dp 8 23 (by kernel_rfl); exact s_is rfl (wants0 rfl) _ rfl (by simp only [execOp, e23]; go_simp)
      · intro a1 w2 hG hF; refine gstep (fun w' h => G4.of_gr hG.kx.size h) ?_; obtain ⟨_, e23, rfl⟩ := hF.dp 8 23 (by kernel_rfl); exact s_is rfl (wants0 rfl) _ rfl (by simp only [execOp, e23]; go_simp)
      · intro a1 w2 hG hF; obtain ⟨_, e24, rfl⟩ := hF.dp 9 24 (by kernel_rfl); have e4 : a1.eval (.tmp 4) = .pointer (some ⟨g4, 0, none⟩) := (hF.ol 4 (by kernel_rfl)).trans (by kernel_rfl); obtain ⟨cs, hcl17, hAw⟩ := hG.there _ hA49 h17; refine wpOp_of _ rfl rfl (wp_store_mid _ _ _ rfl g4 0 C9.toArray e4 e24 (by have := hAw.there; rw [hcl17] at this; rw [List.size_toArray, hl9]; exact this) hI9s (all_oneCell_toArray HO1.out) ?_); have hset := hAw.setAll C9 (by rw [hl9, hcl17]); rw [List.toList_toArray]; exact ⟨undef, rfl, hset, G4.store hset hl9⟩
      · intro a1 w2 hG hF; refine gstep (fun w' h => G4.of_gr hG.kx.size h) ?_; obtain ⟨_, e25, rfl⟩ := hF.dp 10 25 (by kernel_rfl); exact s_old rfl (wants0 rfl) (.tmp 25) (.inl rfl) (.int .i64 0) e25 rfl
    intro vs2 wf hGf hf; have hAf : Arr wf g4 42 C9 := hf.2.2.1; have y12 : vs2 12 = .int .i64 0 := hf.2.2.2.1; clear hf; simp only [List.drop_succ_cons, List.drop_zero, putAll, Nat.reduceAdd, y12]; go_simp; go_wp2_with fail
    refine bodyPost_ret (results_cell_tmp rfl _ _ g4 _ _ _ _ rfl hAf Tryz.underlying42 rfl hI9s) rfl ?_; have hGw9 := hGw1.trans hG9; refine ⟨c9, M9, m9, q9, by rw [HC9.out]; rfl, HP9.out, own_base2 (own_kx hO hGf.kx (Nat.le_refl _) (by omega)) hGw1.size, ?_⟩; exact ⟨hGf.kx.os.trans hGw9.os, hGf.kx.tape.trans hGw9.tape, hGf.kx.output.trans hGw9.output, Nat.le_trans hGw9.size hGf.kx.size, fun k hk => (hGf.kx.block k (Nat.lt_of_lt_of_le hk hGw9.size) (by omega)).trans (hGw9.block k hk)⟩
end Go.Proofs.YtjpphldojbfpfaaGreatDoor
namespace Go.Proofs.YtjpphldojbfpfaaGreatDoor
open Go.RowKit
structure SibV where
  d : DotM
  c : CtxM
  M : Option Addr
  cM : Nat
  body : List UInt8
  Y : Option Addr
  cY : Nat
def sibC (x : SibV) : List Value := encD x.d ++ (ctxC x.c x.M x.c.more.length x.cM ++ [.slice x.Y x.body.length x.cY])
structure SOk (w : World) (x : SibV) : Prop where
  right : rightD x.d
  ctx : OkC x.c
  fresh : ¬ hasC x.c x.d
  small : x.body.length ≤ 16384
  dots : DotsR w x.M x.c.more.length x.c.more
  nil : x.M = none → x.cM = 0
  bytes : Rd w x.Y x.body.length (u8s x.body)
  nilY : x.Y = none → x.cY = 0
theorem SOk.gr {w w' : World} {x : SibV} (h : SOk w x) (hG : Gr w w') : SOk w' x := ⟨h.right, h.ctx, h.fresh, h.small, h.dots.gr hG, h.nil, hG.rd h.bytes, h.nilY⟩
theorem sibC_length {x : SibV} (h : x.c.upto.length = 16) : (sibC x).length = 20 := by
  unfold sibC; rw [List.length_append, List.length_append, ctxC_length h, encD_length]; rfl
theorem sibC_one (x : SibV) : ∀ v ∈ sibC x, v.oneCell' = true := by
  intro v hv; unfold sibC at hv; rcases List.mem_append.1 hv with hv | hv
  · exact encD_one _ v hv
  · rcases List.mem_append.1 hv with hv | hv
    · exact ctxC_one _ _ _ _ v hv
    · have : v = .slice x.Y x.body.length x.cY := by simpa using hv
      rw [this]; rfl
theorem infoSib {x : SibV} (h : x.c.upto.length = 16) : (Tryz.prog.info? 45).map (·.size) = some (sibC x).length := by
  rw [sibC_length h]
  kernel_rfl
structure SibAt (w : World) (b o : Nat) (x : SibV) : Prop where
  all : w.rangeAt b o (sibC x)
  dot : w.rangeAt b o (encD x.d)
  ctx : w.rangeAt b (o + 2) (ctxC x.c x.M x.c.more.length x.cM)
  body : w.cell? ⟨b, o + 19, none⟩ = some (.slice x.Y x.body.length x.cY)
theorem SibAt.of {w : World} {b o : Nat} {x : SibV} (hl : x.c.upto.length = 16) (h : w.rangeAt b o (sibC x)) : SibAt w b o x := by
  have hc := ctxC_length hl x.M x.c.more.length x.cM; refine ⟨h, fun j u hu => h j u ?_, fun j u hu => ?_, ?_⟩
  · unfold sibC; rw [List.getElem?_append_left (List.getElem?_eq_some_iff.1 hu).1]; exact hu
  · have := h (2 + j) u (by
      unfold sibC; rw [List.getElem?_append_right (by rw [encD_length]; omega), encD_length, List.getElem?_append_left (by have := (List.getElem?_eq_some_iff.1 hu).1; omega)]; rw [show 2 + j - 2 = j by omega]; exact hu)
    rw [show o + 2 + j = o + (2 + j) by omega]; exact this
  · exact h 19 _ (by
      unfold sibC; rw [List.getElem?_append_right (by rw [encD_length]; omega), encD_length, List.getElem?_append_right (by omega), hc]; rfl)
theorem SibAt.gr {w w' : World} {b o : Nat} {x : SibV} (h : SibAt w b o x) (hG : Gr w w') : SibAt w' b o x := ⟨hG.range h.all, hG.range h.dot, hG.range h.ctx, Gr.cell hG h.body⟩
def ctx0 : CtxM := ⟨List.replicate 16 0, []⟩
theorem ctx0_ok : OkC ctx0 := ⟨rfl, fun n hn => by
  have := (List.mem_replicate.1 hn).2; omega, Nat.zero_le _, fun _ h => (by cases h), List.Pairwise.nil⟩
set_option maxRecDepth 100000 in
set_option maxHeartbeats 4000000 in
theorem sright_any {x : SibV} {w : World} (hx : SOk w x) :
    Calls Tryz.prog 106 #[.agg (sibC x).toArray] w fun e w' => e = .returned (.bool true) ∧ Gr w w' := by
  have HX := Lib.hid hx; have HI := Lib.hid (infoSib hx.ctx.len); have HI0 := Lib.hid (infoCtx ctx0_ok.len none 0 0); have HIc := Lib.hid (infoCtx hx.ctx.len x.M x.c.more.length x.cM); have hbl := hx.small; have H1 : Hid (∀ w1 : World, Calls Tryz.prog 138 #[.agg (ctxC ctx0 none 0 0).toArray, .agg (encD x.d).toArray] w1 fun e w' => CtxQ (Tidy ctx0.upto (ctx0.more ++ [x.d])) w1 e w') := Lib.hid (fun w1 => add_any ctx0_ok hx.right (DotsR.nil _ _) (by omega) (fun _ => rfl)); have H2 : Hid (∀ w1, Gr w w1 → Calls Tryz.prog 121 #[.agg (ctxC x.c x.M x.c.more.length x.cM).toArray] w1 fun e w' => e = .returned (.int .i64 0) ∧ Gr w1 w') := Lib.hid (fun w1 h => check_any hx.ctx (hx.dots.gr h)); have H3 : Hid (∀ w1, Gr w w1 → Calls Tryz.prog 114 #[.agg (ctxC x.c x.M x.c.more.length x.cM).toArray, .agg (encD x.d).toArray] w1 fun e w' => e = .returned (.bool false) ∧ Gr w1 w') := Lib.hid (fun w1 h => (hasP_any hx.ctx hx.right (hx.dots.gr h)).mono fun _ _ ⟨he, hg⟩ => ⟨by rw [he, decide_eq_false hx.fresh], hg⟩); have hbl2 : ((x.body.length : Nat) : Int) ≤ 16384 := by omega
  obtain ⟨C, hC⟩ : ∃ C, C = sibC x := ⟨_, rfl⟩; have hA0 : Arr (w.alloc (.cells C.toArray 45)) w.heap.size 45 C := Arr.newAt rfl rfl; have hS : SibAt (w.alloc (.cells C.toArray 45)) w.heap.size 0 x := SibAt.of hx.ctx.len (by rw [← hC]; exact Arr.range hA0); rw [← hC] at ⊢; have hG : Gr w (w.alloc (.cells C.toArray 45)) := Gr.alloc _ _; clear hC hx hA0 hbl
  go_enter Tryz.func106, Tryz.ntmps106
  go_upto_region 1 with fail
  change Code.wp _ _ _ _ (w.alloc (.cells C.toArray 45)); generalize w.alloc (.cells C.toArray 45) = w0 at hS hG ⊢; generalize w.heap.size = g1 at hS ⊢
  go_upto_region 2 with fail
  change Code.wp _ _ _ _ (w0.alloc (.cells (ctxC ctx0 none 0 0).toArray 42)); have hA3 : Arr (w0.alloc (.cells (ctxC ctx0 none 0 0).toArray 42)) w0.heap.size 42 (ctxC ctx0 none 0 0) := Arr.newAt rfl rfl; have hGa : Gr w0 (w0.alloc (.cells (ctxC ctx0 none 0 0).toArray 42)) := Gr.alloc _ _
  replace hS := hS.gr hGa
  replace hG := hG.trans hGa
  clear hGa; generalize w0.alloc (.cells (ctxC ctx0 none 0 0).toArray 42) = w5 at hS hA3 hG ⊢; generalize w0.heap.size = g3 at hA3 ⊢
  go_upto_region 3 with first
    | (refine wpList_loadT rfl 42 (.tmp 3) rfl g3 0 rfl (ctxC ctx0 none 0 0) (Arr.range hA3) Tryz.underlying42 rfl HI0.out ?_)
    | (refine wpList_loadT rfl 38 (.tmp 8) rfl g1 0 (by kernel_rfl) (encD x.d) hS.dot Tryz.underlying38 rfl (infoDot x.d) ?_)
    | (go_at_call 138; refine (H1.out w5).mono ?_; rintro e w6 ⟨c6, M6, m6, q6, rfl, hP6, _, hG6⟩; replace hS := hS.gr hG6; replace hG := hG.trans hG6)
    | (refine wpList_new (w := w6) (t := 42) rfl _ _ _ rfl w6.heap.size (ctxC c6 M6 m6 q6) rfl rfl rfl (by rw [ctxC_length hP6.len]; rfl) (infoCtx hP6.len M6 m6 q6) (ctxC_one _ _ _ _) ?_; intro w7 hA7 hG7)
  replace hS := hS.gr hG7
  replace hG := hG.trans hG7
  clear hA7 hA3 hP6 HI0
  go_wp2_with first
    | (refine wpList_loadT rfl 42 (.tmp 16) rfl g1 2 (by kernel_rfl) (ctxC x.c x.M x.c.more.length x.cM) hS.ctx Tryz.underlying42 rfl HIc.out ?_)
    | (refine wpList_loadT rfl 42 (.tmp 22) rfl g1 2 (by kernel_rfl) (ctxC x.c x.M x.c.more.length x.cM) hS.ctx Tryz.underlying42 rfl HIc.out ?_)
    | (refine wpList_loadT rfl 38 (.tmp 24) rfl g1 0 (by kernel_rfl) (encD x.d) hS.dot Tryz.underlying38 rfl (infoDot x.d) ?_)
    | (go_at_call 121; refine (H2.out w7 hG).mono ?_; rintro e w8 ⟨rfl, hG8⟩; replace hS := hS.gr hG8; replace hG := hG.trans hG8; have hb8 := hS.body)
    | (go_at_call 114; refine (H3.out w8 hG).mono ?_; rintro e w9 ⟨rfl, hG9⟩; replace hS := hS.gr hG9; replace hG := hG.trans hG9; have hb9 := hS.body)
  go_ret
  exact ⟨rfl, hG⟩
end Go.Proofs.YtjpphldojbfpfaaGreatDoor
namespace Go.Proofs.YtjpphldojbfpfaaGreatDoor
open Go.RowKit
def SibsR (w : World) (A : Option Addr) (n : Nat) (L : List SibV) : Prop := L.length = n ∧ ∀ i x, L[i]? = some x → (∃ b o, A = some ⟨b, o, none⟩ ∧ w.rangeAt b (o + i * 20) (sibC x)) ∧ SOk w x
theorem SibsR.gr {w w' : World} {A : Option Addr} {n : Nat} {L : List SibV} (h : SibsR w A n L) (hG : Gr w w') : SibsR w' A n L :=
  ⟨h.1, fun i x hx => by
    obtain ⟨⟨b, o, e, hr⟩, hs⟩ := h.2 i x hx; exact ⟨⟨b, o, e, hG.range hr⟩, hs.gr hG⟩⟩
theorem SibsR.nil (w : World) (A : Option Addr) : SibsR w A 0 [] := ⟨rfl, fun i x h => by simp at h⟩
theorem SibsR.ok {w : World} {A : Option Addr} {n : Nat} {L : List SibV} (h : SibsR w A n L) : ∀ x ∈ L, SOk w x := fun x hx => by
  obtain ⟨i, hi⟩ := List.getElem?_of_mem hx; exact (h.2 i x hi).2
def AskS (F : Nat) (g : Nat) (p : SibV → Bool) (L : List SibV) (w : World) : Prop := ∀ w1, Gr w w1 → ∀ x ∈ L, Calls Tryz.prog F #[.agg (sibC x).toArray, .pointer (some ⟨g, 0, none⟩)] w1 fun e w2 => e = .returned (.bool (p x)) ∧ Gr w1 w2
set_option maxRecDepth 100000 in
set_option maxHeartbeats 4000000 in
theorem seen1_any {x : SibV} {d : DotM} {g : Nat} {w : World} (hx : SOk w x) (hd : rightD d) (hg : Arr w g 38 (encD d)) :
    Calls Tryz.prog 113 #[.agg (sibC x).toArray, .pointer (some ⟨g, 0, none⟩)] w fun e w' => e = .returned (.bool (decide (hasC x.c d))) ∧ Gr w w' := by
  obtain ⟨r, hr⟩ : ∃ r, r = decide (hasC x.c d) := ⟨_, rfl⟩; have HI := Lib.hid (infoSib hx.ctx.len); have HIc := Lib.hid (infoCtx hx.ctx.len x.M x.c.more.length x.cM); have H3 : Hid (∀ w1, Gr w w1 → Calls Tryz.prog 114 #[.agg (ctxC x.c x.M x.c.more.length x.cM).toArray, .agg (encD d).toArray] w1 fun e w' => e = .returned (.bool r) ∧ Gr w1 w') := Lib.hid (fun w1 h => by rw [hr]; exact hasP_any hx.ctx hd (hx.dots.gr h)); rw [← hr]; obtain ⟨C, hC⟩ : ∃ C, C = sibC x := ⟨_, rfl⟩; have hA0 : Arr (w.alloc (.cells C.toArray 45)) w.heap.size 45 C := Arr.newAt rfl rfl; have hS : SibAt (w.alloc (.cells C.toArray 45)) w.heap.size 0 x := SibAt.of hx.ctx.len (by rw [← hC]; exact Arr.range hA0); rw [← hC]; have hG : Gr w (w.alloc (.cells C.toArray 45)) := Gr.alloc _ _; have hD := hg.gr hG; clear hC hx hA0 hr hg hd
  go_enter Tryz.func113, Tryz.ntmps113
  go_upto_region 1 with fail
  change Code.wp _ _ _ _ (w.alloc (.cells C.toArray 45)); generalize w.alloc (.cells C.toArray 45) = w0 at hS hG hD ⊢; generalize w.heap.size = g1 at hS ⊢
  go_wp2_with first
    | (refine wpList_loadT rfl 42 (.tmp 4) rfl g1 2 (by kernel_rfl) (ctxC x.c x.M x.c.more.length x.cM) hS.ctx Tryz.underlying42 rfl HIc.out ?_)
    | (refine wpList_loadT rfl 38 (.tmp 1) rfl g 0 (by kernel_rfl) (encD d) (Arr.range hD) Tryz.underlying38 rfl (infoDot d) ?_)
    | (go_at_call 114; refine (H3.out w0 hG).mono ?_; rintro e w9 ⟨rfl, hG9⟩)
  go_ret
  exact ⟨rfl, hG.trans hG9⟩
def IdxS (p : SibV → Bool) (L : List SibV) (z : Int) : Prop := 0 ≤ z ↔ ∃ x ∈ L, p x = true
def IdxSR (p : SibV → Bool) (L : List SibV) (n : Nat) (w : World) (i : Value) (wr : World) : Prop := ∃ k : Nat, k ≤ n ∧ i = .int .i64 (k : Int) ∧ (∀ y ∈ L.take k, p y = false) ∧ Gr w wr
set_option maxRecDepth 100000 in
set_option maxHeartbeats 4000000 in
theorem indexS_any {F g : Nat} {p : SibV → Bool} {L : List SibV} {A : Option Addr} {n c : Nat} {w : World} (hL : SibsR w A n L) (hp : AskS F g p L w) (hE : ∀ args w, (callFunc F args).run Tryz.prog w = .ok (.enter F args) w) (hn : n ≤ 1000000) :
    Calls Tryz.prog 139 #[.slice A n c, .func (.func F) #[] #[.pointer (some ⟨g, 0, none⟩)]] w fun e w' => ∃ z, e = .returned (.int .i64 z) ∧ IdxS p L z ∧ Gr w w' := by
  have HL := Lib.hid hL; have HP := Lib.hid hp; have HLen := Lib.hid hL.1; have HE := Lib.hid hE; clear hL hp hE
  go_enter Tryz.func139, Tryz.ntmps139
  go_wp2_with fail
  go_simp
  go_loopw [8] (fun i wr => IdxSR p L n w i wr) (fun i _ => n - (intOf i).toNat)
  case atStart => exact ⟨0, Nat.zero_le _, rfl, by simp, Gr.refl _⟩
  case round =>
    obtain ⟨k, hk, rfl, hno, hGr⟩ := hrel
    by_cases hlt : k < n
    · have hki : (k : Int) < (n : Int) := by omega
      obtain ⟨x, hx⟩ : ∃ x, L[k]? = some x := ⟨_, List.getElem?_eq_getElem (by rw [HLen.out]; exact hlt)⟩; obtain ⟨⟨bA, oA, rfl, hr⟩, hs⟩ := (HL.out.gr hGr).2 k x hx; have HI := Lib.hid (infoSib hs.ctx.len); have hP := HP.out _ hGr x (List.mem_of_getElem? hx); have HX := Lib.hid hx; have HNO := Lib.hid hno; obtain ⟨b, hb⟩ : ∃ b, b = p x := ⟨_, rfl⟩; rw [← hb] at hP; have HB := Lib.hid hb; clear hx hno hb hs
      go_wp2_with (refine wpList_loadT rfl 45 (.tmp 14) rfl bA (oA + k * 20) (by kernel_rfl) (sibC x) hr Tryz.underlying45 rfl HI.out ?_)
      rw [HE.out]; refine hP.mono ?_; rintro e w2 ⟨rfl, hG2⟩; cases b with
      | true =>
        go_wp2_with fail
        go_ret
        exact ⟨(k : Int), rfl, ⟨fun _ => ⟨x, List.mem_of_getElem? HX.out, HB.out.symm⟩, fun _ => by omega⟩, hGr.trans hG2⟩
      | false =>
        go_wp2_with fail
        refine ⟨⟨k + 1, hlt, by go_num, fun y hy => ?_, hGr.trans hG2⟩, by simp [intOf]; omega⟩; rw [List.take_add_one, HX.out] at hy; rcases List.mem_append.1 hy with h | h
        · exact HNO.out y h
        · rw [show y = x by simpa using h]; exact HB.out.symm
    · have hki : ¬ (k : Int) < (n : Int) := by omega
      rw [List.take_of_length_le (by rw [HLen.out]; omega)] at hno; have HNO := Lib.hid hno; clear hno; go_wp2_with fail
      go_ret
      exact ⟨-1, rfl, ⟨fun h => absurd h (by omega), fun ⟨x, hx, hpx⟩ => by rw [HNO.out x hx] at hpx; cases hpx⟩, hGr⟩
set_option maxRecDepth 100000 in
set_option maxHeartbeats 4000000 in
theorem containsS_any {F g : Nat} {p : SibV → Bool} {L : List SibV} {A : Option Addr} {n c : Nat} {w : World} (hL : SibsR w A n L) (hp : AskS F g p L w) (hE : ∀ args w, (callFunc F args).run Tryz.prog w = .ok (.enter F args) w) (hn : n ≤ 1000000) :
    Calls Tryz.prog 107 #[.slice A n c, .func (.func F) #[] #[.pointer (some ⟨g, 0, none⟩)]] w fun e w' => e = .returned (.bool (L.any p)) ∧ Gr w w' := by
  have HI := Lib.hid (indexS_any (c := c) hL hp hE hn); obtain ⟨r, hr⟩ : ∃ r, r = L.any p := ⟨_, rfl⟩; rw [← hr]; have HR := Lib.hid hr; clear hr hL hp hE
  go_enter Tryz.func107, Tryz.ntmps107
  cases r with
  | true =>
    have HM := Lib.hid (List.any_eq_true.1 HR.out.symm)
    go_wp2_with (go_at_call 139; refine HI.out.mono ?_; rintro e w1 ⟨z, rfl, hz, hG1⟩; have hz0 : decide (0 ≤ z) = true := decide_eq_true (hz.2 HM.out))
    go_ret
    exact ⟨rfl, hG1⟩
  | false =>
    have HM := Lib.hid HR.out.symm
    go_wp2_with (go_at_call 139; refine HI.out.mono ?_; rintro e w1 ⟨z, rfl, hz, hG1⟩; have hz0 : decide (0 ≤ z) = false := decide_eq_false (fun h => by have h1 := List.any_eq_true.2 (hz.1 h); rw [HM.out] at h1; cases h1))
    go_ret
    exact ⟨rfl, hG1⟩
def seenL (L : List SibV) (d : DotM) : Bool := L.any fun x => decide (hasC x.c d)
set_option maxRecDepth 100000 in
set_option maxHeartbeats 4000000 in
theorem seen_any {L : List SibV} {A : Option Addr} {n c : Nat} {d : DotM} {w : World} (hL : SibsR w A n L) (hd : rightD d) (hn : n ≤ 1000000) :
    Calls Tryz.prog 65 #[.slice A n c, .agg (encD d).toArray] w fun e w' => e = .returned (.bool (seenL L d)) ∧ Gr w w' := by
  have hA : Arr (w.alloc (.cells (encD d).toArray 38)) w.heap.size 38 (encD d) := Arr.newAt rfl rfl; have hG : Gr w (w.alloc (.cells (encD d).toArray 38)) := Gr.alloc _ _; have H1 := Lib.hid (fun w1 (h1 : Gr (w.alloc (.cells (encD d).toArray 38)) w1) => containsS_any (F := 113) (g := w.heap.size) (p := fun x => decide (hasC x.c d)) (c := c) (hL.gr (hG.trans h1)) (fun w2 h2 x hx => seen1_any ((hL.ok x hx).gr ((hG.trans h1).trans h2)) hd ((hA.gr h1).gr h2)) (enters_of Tryz.func113 (by kernel_rfl) rfl) hn); obtain ⟨r, hr⟩ : ∃ r, r = seenL L d := ⟨_, rfl⟩; rw [← hr]; have hr' : r = L.any fun x => decide (hasC x.c d) := hr; rw [← hr'] at H1; clear hr hr' hL hA
  go_enter Tryz.func65, Tryz.ntmps65
  go_upto_region 1 with fail
  change Code.wp _ _ _ _ (w.alloc (.cells (encD d).toArray 38)); generalize w.alloc (.cells (encD d).toArray 38) = w0 at hG H1 ⊢; generalize w.heap.size = g1 at H1 ⊢
  go_wp2_with (go_at_call 107; refine (H1.out w0 (Gr.refl _)).mono ?_; rintro e w9 ⟨rfl, hG9⟩)
  go_ret
  exact ⟨rfl, hG.trans hG9⟩
end Go.Proofs.YtjpphldojbfpfaaGreatDoor
