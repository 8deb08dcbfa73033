/- The walk of sibling.Seen. No condition. -/
import Derived.Test.YteckblffpidigaaGreatDoorMtSeenP
import Derived.Test.YteckblffpidigaaGreatDoorMtCopy
import Derived.Test.YteckblffpidigaaGreatDoorMtGood
import Derived.Test.YteckblffpidigaaGreatDoorMtCat
import Derived.Lib.MinMax
namespace Go.Proofs.YteckblffpidigaaGreatDoor
open Go.RowKit
/-- What may turn while a row is appended to. -/
structure NE (e : TypeId) (size B : Nat) (A : Option Addr) (n c m : Nat) (xs ys : List Value) (w w' : World) : Prop where
  tn : Tn (blkT A e) B w w'
  old : w.ownsRow B e size (.slice A n c) n xs → w'.ownsRow B e size (.slice A n c) n xs
  new : ∀ A2 d, w.ownsRow B e size (.slice A2 (n + m) d) (n + m) (xs ++ ys) → w'.ownsRow B e size (.slice A2 (n + m) d) (n + m) (xs ++ ys)
section
variable {e : TypeId} {size B : Nat} {A : Option Addr} {n c m : Nat} {xs ys : List Value} {w w' : World}
theorem NE.of_gr (h : Gr w w') : NE e size B A n c m xs ys w w' := ⟨Tn.of_gr h, fun k => Gr.own h k, fun _ _ k => Gr.own h k⟩
theorem NE.refl : NE e size B A n c m xs ys w w := NE.of_gr (Gr.refl w)
theorem NE.trans {w2 : World} (h : NE e size B A n c m xs ys w w') (k : NE e size B A n c m xs ys w' w2) : NE e size B A n c m xs ys w w2 := ⟨h.tn.trans k.tn, fun q => k.old (h.old q), fun A2 d q => k.new A2 d (h.new A2 d q)⟩
end
/-- A slice of one element that was just built. -/
def OneE (S : Nat) (t : TypeId) (cs : List Value) (v : Value) (w : World) : Prop := ∃ g, v = .slice (some ⟨g, 0, none⟩) 1 1 ∧ S ≤ g ∧ Arr w g t cs
/-- The longer row. -/
def NewE (e : TypeId) (size B n : Nat) (xs : List Value) (v : Value) (w : World) : Prop := ∃ A c, v = .slice A n c ∧ w.ownsRow B e size (.slice A n c) n xs
theorem OneE.ne {S B size n c m : Nat} {t e : TypeId} {cs xs ys : List Value} {v : Value} {A : Option Addr} {w w' : World} (h : OneE S t cs v w) (hA : ∀ ad, A = some ad → ad.block < S) (hG : NE e size B A n c m xs ys w w') : OneE S t cs v w' := by
  obtain ⟨g, e1, hs, ha⟩ := h
  exact ⟨g, e1, hs, ha.tn hG.tn fun C f => blkT_far (fun ad h => by have := hA ad h; omega) _⟩
theorem NewE.ne {size B n c m : Nat} {e : TypeId} {xs ys : List Value} {v : Value} {A : Option Addr} {w w' : World} (h : NewE e size B (n + m) (xs ++ ys) v w) (hG : NE e size B A n c m xs ys w w') : NewE e size B (n + m) (xs ++ ys) v w' := by
  obtain ⟨A2, d, e1, ho⟩ := h
  exact ⟨A2, d, e1, hG.new A2 d ho⟩
theorem wpList_setI {P : Program} {w : World} {g : Nat} {t : TypeId} {cs : List Value} {ops : Array Oper} {rest : List Oper} {op : Oper} {a : Act} {Q : Exit → Act → World → Prop} (h : Arr w g t cs) (hgd : op.guard = none) (ty : TypeId) (x y : Operand) (ho : op.op = .store ty x y)
    (hT : (P.info? ty).map (·.size) = some 1) (i : Nat) (kd : IntKind) (z : Int) (hx : a.eval x = .pointer (some ⟨g, i, none⟩)) (hy : a.eval y = .int kd z) (hi : i < cs.length)
    (hK : ∀ w2, Arr w2 g t (cs.set i (.int kd z)) → InK g w w2 → wpList P ops Q rest (a.put op.dst undef) w2) : wpList P ops Q (op :: rest) a w := by
  refine wpList_plain hgd fun K hKK => ?_
  unfold Oper.wp
  obtain ⟨dst, o, tt, ps, af, gd⟩ := op
  simp only at ho
  subst ho
  rw [run_store1 hT hx hy (by rw [h.cell (List.getElem?_eq_getElem hi)]; rfl) (h.frozen i)]
  exact hKK _ _ (hK _ (h.set i _) (InK.set _ _))
theorem InK.cells (g o : Nat) (C : List Value) (w : World) : InK g w (w.setCells g o C) := by
  have hb := below_setCells (B := g) (g := g) (Nat.le_refl _) C w o
  exact ⟨hb.os, hb.tape, hb.output, hb.size, fun k hk hne => World.heap_setCells_other w g o C hk hne⟩
theorem wpList_putK {P : Program} {ops : Array Oper} {rest : List Oper} {op : Oper} {a : Act} {Q : Exit → Act → World → Prop} {w : World} {t : TypeId} {b : Nat} {cs : List Value} (hA : Arr w b t cs) (hgd : op.guard = none) (ty : TypeId) (x y : Operand) (ho : op.op = .store ty x y)
    (vs : List Value) (hx : a.eval x = .pointer (some ⟨b, 0, none⟩)) (hy : a.eval y = .agg vs.toArray) (hn : cs.length = vs.length)
    (hi : (P.info? ty).map (·.size) = some vs.length) (h1 : ∀ v ∈ vs, v.oneCell' = true)
    (h : ∀ w2, Arr w2 b t vs → InK b w w2 → wpList P ops Q rest (a.put op.dst undef) w2) : wpList P ops Q (op :: rest) a w := by
  refine wpList_store_mid hgd ty x y ho b 0 vs.toArray hx hy (by have := hA.there; rw [hn] at this; simpa using this) (by simpa using hi) (all_oneCell_toArray h1) ?_
  exact h _ (hA.setAll vs hn.symm) (InK.cells _ _ _ _)
def SeenQ (L : List SibV) (w : World) (e : Ending) (w' : World) : Prop := CtxQ (fun c => OkC c ∧ ∀ d, rightD d → (hasC c d ↔ covS L d)) w e w'
/-- What the first loop has taken in. -/
structure SeenR (L : List SibV) (B1 g2 g5 n : Nat) (w0 : World) (v i : Value) (wr : World) : Prop where
  ex : ∃ (k : Nat) (U : List Nat) (A : Option Addr) (q c : Nat), k ≤ n ∧ i = .int .i64 (k : Int) ∧ v = .slice A q c ∧ UpIs (L.take k) U ∧ Arr wr g5 42 (ctxC ⟨U, []⟩ none 0 0) ∧ Arr wr g2 42 (ctxC ctx0 none 0 0) ∧ (restL (L.take k)).length = q ∧ OwnD wr B1 A q c (restL (L.take k)) ∧ Below w0.heap.size w0 wr ∧ B1 ≤ wr.heap.size
structure SeenU (U V : List Nat) (g5 : Nat) (w8 : World) (i : Value) (wr : World) : Prop where
  ex : ∃ (j : Nat) (W : List Nat), j ≤ 16 ∧ i = .int .i64 (j : Int) ∧ W.length = 16 ∧ (∀ t, t < 16 → W.getD t 0 = if t < j then max (U.getD t 0) (V.getD t 0) else U.getD t 0) ∧ Arr wr g5 42 (ctxC ⟨W, []⟩ none 0 0) ∧ InK g5 w8 wr
def Srt3Q (R : List DotM) (B : Nat) (A : Option Addr) (q : Nat) (w : World) (e : Ending) (w' : World) : Prop := e = .returned (.tuple #[]) ∧ ∃ R' : List DotM, R'.Perm R ∧ DotsR w' A q R' ∧ Below B w w'
theorem sort3_any {w : World} {B q c : Nat} {A : Option Addr} {R : List DotM} (h : OwnD w B A q c R) (hl : R.length = q) (hq : q ≤ 1000000) :
    Calls Tryz.prog 32 #[.slice A q c, .func (.func 33) #[] #[]] w fun e w' => Srt3Q R B A q w e w' := by
  rcases Nat.eq_zero_or_pos q with h0 | h0
  · subst h0
    refine (sortD_none A c _ w).mono ?_
    rintro e w' ⟨rfl, rfl⟩
    exact ⟨rfl, R, List.Perm.refl _, h.dots, Below.refl _ _⟩
  · rcases h.2 with ⟨_, e2⟩ | ⟨g, cap, cur, e1, h1, _⟩
    · omega
    · injection e1 with e1
      subst e1
      refine (sort_seen hl hq h1 h).mono ?_
      rintro e w' ⟨rfl, L', hp, _, hd, hB, _⟩
      exact ⟨rfl, L', hp, hd, hB⟩
theorem own_far5 {w : World} {B q c : Nat} {e : TypeId} {size : Nat} {A : Option Addr} {xs : List Value} (h : w.ownsRow B e size (.slice A q c) q xs) : ∀ ad, A = some ad → B ≤ ad.block := by
  intro ad e1
  rcases h.2 with ⟨e2, _⟩ | ⟨g, cap, cur, e2, h1, _⟩
  · injection e2 with e2
    rw [e1] at e2
    cases e2
  · injection e2 with e2
    rw [e1] at e2
    injection e2 with e2
    subst e2
    exact h1
theorem InK.dots {g n : Nat} {A : Option Addr} {L : List DotM} {w w' : World} (h : InK g w w') (hd : DotsR w A n L) (hf : ∀ ad, A = some ad → ad.block ≠ g) : DotsR w' A n L := by
  refine ⟨hd.1, fun i d hi => ?_⟩
  obtain ⟨b, o, e, hr⟩ := hd.2 i d hi
  refine ⟨b, o, e, fun j u hj => ?_⟩
  have hc := hr j u hj
  have hlt : b < w.heap.size := by
    rcases Nat.lt_or_ge b w.heap.size with h' | h'
    · exact h'
    · simp [World.cell?, Array.getElem?_eq_none h'] at hc
  exact (World.cell?_of_block (a := ⟨b, o + i * 2 + j, none⟩) (h.other b hlt (hf _ e))).trans hc
/-- What the last loop has taken in. -/
structure SeenL (U : List Nat) (R : List DotM) (B2 g5 q : Nat) (w5 : World) (i : Value) (wr : World) : Prop where
  ex : ∃ (k : Nat) (c : CtxM) (M : Option Addr) (m cM : Nat), k ≤ q ∧ i = .int .i64 (k : Int) ∧ m = c.more.length ∧ SAt U (R.take k) c ∧ Arr wr g5 42 (ctxC c M m cM) ∧ OwnD wr B2 M m cM c.more ∧ InK g5 w5 wr
set_option maxRecDepth 100000 in
set_option maxHeartbeats 8000000 in
theorem sseen_any {L : List SibV} {A : Option Addr} {n c : Nat} {D : List DotM} {w : World} (hL : SibsR w A n L) (hg : GoodL L) (hD : ∀ d ∈ restL L, d ∈ D) (hD31 : D.length ≤ 31) :
    Calls Tryz.prog 8 #[.slice A n c] w fun e w' => SeenQ L w e w' := by
  obtain ⟨iD, zD, hiD, hz0, hz1, hz2, hz3⟩ := infoDt_parts
  have hn64 : n ≤ 64 := by rw [← hL.1]; exact hg.few
  have HL := Lib.hid hL
  have HLen := Lib.hid hL.1
  have HC := Lib.hid (fun w1 (h : Gr w w1) => scheck_any (c := c) (hL.gr h) hg)
  have HD := Lib.hid hD
  have hDl := hD31
  have HOk : Hid (∀ x ∈ L, OkC x.c ∧ rightD x.d) := Lib.hid (fun x hx => ⟨(hL.ok x hx).ctx, (hL.ok x hx).right⟩)
  clear hL hg hD hD31
  go_enter Tryz.func8, Tryz.ntmps8
  go_upto_region 1 with fail
  change Code.wp _ _ _ _ (w.alloc (.cells (ctxC ctx0 none 0 0).toArray 42))
  have hA2 : Arr (w.alloc (.cells (ctxC ctx0 none 0 0).toArray 42)) w.heap.size 42 (ctxC ctx0 none 0 0) := Arr.newAt rfl rfl
  have hG0 : Gr w (w.alloc (.cells (ctxC ctx0 none 0 0).toArray 42)) := Gr.alloc _ _
  generalize w.alloc (.cells (ctxC ctx0 none 0 0).toArray 42) = w0 at hA2 hG0 ⊢
  obtain ⟨g2, hg2⟩ : ∃ g, g = w.heap.size := ⟨_, rfl⟩
  rw [← hg2] at hA2 ⊢
  have HG2 := Lib.hid hg2
  clear hg2
  go_upto_region 5 with (go_at_call 13; refine (HC.out w0 hG0).mono ?_; rintro e w1 ⟨rfl, hG1⟩)
  have hl2 := hA2.lt
  have hs01 := hG1.size
  have hsw0 := hG0.size
  change Code.wp _ _ _ _ (w1.alloc (.cells (ctxC ctx0 none 0 0).toArray 42))
  have hA5 : Arr (w1.alloc (.cells (ctxC ctx0 none 0 0).toArray 42)) w1.heap.size 42 (ctxC ctx0 none 0 0) := Arr.newAt rfl rfl
  have hG5 : Gr w1 (w1.alloc (.cells (ctxC ctx0 none 0 0).toArray 42)) := Gr.alloc _ _
  replace hA2 := hA2.gr (hG1.trans hG5)
  replace hG0 := hG0.trans (hG1.trans hG5)
  have hne : g2 ≠ w1.heap.size := by omega
  generalize w1.alloc (.cells (ctxC ctx0 none 0 0).toArray 42) = w2 at hA2 hA5 hG0 hG5 ⊢
  obtain ⟨g5, hg5⟩ : ∃ g, g = w1.heap.size := ⟨_, rfl⟩
  rw [← hg5] at hA5 hne ⊢
  have hg5w : w.heap.size ≤ g5 := by omega
  clear hg5 hG1 hG5 hl2 hs01 hsw0
  go_wp2_with fail
  go_simp
  obtain ⟨B1, hB1⟩ : ∃ B, B = w2.heap.size := ⟨_, rfl⟩
  have hg5B : g5 < B1 := by rw [hB1]; exact hA5.lt
  have hg2B : g2 < B1 := by rw [hB1]; exact hA2.lt
  have hwB : w.heap.size ≤ B1 := by rw [hB1]; exact hG0.size
  have HB1 := Lib.hid hB1
  clear hB1
  go_loopw [6, 22] (fun v i wr => SeenR L B1 g2 g5 n w v i wr) (fun _ i _ => n - (intOf i).toNat)
  case atStart => exact ⟨⟨0, List.replicate 16 0, none, 0, 0, Nat.zero_le _, rfl, rfl, UpIs.nil, hA5, hA2, rfl, OwnD.nil _ _, hG0, by rw [HB1.out]; exact Nat.le_refl _⟩⟩
  case round =>
    clear hA2 hA5 hG0
    obtain ⟨k, U, Ar, q, cr, hk, rfl, rfl, hU, hA5, hA2, hql, hown, hB, hBs⟩ := hrel.ex
    have HU := Lib.hid hU
    have HQl := Lib.hid hql
    have HOwn := Lib.hid hown
    have hqb : q ≤ 3000 := by
      have h1 := restL_len (L := L.take k) (fun x hx => (HOk.out x (List.mem_of_mem_take hx)).1.few)
      have h2 := HLen.out
      rw [List.length_take] at h1
      omega
    clear hrel hU hql hown
    by_cases hlt : k < n
    · have hki : (k : Int) < (n : Int) := by omega
      obtain ⟨x, hx⟩ : ∃ x, L[k]? = some x := ⟨_, List.getElem?_eq_getElem (by rw [HLen.out]; exact hlt)⟩
      obtain ⟨⟨bA, oA, rfl, hr⟩, hs⟩ := (HL.out.gr hB).2 k x hx
      have HTake : Hid (L.take (k + 1) = L.take k ++ [x]) := Lib.hid (take_snoc_ L k x hx)
      have HI := Lib.hid (infoSib hs.ctx.len)
      have HI16 := Lib.hid (info16 hs.ctx.len)
      have hone := sibC_one x
      have hx20 := sibC_length hs.ctx.len
      have HS := Lib.hid hs
      have HSw := Lib.hid (HL.out.ok x (List.mem_of_getElem? hx))
      clear hx hs
      go_upto_region 9 with first
        | (refine wpList_load_mid rfl _ _ rfl bA (oA + k * 20) rfl (sibC x) _ hr Tryz.underlying44 rfl HI.out ?_)
        | (refine wpList_new (w := wr) (t := 44) rfl _ _ _ rfl wr.heap.size (sibC x) rfl rfl rfl (by rw [hx20]; rfl) HI.out hone ?_; intro w8 hA8 hG8)
      have hA58 := hA5.gr hG8
      have hA28 := hA2.gr hG8
      have hB8 : Below w.heap.size w w8 := hB.trans (hG8.mono hB.size)
      have hBs8 := Nat.le_trans hBs hG8.size
      have HOwn8 := Lib.hid (OwnD.gr HOwn.out hG8)
      have hS8 : SibAt w8 wr.heap.size 0 x := SibAt.of HS.out.ctx.len (Arr.range hA8)
      have hS8g : B1 ≤ wr.heap.size := hBs
      have HS8 := Lib.hid (HS.out.gr hG8)
      obtain ⟨g8, hg8⟩ : ∃ g, g = wr.heap.size := ⟨_, rfl⟩
      rw [← hg8] at hA8 hS8 hS8g
      simp only [← hg8]
      have hrV : w8.rangeAt g8 2 (numsV x.c.upto) := fun j u hu => hS8.ctx j u (by
        unfold ctxC
        rw [List.getElem?_append_left (List.getElem?_eq_some_iff.1 hu).1]
        exact hu)
      obtain ⟨V, hV⟩ : ∃ V, V = numsV x.c.upto := ⟨_, rfl⟩
      have HV := Lib.hid hV
      rw [← hV] at hrV HI16
      clear hV hg8 hr hG8 hone hA5 hA2 hB hBs HOwn HS hS8
      go_upto_region 10 with (refine wpList_loadT rfl 40 (.tmp 27) rfl g8 2 (by kernel_rfl) V hrV Tryz.underlying40 rfl HI16.out ?_)
      have hUl := HU.out.len
      have hVl : x.c.upto.length = 16 := HS8.out.ctx.len
      go_loopw [29] (fun i wr => SeenU U x.c.upto g5 w8 i wr) (fun i _ => 16 - (intOf i).toNat)
      case atStart => exact ⟨⟨0, U, by omega, rfl, hUl, fun t _ => by rw [if_neg (by omega)], hA58, InK.refl _ _⟩⟩
      case round =>
        obtain ⟨j, W, hj, rfl, hWl, hW, hA5, hK⟩ := hrel.ex
        have HW := Lib.hid hW
        have HWl := Lib.hid hWl
        clear hrel hW
        by_cases hjl : j < 16
        · have hji : (j : Int) < 16 := by omega
          obtain ⟨v, hv⟩ : ∃ v, v = x.c.upto.getD j 0 := ⟨_, rfl⟩
          obtain ⟨u, hu⟩ : ∃ u, u = W.getD j 0 := ⟨_, rfl⟩
          have hix : ∀ w, (Instr.index 40 (.agg V.toArray) (.int .i64 (j : Int))).run Tryz.prog w = .ok (.int .i64 (v : Int)) w := fun w => run_indexA (P := Tryz.prog) Tryz.underlying40 Tryz.underlying3 (by kernel_rfl) (by rw [HV.out, hv]; exact numsV_at (by rw [hVl]; exact hjl)) hjl w
          have hcell : (ctxC ⟨W, []⟩ none 0 0)[j]? = some (.int .i64 (u : Int)) := by
            unfold ctxC
            rw [List.getElem?_append_left (by rw [numsV_length]; show j < W.length; omega), hu]
            exact numsV_at (by show j < W.length; omega)
          have hc5 := hA5.cell hcell
          have hl17 : (ctxC ⟨W, []⟩ none 0 0).length = 17 := ctxC_length (c := ⟨W, []⟩) hWl none 0 0
          have hset : (ctxC ⟨W, []⟩ none 0 0).set j (.int .i64 ((max u v : Nat) : Int)) = ctxC ⟨W.set j (max u v), []⟩ none 0 0 := ctxC_setUp (c := ⟨W, []⟩) hWl none 0 0 (max u v) (k := j + 1) ⟨by omega, by omega⟩
          have hmax : max (u : Int) (v : Int) = ((max u v : Nat) : Int) := by omega
          have HREL : Hid (∀ w9, Arr w9 g5 42 (ctxC ⟨W.set j (max u v), []⟩ none 0 0) → InK g5 w8 w9 → SeenU U x.c.upto g5 w8 (.int .i64 ((j + 1 : Nat) : Int)) w9) := Lib.hid (fun w9 h1 h2 => ⟨⟨j + 1, W.set j (max u v), by omega, rfl, by rw [List.length_set]; exact HWl.out, fun t ht => by
            rw [getD_set (by rw [HWl.out]; exact hjl), HW.out t ht]
            by_cases e : t = j
            · rw [e, if_pos rfl, if_pos (by omega), hu, HW.out j hjl, if_neg (by omega), hv]
            · rw [if_neg e]
              by_cases e2 : t < j
              · rw [if_pos e2, if_pos (by omega)]
              · rw [if_neg e2, if_neg (by omega)], h1, h2⟩⟩)
          generalize max u v = m at hset hmax HREL
          have HSet := Lib.hid hset
          clear hv hu hcell hset hWl
          go_wp2_with (refine wpList_setI hA5 rfl 3 (.tmp 41) (.tmp 39) rfl (by kernel_rfl) j .i64 (m : Int) (by first | rfl | (simp only [hmax]; rfl)) (by first | rfl | (simp only [hmax]; rfl)) (by omega) ?_; intro w9 hA9 hK9; rw [HSet.out] at hA9)
          exact ⟨by rw [show (j : Int) + 1 = ((j + 1 : Nat) : Int) by omega]; exact HREL.out w9 hA9 (hK.trans hK9), by simp [intOf]; omega⟩
        · have hji : ¬ (j : Int) < 16 := by omega
          have HUp : Hid (UpIs (L.take (k + 1)) W) := Lib.hid (by
            rw [HTake.out]
            exact HU.out.add HS8.out.ctx HWl.out fun t ht => by rw [HW.out t ht, if_pos (by omega)])
          have hA28r := hK.arr hA28 hne
          have hA8r := hK.arr hA8 (by omega)
          have hGw : Gr w wr := InK.gr_after hB8 hK hg5w
          have hBs9 : B1 ≤ wr.heap.size := Nat.le_trans hBs8 hK.size
          have hO9 : OwnD wr B1 Ar q cr (restL (L.take k)) := hK.own HOwn8.out hg5B
          have HO9 := Lib.hid hO9
          have HSr := Lib.hid (HSw.out.gr hGw)
          have HA58 := Lib.hid hA5
          clear hA58 hA28 hB8 hBs8 HOwn8 HS8 hA8 hrV HV HI16 hUl hVl hWl HW HWl hjl hj HU hA5 hO9
          go_upto_region 14 with fail
          have hx18 : (sibC x)[18]? = some (.slice x.M x.c.more.length x.cM) := by
            unfold sibC
            rw [List.getElem?_append_right (by rw [encD_length]; omega), encD_length, List.getElem?_append_left (by rw [ctxC_length HSr.out.ctx.len]; omega)]
            exact ctxC_more HSr.out.ctx.len _ _ _
          have hml : x.c.more.length ≤ 32 := HSr.out.ctx.few
          have hlt9 := own_lt HO9.out
          have hA8n : ∀ w1, NE 39 2 B1 Ar q cr 1 ((restL (L.take k)).flatMap encD) (encD x.d) wr.drew w1 → Arr w1 g8 44 (sibC x) := fun w1 hG => hA8r.tn ((Tn.of_gr (Gr.drew wr)).trans hG.tn) (fun C f => blkT_other (by decide) _ C f)
          have HR8 : Hid (∀ w1, NE 39 2 B1 Ar q cr 1 ((restL (L.take k)).flatMap encD) (encD x.d) wr.drew w1 → w1.rangeAt g8 0 (encD x.d)) := Lib.hid (fun w1 hG => (SibAt.of HSr.out.ctx.len (Arr.range (hA8n w1 hG))).dot)
          have HR18 : Hid (∀ w1, NE 39 2 B1 Ar q cr 1 ((restL (L.take k)).flatMap encD) (encD x.d) wr.drew w1 → w1.cell? ⟨g8, 18, none⟩ = some (.slice x.M x.c.more.length x.cM)) := Lib.hid (fun w1 hG => (hA8n w1 hG).cell hx18)
          generalize hrl : restL (L.take k) = RL at HO9 HQl HR8 HR18
          clear hx18 hA8n hA8r
          refine wp_region_cutG (NE 39 2 B1 Ar q cr 1 (RL.flatMap encD) (encD x.d)) (fun _ => NE.refl) (fun _ _ _ => NE.trans) (by kernel_rfl) [IsV (.slice Ar q cr), IsV (.pointer (some ⟨g8, 0, none⟩)), IsV (.agg (encD x.d).toArray), OneE wr.heap.size 39 (encD x.d), NewE 39 2 B1 (q + 1) (RL.flatMap encD ++ encD x.d), IsV (.pointer (some ⟨g8, 2, none⟩)), IsV (.pointer (some ⟨g8, 18, none⟩)), IsV (.slice x.M x.c.more.length x.cM)] 8 (by decide) (by kernel_rfl) (by kernel_rfl) (by kernel_rfl) ?_ ?_ ?_
          · intro φ hφ v w1 w2 h hg
            simp only [List.mem_cons, List.not_mem_nil, or_false] at hφ
            rcases hφ with rfl | rfl | rfl | rfl | rfl | rfl | rfl | rfl
            all_goals first | exact h | exact OneE.ne h hlt9 hg | exact NewE.ne h hg
          · refine ⟨?_, ?_, ?_, ?_, ?_, ?_, ?_, ?_, trivial⟩
            · intro a1 w1 hG hF
              exact gstep (fun _ h => NE.of_gr h) (s_old rfl (wants0 rfl) (.tmp 6) (.inr rfl) (.slice Ar q cr) (hF.ol 6 (by kernel_rfl)) rfl)
            · intro a1 w1 hG hF
              have e8 : a1.eval (.tmp 8) = .pointer (some ⟨g8, 0, none⟩) := hF.ol 8 (by kernel_rfl)
              exact gstep (fun _ h => NE.of_gr h) (s_is rfl (wants0 rfl) _ rfl (run_fieldR (o := 0) (k := 1) Tryz.underlying44 rfl rfl (by kernel_rfl) e8))
            · intro a1 w1 hG hF
              obtain ⟨_, e44, rfl⟩ := hF.dp 1 44 (by kernel_rfl)
              exact gstep (fun _ h => NE.of_gr h) (s_wp rfl (wants0 rfl) (wp_load_mid _ _ rfl g8 0 e44 (encD x.d) _ (HR8.out w1 hG) Tryz.underlying39 rfl (infoDot x.d) ⟨_, rfl, rfl, Gr.refl _⟩))
            · intro a1 w1 hG hF
              obtain ⟨_, e45, rfl⟩ := hF.dp 2 45 (by kernel_rfl)
              exact gstep (fun _ h => NE.of_gr h) (s_val rfl (wants0 rfl) _ rfl (.slice (some ⟨w1.heap.size, 0, none⟩) 1 1) (w1.alloc (.cells (encD x.d).toArray 39)) (run_buildD e45) ⟨_, rfl, hG.tn.size, Arr.newAt rfl rfl⟩ (Gr.alloc _ _))
            · intro a1 w1 hG hF
              obtain ⟨_, e43, rfl⟩ := hF.dp 0 43 (by kernel_rfl)
              obtain ⟨x46, e46, gq, rfl, _, hq⟩ := hF.dp 3 46 (by kernel_rfl)
              have ho1 := hG.old (Gr.own (Gr.drew wr) HO9.out)
              have hs1 : B1 ≤ w1.heap.size := Nat.le_trans hBs9 hG.tn.size
              obtain ⟨A', c', w', hr, h2, hT, hold, hnew⟩ := run_append_keep (P := Tryz.prog) (w := w1) B1 26 26 39 iD zD 2 16 Tryz.underlying26 hiD hz0 hz1 hz2 hz3 (by omega) Ar q cr (RL.flatMap encD) ho1 ⟨gq, 0, none⟩ 1 1 (encD x.d) rfl (fun j u h => by rw [add_row, Nat.zero_add]; exact hq.cell h) (encD_one _) (by unfold maxLen; omega) (by omega) hs1
              exact g_valW rfl rfl (.slice A' (q + 1) c') w' (by simp only [execOp, resolve, invoke, builtin, List.map_toArray, List.map_cons, List.map_nil, e43, e46, Sem.run_bind, Sem.run_pure, hr, Result.andThen_ok]) ⟨A', c', rfl, h2⟩ ⟨hT, fun _ => hold, fun A2 d h => hnew A2 d h⟩
            · intro a1 w1 hG hF
              have e8 : a1.eval (.tmp 8) = .pointer (some ⟨g8, 0, none⟩) := hF.ol 8 (by kernel_rfl)
              exact gstep (fun _ h => NE.of_gr h) (s_is rfl (wants0 rfl) _ rfl (run_fieldR (o := 2) (k := 16) Tryz.underlying44 rfl rfl (by kernel_rfl) e8))
            · intro a1 w1 hG hF
              obtain ⟨_, e48, rfl⟩ := hF.dp 5 48 (by kernel_rfl)
              exact gstep (fun _ h => NE.of_gr h) (s_is rfl (wants0 rfl) _ rfl (run_fieldR (o := 16) (k := 0) Tryz.underlying42 rfl rfl (by kernel_rfl) e48))
            · intro a1 w1 hG hF
              obtain ⟨_, e49, rfl⟩ := hF.dp 6 49 (by kernel_rfl)
              exact gstep (fun _ h => NE.of_gr h) (s_is rfl (wants0 rfl) _ rfl (run_load1B (.inr (.inr (.inr (.inl ⟨_, Tryz.underlying26⟩)))) e49 (HR18.out w1 hG)))
          · intro vs w1 hG hf
            have y47 : NewE 39 2 B1 (q + 1) (RL.flatMap encD ++ encD x.d) (vs 4) w1 := hf.2.2.2.2.1
            have z50 : vs 7 = .slice x.M x.c.more.length x.cM := hf.2.2.2.2.2.2.2.1
            clear hf
            obtain ⟨A4, c4, hy47, ho4⟩ := y47
            simp only [List.take_succ_cons, List.take_zero, List.drop_succ_cons, List.drop_zero, putAll, Nat.zero_add, Nat.reduceAdd, hy47, z50]
            have hs1 : B1 ≤ w1.heap.size := Nat.le_trans hBs9 hG.tn.size
            have hBd : Below B1 wr w1 := (Below.refl B1 wr).drew.trans (hG.tn.below hBs9)
            have hG1 : Gr w w1 := Below.trans hGw (hBd.mono hwB)
            have hcells : CellsR w1 x.M (x.c.more.flatMap encD) := dots_cells (HSw.out.gr hG1).dots
            have hA51 : Arr w1 g5 42 (ctxC ⟨W, []⟩ none 0 0) := HA58.out.below hBd hg5B
            have hA21 : Arr w1 g2 42 (ctxC ctx0 none 0 0) := hA28r.below hBd hg2B
            have hrl2 : restL (L.take (k + 1)) = RL ++ (x.d :: x.c.more) := by rw [HTake.out, restL_snoc, hrl]
            have HRL2 := Lib.hid hrl2
            have hmb : q + 1 + x.c.more.length ≤ 4000 := by omega
            clear hG hy47 z50 hrl hrl2 HR8 HR18 hlt9
            refine wpList_appK w1 rfl (.tmp 47) (.tmp 50) 26 rfl B1 39 iD zD 2 16 Tryz.underlying26 hiD hz0 hz1 hz2 hz3 (by omega) (.slice A4 (q + 1) c4) (q + 1) _ (by kernel_rfl) ho4 x.M x.c.more.length x.cM (x.c.more.flatMap encD) (by kernel_rfl) (dots_len _) hcells (dots_one _) (by omega) (by unfold maxLen; omega) hs1 ?_
            intro v6 w6 ho6 hB6
            obtain ⟨A6, c6, rfl⟩ := own_slice ho6
            have HREL : Hid (SeenR L B1 g2 g5 n w (.slice A6 (q + 1 + x.c.more.length) c6) (.int .i64 ((k + 1 : Nat) : Int)) w6) := Lib.hid ⟨⟨k + 1, W, A6, q + 1 + x.c.more.length, c6, hlt, rfl, rfl, HUp.out, hA51.below hB6 hg5B, hA21.below hB6 hg2B, by
              rw [HRL2.out, List.length_append, HQl.out, List.length_cons]
              omega, by
              unfold OwnD
              rw [HRL2.out, List.flatMap_append, List.flatMap_cons, ← List.append_assoc]
              exact ho6, Below.trans hG1 (hB6.mono hwB), Nat.le_trans hs1 hB6.size⟩⟩
            clear ho6 ho4 hB6 hA51 hA21 hG1 hBd hs1 hcells HRL2 HUp HQl HTake HSr HSw HA58 hA28r hGw hBs9 HO9
            generalize q + 1 + x.c.more.length = q6 at HREL ⊢
            unfold wpList
            go_simp
            try refine .inl ?_
            unfold wpList
            go_simp
            go_wp2_with fail
            exact ⟨by rw [show (k : Int) + 1 = ((k + 1 : Nat) : Int) by omega]; exact HREL.out, by simp [intOf]; omega⟩
    · have hki : ¬ (k : Int) < (n : Int) := by omega
      have HU2 : Hid (UpIs L U) := Lib.hid (by
        have := HU.out
        rwa [List.take_of_length_le (by rw [HLen.out]; omega)] at this)
      have hrl : restL (L.take k) = restL L := by rw [List.take_of_length_le (by rw [HLen.out]; omega)]
      rw [hrl] at HQl HOwn
      have HSo := Lib.hid (sort3_any HOwn.out HQl.out (by omega))
      have hfar := own_far5 HOwn.out
      have HFar := Lib.hid hfar
      clear HU hrl hk hlt HC HOwn hfar
      go_upto_region 17 with (go_at_call 32; refine HSo.out.mono ?_; rintro e w5 ⟨rfl, R, hperm, hdots, hB5⟩)
      have hA55 := hA5.below hB5 hg5B
      have hA25 := hA2.below hB5 hg2B
      have hGw5 : Gr w w5 := Below.trans hB (hB5.mono hwB)
      have hBs5 := Nat.le_trans hBs hB5.size
      have HPerm := Lib.hid hperm
      have HDots := Lib.hid hdots
      have HRl : Hid (R.length = q) := Lib.hid hdots.1
      have HRr : Hid (∀ d ∈ R, rightD d) := Lib.hid (fun d hd => by
        have h1 := hperm.mem_iff.1 hd
        unfold restL at h1
        obtain ⟨x, hx, h2⟩ := List.mem_flatMap.1 h1
        rcases List.mem_cons.1 h2 with h3 | h3
        · rw [h3]
          exact (HOk.out x hx).2
        · exact ((HOk.out x hx).1.right d h3).1)
      clear HSo hperm hdots hB5 hA5 hA2 hB hBs
      go_wp2_with fail
      go_simp
      go_loopw [57] (fun i wr => SeenL U R w5.heap.size g5 q w5 i wr) (fun i _ => q - (intOf i).toNat)
      case atStart => exact ⟨⟨0, ⟨U, []⟩, none, 0, 0, Nat.zero_le _, rfl, rfl, SAt.start HU2.out, hA55, OwnD.nil _ _, InK.refl _ _⟩⟩
      case round =>
        obtain ⟨k3, c3, M, m, cM, hk3, rfl, hm, hsat, hA5, hown, hK⟩ := hrel.ex
        have HM := Lib.hid hm
        have HSat := Lib.hid hsat
        have HOwn := Lib.hid hown
        have hl16 := hsat.ok.len
        have hl17 := ctxC_length hl16 M m cM
        clear hrel hm hsat hown
        by_cases hlt : k3 < q
        · have hki3 : (k3 : Int) < (q : Int) := by omega
          obtain ⟨d, hd⟩ : ∃ d, R[k3]? = some d := ⟨_, List.getElem?_eq_getElem (by rw [HRl.out]; exact hlt)⟩
          have hdr := HRr.out d (List.mem_of_getElem? hd)
          obtain ⟨hd1, hd2, hd3, hd4⟩ := hdr
          obtain ⟨bD, oD, hAe, hr⟩ := (hK.dots HDots.out (fun ad e => by have := HFar.out ad e; omega)).2 k3 d hd
          have HTk : Hid (R.take (k3 + 1) = R.take k3 ++ [d]) := Lib.hid (take_snoc_ R k3 d hd)
          have HDr : Hid (rightD d) := Lib.hid ⟨hd1, hd2, hd3, hd4⟩
          obtain ⟨u, hu⟩ : ∃ u, u = upOf c3 d.1 := ⟨_, rfl⟩
          have hup := ctxC_up hl16 M m cM (k := d.1) ⟨hd1, hd2⟩
          rw [← hu] at hup
          have HUu := Lib.hid hu
          subst hAe
          obtain ⟨a, b⟩ := d
          simp only at hd1 hd2 hd3 hd4 hup
          clear hd hu
          go_upto_region 20 with first
            | (refine wpList_load_mid rfl _ _ rfl bD (oD + k3 * 2) rfl (encD (a, b)) _ hr Tryz.underlying39 rfl (infoDot _) ?_)
            | (refine wpList_new (w := wr) (t := 39) rfl _ _ _ rfl wr.heap.size (encD (a, b)) rfl rfl rfl rfl (infoDot _) (encD_one _) ?_; intro w8 hA8 hG8)
          have hG58 : InK g5 w5 w8 := hK.trans (InK.of_gr hG8)
          have hA58 := hA5.gr hG8
          have HOwn8 : Hid (OwnD w8 w5.heap.size M m cM c3.more) := Lib.hid (OwnD.gr HOwn.out hG8)
          have hg58 : g5 < wr.heap.size := hA5.lt
          have hs58 : w5.heap.size ≤ w8.heap.size := hG58.size
          obtain ⟨g12, hg12⟩ : ∃ g, g = wr.heap.size := ⟨_, rfl⟩
          rw [← hg12] at hA8 hg58
          simp only [← hg12]
          obtain ⟨k1, rfl⟩ : ∃ k1, a = k1 + 1 := ⟨a - 1, by omega⟩
          rw [Nat.add_sub_cancel] at hup
          have hcU := hA58.cell hup
          have hc12a := hA8.cell (i := 0) (v := .int .i64 ((k1 + 1 : Nat) : Int)) rfl
          have hc12b := hA8.cell (i := 1) (v := .int .i64 (b : Int)) rfl
          have hk16 : k1 < 16 := by omega
          have hki16 : (k1 : Int) < 16 := by omega
          have rA : IntKind.i64.wrap (k1 : Int) = (k1 : Int) := by rw [IntKind.wrap_i64]; omega
          have hc12a2 : w8.cell? ⟨g12, 0, none⟩ = some (.int .i64 ((k1 : Int) + 1)) := hc12a
          clear hg12 hr hG8 hA5 HOwn hK hc12a hd1 hd2 hup hg5w
          by_cases hle : b ≤ u
          · have hbu : (b : Int) ≤ (u : Int) := by omega
            have HSk : Hid (SAt U (R.take (k3 + 1)) c3) := Lib.hid (by
              rw [HTk.out]
              exact HSat.out.skip (by rw [← HUu.out]; exact hle))
            clear hle
            go_quiet (fail)
            have hGn : Gr w8 (w8.drewN nq) := below_dr ⟨_, rfl⟩
            generalize w8.drewN nq = w9 at hGn ⊢
            have HREL : Hid (SeenL U R w5.heap.size g5 q w5 (.int .i64 ((k3 + 1 : Nat) : Int)) w9) := Lib.hid ⟨⟨k3 + 1, c3, M, m, cM, hlt, rfl, HM.out, HSk.out, hA58.gr hGn, OwnD.gr HOwn8.out hGn, hG58.trans (InK.of_gr hGn)⟩⟩
            clear hA58 hcU hc12b hc12a2 hA8 HOwn8 hG58 HSat hGn
            go_wp2_with fail
            exact ⟨by rw [show (k3 : Int) + 1 = ((k3 + 1 : Nat) : Int) by omega]; exact HREL.out, by simp [intOf]; omega⟩
          · have hbu : ¬ (b : Int) ≤ (u : Int) := by omega
            clear hle
            go_quiet (fail)
            have hGn : Gr w8 (w8.drewN nq) := below_dr ⟨_, rfl⟩
            generalize w8.drewN nq = w9 at hGn ⊢
            have hG59 := hG58.trans (InK.of_gr hGn)
            have hA59 := hA58.gr hGn
            have hA12 := hA8.gr hGn
            have hO9 := OwnD.gr HOwn8.out hGn
            have hm31 : m + 1 ≤ 32 := by
              have h1 := HSat.out.few (D := D) (fun d hd => HD.out d (HPerm.out.mem_iff.1 (List.mem_of_mem_take hd)))
              rw [HM.out]
              omega
            have HAdd := Lib.hid (add_any (c := c3) (d := (k1 + 1, b)) (cM := cM) HSat.out.ok HDr.out hO9.dots hm31 hO9.nil0)
            have HT : Hid (∀ c6, Tidy c3.upto (c3.more ++ [(k1 + 1, b)]) c6 → SAt U (R.take (k3 + 1)) c6) := Lib.hid (fun c6 h6 => by
              rw [HTk.out]
              exact HSat.out.take HDr.out (by rw [← HM.out]; exact hm31) h6)
            have HI3 := Lib.hid (infoCtx hl16 M m cM)
            have HO9 := Lib.hid hO9
            have hs59 : w5.heap.size ≤ w9.heap.size := hG59.size
            clear hA58 hcU hc12b hc12a2 hA8 HOwn8 hG58 HSat hGn hO9 hm31
            go_upto_region 23 with first
              | (refine wpList_load_mid rfl _ _ rfl g5 0 rfl (ctxC c3 M m cM) _ (Arr.range hA59) Tryz.underlying42 rfl HI3.out ?_)
              | (refine wpList_load_mid rfl _ _ rfl g12 0 rfl (encD (k1 + 1, b)) _ (Arr.range hA12) Tryz.underlying39 rfl (infoDot _) ?_)
              | (go_at_call 36; refine HAdd.out.mono ?_; rintro e w6 ⟨c6, M6, m6, q6, rfl, hP6, hO6, hG6⟩; have hA56 := hA59.gr hG6; have hl6 := ctxC_length hP6.len M6 m6 q6; have HI6 := Lib.hid (infoCtx hP6.len M6 m6 q6); have ho6 := ctxC_one c6 M6 m6 q6; have HO6 := Lib.hid hO6; have HP6 := Lib.hid hP6; have hs6 := hG6.size; have hg56 := hA59.lt; have hG56 := hG59.trans (InK.of_gr hG6); clear hO6 hP6)
              | (refine wpList_putK hA56 rfl _ _ _ rfl (ctxC c6 M6 m6 q6) rfl rfl (by rw [hl6, hl17]) HI6.out ho6 ?_; intro w7 hA7 hK7)
            have HREL : Hid (SeenL U R w5.heap.size g5 q w5 (.int .i64 ((k3 + 1 : Nat) : Int)) w7) := Lib.hid ⟨⟨k3 + 1, c6, M6, m6, q6, hlt, rfl, HO6.out.len.symm, HT.out c6 HP6.out, hA7, own_base2 (hK7.own HO6.out hg56) hs59, hG56.trans hK7⟩⟩
            clear hA7 hK7 hG56 hG59 HT HAdd hA59 hA12 hA56 HO6 HP6 HI6 ho6 hG6 HO9
            go_wp2_with fail
            exact ⟨by rw [show (k3 : Int) + 1 = ((k3 + 1 : Nat) : Int) by omega]; exact HREL.out, by simp [intOf]; omega⟩
        · have hki3 : ¬ (k3 : Int) < (q : Int) := by omega
          have hA2r := hK.arr hA25 hne
          have HCov : Hid (OkC c3 ∧ ∀ d, rightD d → (hasC c3 d ↔ covS L d)) := Lib.hid ⟨HSat.out.ok, fun d hd => by
            have h1 := HSat.out
            rw [List.take_of_length_le (by rw [HRl.out]; omega)] at h1
            exact h1.cov HU2.out (fun e => HPerm.out.mem_iff) d hd⟩
          have HIc := Lib.hid (infoCtx hl16 M m cM)
          have HOwn9 : Hid (OwnD wr w.heap.size M c3.more.length cM c3.more) := Lib.hid (by
            have h1 := HOwn.out
            rw [HM.out] at h1
            exact own_base2 h1 hGw5.size)
          have hGe : Gr w wr := hK.gr_after hGw5 hg5w
          have hg2w : w.heap.size ≤ g2 := Nat.le_of_eq HG2.out.symm
          have HA5 := Lib.hid hA5
          clear hK HSat HOwn hlt hk3
          go_wp2_with first
            | (refine wpList_load_mid rfl _ _ rfl g5 0 rfl (ctxC c3 M m cM) _ (Arr.range HA5.out) Tryz.underlying42 rfl HIc.out ?_)
            | (refine wpList_put hA2r rfl _ _ _ rfl (ctxC c3 M m cM) rfl rfl (by rw [hl17]; rfl) HIc.out (ctxC_one c3 M m cM) ?_; intro w9 hA9 hB9 hoth)
          refine bodyPost_ret (results_cell_tmp rfl _ _ g2 _ _ _ _ rfl hA9 Tryz.underlying42 rfl (by have := HIc.out; simpa using this)) rfl ?_
          refine ⟨c3, M, m, cM, rfl, HCov.out, ?_, Below.trans hGe (hB9.mono hg2w)⟩
          rw [HM.out]
          exact own_keepT HOwn9.out hA2r (by decide) hoth
end Go.Proofs.YteckblffpidigaaGreatDoor
