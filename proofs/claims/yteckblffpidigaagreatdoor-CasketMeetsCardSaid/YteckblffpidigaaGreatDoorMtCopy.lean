/- The copy of a sibling. No condition. -/
import Derived.Test.YteckblffpidigaaGreatDoorMtSee
import Derived.Test.YteckblffpidigaaGreatDoorKitT
namespace Go.Proofs.YteckblffpidigaaGreatDoor
open Go.RowKit
/-- One block alone may turn. -/
structure InK (g : Nat) (w w' : World) : Prop where
  os : w'.os = w.os
  tape : w'.tape = w.tape
  output : w'.output = w.output
  size : w.heap.size ≤ w'.heap.size
  other : ∀ k, k < w.heap.size → k ≠ g → w'.heap[k]? = w.heap[k]?
theorem InK.refl (g : Nat) (w : World) : InK g w w := ⟨rfl, rfl, rfl, Nat.le_refl _, fun _ _ _ => rfl⟩
theorem InK.trans {g : Nat} {a b c : World} (h : InK g a b) (k : InK g b c) : InK g a c :=
  ⟨k.os.trans h.os, k.tape.trans h.tape, k.output.trans h.output, Nat.le_trans h.size k.size, fun i hi hg => (k.other i (Nat.lt_of_lt_of_le hi h.size) hg).trans (h.other i hi hg)⟩
theorem InK.of_gr {g : Nat} {a b : World} (h : Gr a b) : InK g a b := ⟨h.os, h.tape, h.output, h.size, fun i hi _ => h.block i hi⟩
theorem InK.set {g i : Nat} (u : Value) (w : World) : InK g w (w.setCell ⟨g, i, none⟩ u) := ⟨rfl, rfl, rfl, by simp, fun k _ hk => heap_setCell_other w ⟨g, i, none⟩ k u (by simp only; omega)⟩
theorem InK.arr {g b : Nat} {t : TypeId} {cs : List Value} {w w' : World} (h : InK g w w') (ha : Arr w b t cs) (hb : b ≠ g) : Arr w' b t cs := by
  have := h.other b ha.lt hb
  unfold Arr at ha ⊢
  rw [this]
  exact ha
theorem InK.rd {g n : Nat} {A : Option Addr} {xs : List Value} {w w' : World} (h : InK g w w') (hr : Rd w A n xs) (hf : ∀ ad, A = some ad → ad.block ≠ g) : Rd w' A n xs := by
  refine ⟨hr.1, fun j u hj => ?_⟩
  obtain ⟨ad, e, hc⟩ := hr.2 j u hj
  refine ⟨ad, e, ?_⟩
  have hlt : (ad.add j).block < w.heap.size := by
    rcases Nat.lt_or_ge (ad.add j).block w.heap.size with h' | h'
    · exact h'
    · simp [World.cell?, Array.getElem?_eq_none h'] at hc
  have hb : (ad.add j).block = ad.block := by unfold Addr.add; split <;> rfl
  exact (World.cell?_of_block (h.other _ hlt (by rw [hb]; exact hf ad e))).trans hc
theorem InK.own {g B : Nat} {e : TypeId} {size n : Nat} {v : Value} {xs : List Value} {w w' : World} (h : InK g w w') (ho : w.ownsRow B e size v n xs) (hg : g < B) : w'.ownsRow B e size v n xs := by
  refine ⟨ho.1, ?_⟩
  rcases ho.2 with h2 | ⟨b, cap, cur, e1, h1, h2, h3⟩
  · exact .inl h2
  · exact .inr ⟨b, cap, cur, e1, h1, by rw [h.other b (Array.getElem?_eq_some_iff.1 h2).1 (by omega)]; exact h2, h3⟩
theorem InK.gr_after {g : Nat} {a b c : World} (h : Gr a b) (k : InK g b c) (hg : a.heap.size ≤ g) : Gr a c :=
  ⟨k.os.trans h.os, k.tape.trans h.tape, k.output.trans h.output, Nat.le_trans h.size k.size, fun i hi => (k.other i (Nat.lt_of_lt_of_le hi h.size) (by omega)).trans (h.block i hi)⟩
/-- A sibling whose lists are its own. -/
structure SOwn (w : World) (B : Nat) (x : SibV) : Prop where
  right : rightD x.d
  ctx : OkC x.c
  fresh : ¬ hasC x.c x.d
  small : x.body.length ≤ 16384
  dots : OwnD w B x.M x.c.more.length x.cM x.c.more
  bytes : w.ownsRow B 5 1 (.slice x.Y x.body.length x.cY) x.body.length (u8s x.body)
  nilY : x.Y = none → x.cY = 0
theorem SOwn.ok {w : World} {B : Nat} {x : SibV} (h : SOwn w B x) : SOk w x :=
  ⟨h.right, h.ctx, h.fresh, h.small, h.dots.dots, h.dots.nil0, Rd.of_own h.bytes, h.nilY⟩
theorem SOwn.tn {τ : Nat → Obj → Bool} {C : Nat} {w w' : World} {B : Nat} {x : SibV} (h : SOwn w B x) (hT : Tn τ C w w') (h1 : ∀ k D f, τ k (.cells D 39 f) = false) (h2 : ∀ k D f, τ k (.cells D 5 f) = false) : SOwn w' B x :=
  ⟨h.right, h.ctx, h.fresh, h.small, own_tn h.dots hT h1, own_tn h.bytes hT h2, h.nilY⟩
theorem SOwn.gr {w w' : World} {B : Nat} {x : SibV} (h : SOwn w B x) (hG : Gr w w') : SOwn w' B x := h.tn (τ := fun _ _ => false) (C := 0) (Tn.of_gr hG) (fun _ _ _ => rfl) (fun _ _ _ => rfl)
theorem SOwn.down {w : World} {B B' : Nat} {x : SibV} (h : SOwn w B x) (hB : B' ≤ B) : SOwn w B' x :=
  ⟨h.right, h.ctx, h.fresh, h.small, own_base2 h.dots hB, own_base2 h.bytes hB, h.nilY⟩
/-- Two siblings that say the same. -/
def Like (x y : SibV) : Prop := x.d = y.d ∧ x.c = y.c ∧ x.body = y.body
theorem sibC_setM {x : SibV} (h : x.c.upto.length = 16) (M : Option Addr) (cM : Nat) : (sibC x).set 18 (.slice M x.c.more.length cM) = sibC { x with M := M, cM := cM } := by
  unfold sibC
  rw [List.set_append_right _ _ (by rw [encD_length]; omega), encD_length, List.set_append_left _ _ (by rw [ctxC_length h]; omega), ctxC_setMore h x.M M x.c.more.length x.cM x.c.more.length cM x.c.more]
theorem sibC_setY (x : SibV) (h : x.c.upto.length = 16) (Y : Option Addr) (cY : Nat) : (sibC x).set 19 (.slice Y x.body.length cY) = sibC { x with Y := Y, cY := cY } := by
  unfold sibC
  rw [List.set_append_right _ _ (by rw [encD_length]; omega), encD_length, List.set_append_right _ _ (by rw [ctxC_length h]; omega), ctxC_length h]
  rfl
theorem own_keep2 {w w9 : World} {B : Nat} {e t : TypeId} {size : Nat} {v : Value} {n g : Nat} {cs xs : List Value} (h : w.ownsRow B e size v n xs) (hA : Arr w g t cs) (hne : e ≠ t) (i : Nat) (u : Value) (hw : w9 = w.setCell ⟨g, i, none⟩ u) : w9.ownsRow B e size v n xs := by
  subst hw
  refine ⟨h.1, ?_⟩
  rcases h.2 with h2 | ⟨b, cap, cur, e1, h1, h2, h3⟩
  · exact .inl h2
  · have hb : b ≠ g := by
      rintro rfl
      rw [show w.heap[b]? = some (.cells cs.toArray t (0, 0)) from hA] at h2
      injection h2 with h2
      injection h2 with _ h2
      exact hne h2.symm
    exact .inr ⟨b, cap, cur, e1, h1, by rw [heap_setCell_other w ⟨g, i, none⟩ b u (by simp only; omega)]; exact h2, h3⟩
theorem own_keepT {w w9 : World} {B : Nat} {e t : TypeId} {size : Nat} {v : Value} {n g : Nat} {cs xs : List Value} (h : w.ownsRow B e size v n xs) (hA : Arr w g t cs) (hne : e ≠ t) (hoth : ∀ (b : Nat) (t' : TypeId) (cs' : List Value), b ≠ g → Arr w b t' cs' → Arr w9 b t' cs') : w9.ownsRow B e size v n xs := by
  refine ⟨h.1, ?_⟩
  rcases h.2 with h2 | ⟨b, cap, cur, e1, h1, h2, h3⟩
  · exact .inl h2
  · have hb : b ≠ g := by
      rintro rfl
      rw [show w.heap[b]? = some (.cells cs.toArray t (0, 0)) from hA] at h2
      injection h2 with h2
      injection h2 with _ h2
      exact hne h2.symm
    have hA9 := hoth b e cur.toList hb (by unfold Arr; simpa using h2)
    unfold Arr at hA9
    exact .inr ⟨b, cap, cur, e1, h1, by simpa using hA9, h3⟩
def CopyQ (x : SibV) (w : World) (e : Ending) (w' : World) : Prop := ∃ y, e = .returned (.agg (sibC y).toArray) ∧ Like x y ∧ SOwn w' w.heap.size y ∧ Gr w w'
def sib0 : SibV := ⟨(0, 0), ctx0, none, 0, [], none, 0⟩
set_option maxRecDepth 100000 in
set_option maxHeartbeats 4000000 in
theorem copied_any {x : SibV} {w : World} (hx : SOk w x) :
    Calls Tryz.prog 31 #[.agg (sibC x).toArray] w fun e w' => CopyQ x w e w' := by
  have hl16 := hx.ctx.len
  have HX := Lib.hid hx
  have H1 := Lib.hid (fun w1 (h : Gr w w1) => cloneD_any (c := x.cM) (hx.dots.gr h) (by have := hx.ctx.few; omega) hx.nil)
  have H2 := Lib.hid (fun w1 (h : Gr w w1) => bclone_any (c := x.cY) (by have := hx.small; omega) (h.rd hx.bytes) hx.nilY)
  have HI := Lib.hid (fun M c => infoSib (x := { x with M := M, cM := c }) hl16)
  obtain ⟨C, hC⟩ : ∃ C, C = sibC x := ⟨_, rfl⟩
  have hCl : C.length = 20 := by rw [hC]; exact sibC_length hl16
  have hA0 : Arr (w.alloc (.cells C.toArray 44)) w.heap.size 44 C := Arr.newAt rfl rfl
  have hG : Gr w (w.alloc (.cells C.toArray 44)) := Gr.alloc _ _
  have h18 : C[18]? = some (.slice x.M x.c.more.length x.cM) := by
    rw [hC]
    unfold sibC
    rw [List.getElem?_append_right (by rw [encD_length]; omega), encD_length, List.getElem?_append_left (by rw [ctxC_length hl16]; omega)]
    exact ctxC_more hl16 _ _ _
  have h19 : C[19]? = some (.slice x.Y x.body.length x.cY) := by
    rw [hC]
    unfold sibC
    rw [List.getElem?_append_right (by rw [encD_length]; omega), encD_length, List.getElem?_append_right (by rw [ctxC_length hl16]; omega), ctxC_length hl16]
    rfl
  rw [← hC]
  have HC := Lib.hid hC
  clear hx hC
  go_enter Tryz.func31, Tryz.ntmps31
  go_upto_region 1 with fail
  change Code.wp _ _ _ _ ((w.alloc (.cells C.toArray 44)).alloc (.cells (sibC sib0).toArray 44))
  obtain ⟨C0, hC0⟩ : ∃ C, C = sibC sib0 := ⟨_, rfl⟩
  have hC0l : C0.length = 20 := by rw [hC0]; rfl
  rw [← hC0]
  clear hC0
  have hsz : (w.alloc (.cells C.toArray 44)).heap.size = w.heap.size + 1 := Array.size_push _
  have hA3 : Arr ((w.alloc (.cells C.toArray 44)).alloc (.cells C0.toArray 44)) (w.heap.size + 1) 44 C0 := by rw [← hsz]; exact Arr.newAt rfl rfl
  have hGa : Gr (w.alloc (.cells C.toArray 44)) ((w.alloc (.cells C.toArray 44)).alloc (.cells C0.toArray 44)) := Gr.alloc _ _
  replace hA0 := hA0.gr hGa
  replace hG := hG.trans hGa
  clear hGa hsz
  generalize (w.alloc (.cells C.toArray 44)).alloc (.cells C0.toArray 44) = w0 at hA0 hA3 hG ⊢
  obtain ⟨g1, hg1⟩ : ∃ g, g = w.heap.size := ⟨_, rfl⟩
  rw [← hg1] at hA0 hA3 ⊢
  have HG1 := Lib.hid hg1
  have hc18 := hA0.cell (i := 18) h18
  have hg3l := hA3.lt
  have hsw := hG.size
  clear hg1
  go_upto_region 2 with first
    | (refine wpList_setSl hA0 rfl 26 (.tmp 8) (.tmp 6) rfl (by kernel_rfl) 18 rfl rfl (by rw [hCl]; omega) ?_; intro w2 hw2 hA2)
    | (go_at_call 61; refine (H1.out w0 hG).mono ?_; rintro e w1 ⟨A1, c1, rfl, hO1, _, hG1⟩; replace hA0 := hA0.gr hG1; replace hA3 := hA3.gr hG1; replace hG := hG.trans hG1; have HO1 := Lib.hid hO1; clear hO1)
  have hK2 : InK g1 w1 w2 := by rw [hw2]; exact InK.set _ _
  clear hw2
  have hG2 := hK2.gr_after hG (Nat.le_of_eq HG1.out.symm)
  have hsw2 := hG2.size
  have hA32 := hK2.arr hA3 (by omega)
  have hO2 := hK2.own HO1.out (by omega)
  have hg2l := hA32.lt
  have h192 : (C.set 18 (.slice A1 x.c.more.length c1))[19]? = some (.slice x.Y x.body.length x.cY) := by rw [List.getElem?_set_ne (by omega)]; exact h19
  have hc19 := hA2.cell (i := 19) h192
  go_upto_region 3 with first
    | (refine wpList_setSl hA2 rfl 31 (.tmp 12) (.tmp 11) rfl (by kernel_rfl) 19 rfl rfl (by rw [List.length_set, hCl]; omega) ?_; intro w4 hw4 hA4)
    | (go_at_call 53; refine (H2.out w2 hG2).mono ?_; rintro e w3 ⟨A3, c3, rfl, hO3, hn3, hG3⟩; replace hA2 := hA2.gr hG3; replace hA32 := hA32.gr hG3; replace hG2 := hG2.trans hG3; have HO3 := Lib.hid hO3; have HN3 := Lib.hid hn3; clear hO3 hn3; replace hO2 := OwnD.gr hO2 hG3)
  have hK4 : InK g1 w3 w4 := by rw [hw4]; exact InK.set _ _
  have hs23 := hG3.size
  clear hw4
  have hG4 := hK4.gr_after hG2 (Nat.le_of_eq HG1.out.symm)
  have hA34 := hK4.arr hA32 (by omega)
  have hO4 : OwnD w4 w0.heap.size A1 x.c.more.length c1 x.c.more := hK4.own hO2 (by omega)
  have hY4 := hK4.own HO3.out (by omega)
  obtain ⟨y, hy⟩ : ∃ y : SibV, y = { x with M := A1, cM := c1, Y := A3, cY := c3 } := ⟨_, rfl⟩
  have hCy : (C.set 18 (.slice A1 x.c.more.length c1)).set 19 (.slice A3 x.body.length c3) = sibC y := by
    rw [HC.out, sibC_setM hl16, hy]
    exact sibC_setY { x with M := A1, cM := c1 } hl16 A3 c3
  rw [hCy] at hA4
  have hyl : y.c.upto.length = 16 := by rw [hy]; exact hl16
  have HIy := Lib.hid (infoSib hyl)
  have hyc := sibC_length hyl
  have HL : Hid (Like x y) := Lib.hid (by rw [hy]; exact ⟨rfl, rfl, rfl⟩)
  have HS : Hid (SOwn w4 w.heap.size y) := Lib.hid (by
    have h := HX.out
    rw [hy]
    exact ⟨h.right, h.ctx, h.fresh, h.small, own_base2 hO4 hsw, own_base2 hY4 hsw2, HN3.out⟩)
  clear hO4 hY4 hCy hy hO2 HO1 HO3 HN3 HC
  go_wp2_with first
    | (refine wpList_load_mid rfl _ _ rfl g1 0 rfl (sibC y) _ (Arr.range hA4) Tryz.underlying44 rfl HIy.out ?_)
    | (refine wpList_put hA34 rfl _ _ _ rfl (sibC y) rfl rfl (by rw [hyc, hC0l]) HIy.out (sibC_one y) ?_; intro w5 hA5 hB5 hoth)
  refine bodyPost_ret (results_cell_row rfl _ _ (g1 + 1) _ _ _ _ rfl hA5 Tryz.underlying44 rfl (by have := HIy.out; simpa using this)) rfl ?_
  have hs := HS.out
  refine ⟨y, rfl, HL.out, ⟨hs.right, hs.ctx, hs.fresh, hs.small, own_keepT hs.dots hA34 (by decide) hoth, own_keepT hs.bytes hA34 (by decide) hoth, hs.nilY⟩, Below.trans hG4 (hB5.mono (by have := HG1.out; omega))⟩
end Go.Proofs.YteckblffpidigaaGreatDoor
