/- Texts of one proof, laid as one: part 11. No condition. -/
import Derived.Test.YtjpphldojbfpfaaGreatDoorZf03
import Derived.Test.YtjpphldojbfpfaaGreatDoorZf05
import Derived.Test.YtjpphldojbfpfaaGreatDoorZf10
namespace Go.Proofs.YtjpphldojbfpfaaGreatDoor
open Go.RowKit
structure InK (g : Nat) (w w' : World) : Prop where
  os : w'.os = w.os
  tape : w'.tape = w.tape
  output : w'.output = w.output
  size : w.heap.size ≤ w'.heap.size
  other : ∀ k, k < w.heap.size → k ≠ g → w'.heap[k]? = w.heap[k]?
theorem InK.trans {g : Nat} {a b c : World} (h : InK g a b) (k : InK g b c) : InK g a c :=
  ⟨k.os.trans h.os, k.tape.trans h.tape, k.output.trans h.output, Nat.le_trans h.size k.size, fun i hi hg => (k.other i (Nat.lt_of_lt_of_le hi h.size) hg).trans (h.other i hi hg)⟩
theorem InK.of_gr {g : Nat} {a b : World} (h : Gr a b) : InK g a b := ⟨h.os, h.tape, h.output, h.size, fun i hi _ => h.block i hi⟩
theorem InK.set {g i : Nat} (u : Value) (w : World) : InK g w (w.setCell ⟨g, i, none⟩ u) := ⟨rfl, rfl, rfl, by simp, fun k _ hk => heap_setCell_other w ⟨g, i, none⟩ k u (by simp only; omega)⟩
theorem InK.arr {g b : Nat} {t : TypeId} {cs : List Value} {w w' : World} (h : InK g w w') (ha : Arr w b t cs) (hb : b ≠ g) : Arr w' b t cs := by
  have := h.other b ha.lt hb; unfold Arr at ha ⊢; rw [this]; exact ha
theorem InK.rd {g n : Nat} {A : Option Addr} {xs : List Value} {w w' : World} (h : InK g w w') (hr : Rd w A n xs) (hf : ∀ ad, A = some ad → ad.block ≠ g) : Rd w' A n xs := by
  refine ⟨hr.1, fun j u hj => ?_⟩; obtain ⟨ad, e, hc⟩ := hr.2 j u hj; refine ⟨ad, e, ?_⟩
  have hlt : (ad.add j).block < w.heap.size := by
    rcases Nat.lt_or_ge (ad.add j).block w.heap.size with h' | h'
    · exact h'
    · simp [World.cell?, Array.getElem?_eq_none h'] at hc
  have hb : (ad.add j).block = ad.block := by unfold Addr.add; split <;> rfl
  exact (World.cell?_of_block (h.other _ hlt (by rw [hb]; exact hf ad e))).trans hc
theorem InK.own {g B : Nat} {e : TypeId} {size n : Nat} {v : Value} {xs : List Value} {w w' : World} (h : InK g w w') (ho : w.ownsRow B e size v n xs) (hg : g < B) : w'.ownsRow B e size v n xs := by
  refine ⟨ho.1, ?_⟩; rcases ho.2 with h2 | ⟨b, cap, cur, e1, h1, h2, h3⟩
  · exact .inl h2
  · exact .inr ⟨b, cap, cur, e1, h1, by rw [h.other b (Array.getElem?_eq_some_iff.1 h2).1 (by omega)]; exact h2, h3⟩
theorem InK.gr_after {g : Nat} {a b c : World} (h : Gr a b) (k : InK g b c) (hg : a.heap.size ≤ g) : Gr a c :=
  ⟨k.os.trans h.os, k.tape.trans h.tape, k.output.trans h.output, Nat.le_trans h.size k.size, fun i hi => (k.other i (Nat.lt_of_lt_of_le hi h.size) (by omega)).trans (h.block i hi)⟩
structure SOwn (w : World) (B : Nat) (x : SibV) : Prop where
  right : rightD x.d
  ctx : OkC x.c
  fresh : ¬ hasC x.c x.d
  small : x.body.length ≤ 16384
  dots : OwnD w B x.M x.c.more.length x.cM x.c.more
  bytes : w.ownsRow B 5 1 (.slice x.Y x.body.length x.cY) x.body.length (u8s x.body)
  nilY : x.Y = none → x.cY = 0
theorem SOwn.ok {w : World} {B : Nat} {x : SibV} (h : SOwn w B x) : SOk w x :=
  ⟨h.right, h.ctx, h.fresh, h.small, h.dots.dots, h.dots.nil0, Rd.of_own h.bytes, h.nilY⟩
theorem SOwn.tn {τ : Nat → Obj → Bool} {C : Nat} {w w' : World} {B : Nat} {x : SibV} (h : SOwn w B x) (hT : Tn τ C w w') (h1 : ∀ k D f, τ k (.cells D 38 f) = false) (h2 : ∀ k D f, τ k (.cells D 5 f) = false) : SOwn w' B x :=
  ⟨h.right, h.ctx, h.fresh, h.small, own_tn h.dots hT h1, own_tn h.bytes hT h2, h.nilY⟩
theorem SOwn.gr {w w' : World} {B : Nat} {x : SibV} (h : SOwn w B x) (hG : Gr w w') : SOwn w' B x := h.tn (τ := fun _ _ => false) (C := 0) (Tn.of_gr hG) (fun _ _ _ => rfl) (fun _ _ _ => rfl)
theorem SOwn.down {w : World} {B B' : Nat} {x : SibV} (h : SOwn w B x) (hB : B' ≤ B) : SOwn w B' x :=
  ⟨h.right, h.ctx, h.fresh, h.small, own_base2 h.dots hB, own_base2 h.bytes hB, h.nilY⟩
def Like (x y : SibV) : Prop := x.d = y.d ∧ x.c = y.c ∧ x.body = y.body
theorem sibC_setM {x : SibV} (h : x.c.upto.length = 16) (M : Option Addr) (cM : Nat) : (sibC x).set 18 (.slice M x.c.more.length cM) = sibC { x with M := M, cM := cM } := by
  unfold sibC; rw [List.set_append_right _ _ (by rw [encD_length]; omega), encD_length, List.set_append_left _ _ (by rw [ctxC_length h]; omega), ctxC_setMore h x.M M x.c.more.length x.cM x.c.more.length cM x.c.more]
theorem sibC_setY (x : SibV) (h : x.c.upto.length = 16) (Y : Option Addr) (cY : Nat) : (sibC x).set 19 (.slice Y x.body.length cY) = sibC { x with Y := Y, cY := cY } := by
  unfold sibC; rw [List.set_append_right _ _ (by rw [encD_length]; omega), encD_length, List.set_append_right _ _ (by rw [ctxC_length h]; omega), ctxC_length h]; rfl
theorem own_keep2 {w w9 : World} {B : Nat} {e t : TypeId} {size : Nat} {v : Value} {n g : Nat} {cs xs : List Value} (h : w.ownsRow B e size v n xs) (hA : Arr w g t cs) (hne : e ≠ t) (i : Nat) (u : Value) (hw : w9 = w.setCell ⟨g, i, none⟩ u) : w9.ownsRow B e size v n xs := by
  subst hw; refine ⟨h.1, ?_⟩; rcases h.2 with h2 | ⟨b, cap, cur, e1, h1, h2, h3⟩
  · exact .inl h2
  · have hb : b ≠ g := by
      rintro rfl; rw [show w.heap[b]? = some (.cells cs.toArray t (0, 0)) from hA] at h2; injection h2 with h2
      injection h2 with _ h2
      exact hne h2.symm
    exact .inr ⟨b, cap, cur, e1, h1, by rw [heap_setCell_other w ⟨g, i, none⟩ b u (by simp only; omega)]; exact h2, h3⟩
theorem own_keepT {w w9 : World} {B : Nat} {e t : TypeId} {size : Nat} {v : Value} {n g : Nat} {cs xs : List Value} (h : w.ownsRow B e size v n xs) (hA : Arr w g t cs) (hne : e ≠ t) (hoth : ∀ (b : Nat) (t' : TypeId) (cs' : List Value), b ≠ g → Arr w b t' cs' → Arr w9 b t' cs') : w9.ownsRow B e size v n xs := by
  refine ⟨h.1, ?_⟩; rcases h.2 with h2 | ⟨b, cap, cur, e1, h1, h2, h3⟩
  · exact .inl h2
  · have hb : b ≠ g := by
      rintro rfl; rw [show w.heap[b]? = some (.cells cs.toArray t (0, 0)) from hA] at h2; injection h2 with h2
      injection h2 with _ h2
      exact hne h2.symm
    have hA9 := hoth b e cur.toList hb (by unfold Arr; simpa using h2); unfold Arr at hA9; exact .inr ⟨b, cap, cur, e1, h1, by simpa using hA9, h3⟩
def CopyQ (x : SibV) (w : World) (e : Ending) (w' : World) : Prop := ∃ y, e = .returned (.agg (sibC y).toArray) ∧ Like x y ∧ SOwn w' w.heap.size y ∧ Gr w w'
def sib0 : SibV := ⟨(0, 0), ctx0, none, 0, [], none, 0⟩
set_option maxRecDepth 100000 in
set_option maxHeartbeats 4000000 in
theorem copied_any {x : SibV} {w : World} (hx : SOk w x) :
    Calls Tryz.prog 66 #[.agg (sibC x).toArray] w fun e w' => CopyQ x w e w' := by
  have hl16 := hx.ctx.len; have HX := Lib.hid hx; have H1 := Lib.hid (fun w1 (h : Gr w w1) => cloneD_any (c := x.cM) (hx.dots.gr h) (by have := hx.ctx.few; omega) hx.nil); have H2 := Lib.hid (fun w1 (h : Gr w w1) => bclone_any (c := x.cY) (by have := hx.small; omega) (h.rd hx.bytes) hx.nilY); have HI := Lib.hid (fun M c => infoSib (x := { x with M := M, cM := c }) hl16); obtain ⟨C, hC⟩ : ∃ C, C = sibC x := ⟨_, rfl⟩; have hCl : C.length = 20 := by rw [hC]; exact sibC_length hl16
  have hA0 : Arr (w.alloc (.cells C.toArray 45)) w.heap.size 45 C := Arr.newAt rfl rfl; have hG : Gr w (w.alloc (.cells C.toArray 45)) := Gr.alloc _ _
  have h18 : C[18]? = some (.slice x.M x.c.more.length x.cM) := by
    rw [hC]; unfold sibC; rw [List.getElem?_append_right (by rw [encD_length]; omega), encD_length, List.getElem?_append_left (by rw [ctxC_length hl16]; omega)]; exact ctxC_more hl16 _ _ _
  have h19 : C[19]? = some (.slice x.Y x.body.length x.cY) := by
    rw [hC]; unfold sibC; rw [List.getElem?_append_right (by rw [encD_length]; omega), encD_length, List.getElem?_append_right (by rw [ctxC_length hl16]; omega), ctxC_length hl16]; rfl
  rw [← hC]; have HC := Lib.hid hC; clear hx hC
  go_enter Tryz.func66, Tryz.ntmps66
  go_upto_region 1 with fail
  change Code.wp _ _ _ _ ((w.alloc (.cells C.toArray 45)).alloc (.cells (sibC sib0).toArray 45)); obtain ⟨C0, hC0⟩ : ∃ C, C = sibC sib0 := ⟨_, rfl⟩; have hC0l : C0.length = 20 := by rw [hC0]; rfl
  rw [← hC0]; clear hC0; have hsz : (w.alloc (.cells C.toArray 45)).heap.size = w.heap.size + 1 := Array.size_push _; have hA3 : Arr ((w.alloc (.cells C.toArray 45)).alloc (.cells C0.toArray 45)) (w.heap.size + 1) 45 C0 := by rw [← hsz]; exact Arr.newAt rfl rfl
  have hGa : Gr (w.alloc (.cells C.toArray 45)) ((w.alloc (.cells C.toArray 45)).alloc (.cells C0.toArray 45)) := Gr.alloc _ _
  replace hA0 := hA0.gr hGa
  replace hG := hG.trans hGa
  clear hGa hsz; generalize (w.alloc (.cells C.toArray 45)).alloc (.cells C0.toArray 45) = w0 at hA0 hA3 hG ⊢; obtain ⟨g1, hg1⟩ : ∃ g, g = w.heap.size := ⟨_, rfl⟩; rw [← hg1] at hA0 hA3 ⊢; have HG1 := Lib.hid hg1; have hc18 := hA0.cell (i := 18) h18; have hg3l := hA3.lt; have hsw := hG.size; clear hg1
  go_upto_region 2 with first
    | (refine wpList_setSl hA0 rfl 40 (.tmp 8) (.tmp 6) rfl (by kernel_rfl) 18 rfl rfl (by rw [hCl]; omega) ?_; intro w2 hw2 hA2)
    | (go_at_call 115; refine (H1.out w0 hG).mono ?_; rintro e w1 ⟨A1, c1, rfl, hO1, _, hG1⟩; replace hA0 := hA0.gr hG1; replace hA3 := hA3.gr hG1; replace hG := hG.trans hG1; have HO1 := Lib.hid hO1; clear hO1)
  have hK2 : InK g1 w1 w2 := by rw [hw2]; exact InK.set _ _
  clear hw2; have hG2 := hK2.gr_after hG (Nat.le_of_eq HG1.out.symm); have hsw2 := hG2.size; have hA32 := hK2.arr hA3 (by omega); have hO2 := hK2.own HO1.out (by omega); have hg2l := hA32.lt; have h192 : (C.set 18 (.slice A1 x.c.more.length c1))[19]? = some (.slice x.Y x.body.length x.cY) := by rw [List.getElem?_set_ne (by omega)]; exact h19
  have hc19 := hA2.cell (i := 19) h192
  go_upto_region 3 with first
    | (refine wpList_setSl hA2 rfl 43 (.tmp 12) (.tmp 11) rfl (by kernel_rfl) 19 rfl rfl (by rw [List.length_set, hCl]; omega) ?_; intro w4 hw4 hA4)
    | (go_at_call 79; refine (H2.out w2 hG2).mono ?_; rintro e w3 ⟨A3, c3, rfl, hO3, hn3, hG3⟩; replace hA2 := hA2.gr hG3; replace hA32 := hA32.gr hG3; replace hG2 := hG2.trans hG3; have HO3 := Lib.hid hO3; have HN3 := Lib.hid hn3; clear hO3 hn3; replace hO2 := OwnD.gr hO2 hG3)
  have hK4 : InK g1 w3 w4 := by rw [hw4]; exact InK.set _ _
  have hs23 := hG3.size; clear hw4; have hG4 := hK4.gr_after hG2 (Nat.le_of_eq HG1.out.symm); have hA34 := hK4.arr hA32 (by omega); have hO4 : OwnD w4 w0.heap.size A1 x.c.more.length c1 x.c.more := hK4.own hO2 (by omega); have hY4 := hK4.own HO3.out (by omega); obtain ⟨y, hy⟩ : ∃ y : SibV, y = { x with M := A1, cM := c1, Y := A3, cY := c3 } := ⟨_, rfl⟩
  have hCy : (C.set 18 (.slice A1 x.c.more.length c1)).set 19 (.slice A3 x.body.length c3) = sibC y := by
    rw [HC.out, sibC_setM hl16, hy]; exact sibC_setY { x with M := A1, cM := c1 } hl16 A3 c3
  rw [hCy] at hA4; have hyl : y.c.upto.length = 16 := by rw [hy]; exact hl16
  have HIy := Lib.hid (infoSib hyl); have hyc := sibC_length hyl; have HL : Hid (Like x y) := Lib.hid (by rw [hy]; exact ⟨rfl, rfl, rfl⟩)
  have HS : Hid (SOwn w4 w.heap.size y) := Lib.hid (by
    have h := HX.out; rw [hy]; exact ⟨h.right, h.ctx, h.fresh, h.small, own_base2 hO4 hsw, own_base2 hY4 hsw2, HN3.out⟩)
  clear hO4 hY4 hCy hy hO2 HO1 HO3 HN3 HC
  go_wp2_with first
    | (refine wpList_load_mid rfl _ _ rfl g1 0 rfl (sibC y) _ (Arr.range hA4) Tryz.underlying45 rfl HIy.out ?_)
    | (refine wpList_put hA34 rfl _ _ _ rfl (sibC y) rfl rfl (by rw [hyc, hC0l]) HIy.out (sibC_one y) ?_; intro w5 hA5 hB5 hoth)
  refine bodyPost_ret (results_cell_row rfl _ _ (g1 + 1) _ _ _ _ rfl hA5 Tryz.underlying45 rfl (by have := HIy.out; simpa using this)) rfl ?_; have hs := HS.out; refine ⟨y, rfl, HL.out, ⟨hs.right, hs.ctx, hs.fresh, hs.small, own_keepT hs.dots hA34 (by decide) hoth, own_keepT hs.bytes hA34 (by decide) hoth, hs.nilY⟩, Below.trans hG4 (hB5.mono (by have := HG1.out; omega))⟩
end Go.Proofs.YtjpphldojbfpfaaGreatDoor
namespace Go.Proofs.YtjpphldojbfpfaaGreatDoor
open Go.RowKit
structure InS (S : Nat → Prop) (w w' : World) : Prop where
  os : w'.os = w.os
  tape : w'.tape = w.tape
  output : w'.output = w.output
  size : w.heap.size ≤ w'.heap.size
  other : ∀ k, k < w.heap.size → ¬ S k → w'.heap[k]? = w.heap[k]?
section
variable {S T : Nat → Prop} {w w' a b c : World}
theorem InS.refl (S : Nat → Prop) (w : World) : InS S w w := ⟨rfl, rfl, rfl, Nat.le_refl _, fun _ _ _ => rfl⟩
theorem InS.trans (h : InS S a b) (k : InS S b c) : InS S a c :=
  ⟨k.os.trans h.os, k.tape.trans h.tape, k.output.trans h.output, Nat.le_trans h.size k.size, fun i hi hg => (k.other i (Nat.lt_of_lt_of_le hi h.size) hg).trans (h.other i hi hg)⟩
theorem InS.of_gr (h : Gr a b) : InS S a b := ⟨h.os, h.tape, h.output, h.size, fun i hi _ => h.block i hi⟩
theorem InS.gr (h : InS S a b) (k : Gr b c) : InS S a c := h.trans (InS.of_gr k)
theorem InS.of_ink {g : Nat} (h : InK g a b) (hg : S g) : InS S a b := ⟨h.os, h.tape, h.output, h.size, fun i hi hn => h.other i hi fun e => hn (e ▸ hg)⟩
theorem InS.wide (h : InS S a b) (k : ∀ i, S i → T i) : InS T a b := ⟨h.os, h.tape, h.output, h.size, fun i hi hn => h.other i hi fun e => hn (k i e)⟩
theorem InS.after (h : InS S a b) (k : InS T b c) (hT : ∀ i, i < a.heap.size → T i → S i) : InS S a c :=
  ⟨k.os.trans h.os, k.tape.trans h.tape, k.output.trans h.output, Nat.le_trans h.size k.size, fun i hi hn => (k.other i (Nat.lt_of_lt_of_le hi h.size) fun e => hn (hT i hi e)).trans (h.other i hi hn)⟩
theorem InS.gr_after (h : Gr a b) (k : InS T b c) (hT : ∀ i, i < a.heap.size → ¬ T i) : Gr a c :=
  ⟨k.os.trans h.os, k.tape.trans h.tape, k.output.trans h.output, Nat.le_trans h.size k.size, fun i hi => (k.other i (Nat.lt_of_lt_of_le hi h.size) (hT i hi)).trans (h.block i hi)⟩
theorem InS.same {k : Nat} {o : Obj} (h : InS S w w') (ho : w.heap[k]? = some o) (hk : ¬ S k) : w'.heap[k]? = some o := (h.other k (Array.getElem?_eq_some_iff.1 ho).1 hk).trans ho
theorem InS.arr {g : Nat} {t : TypeId} {cs : List Value} (h : InS S w w') (ha : Arr w g t cs) (hg : ¬ S g) : Arr w' g t cs := by
  have := h.other g ha.lt hg; unfold Arr at ha ⊢; rw [this]; exact ha
theorem InS.cell {p : Addr} {v : Value} (h : InS S w w') (hc : w.cell? p = some v) (hp : ¬ S p.block) : w'.cell? p = some v :=
  (World.cell?_of_block (h.other p.block (lt_of_cell hc) hp)).trans hc
theorem InS.rd {n : Nat} {A : Option Addr} {xs : List Value} (h : InS S w w') (hr : Rd w A n xs) (hf : ∀ ad, A = some ad → ¬ S ad.block) : Rd w' A n xs := by
  refine ⟨hr.1, fun j u hj => ?_⟩; obtain ⟨ad, e, hc⟩ := hr.2 j u hj; exact ⟨ad, e, h.cell hc (by rw [add_block]; exact hf ad e)⟩
theorem InS.own {B n c size : Nat} {A : Option Addr} {e : TypeId} {xs : List Value} (h : InS S w w') (ho : w.ownsRow B e size (.slice A n c) n xs) (hf : ∀ ad, A = some ad → ¬ S ad.block) : w'.ownsRow B e size (.slice A n c) n xs := by
  refine ⟨ho.1, ?_⟩; rcases ho.2 with hn | ⟨g, cap, cur, e1, hb, hg, r⟩
  · exact .inl hn
  · injection e1 with e1 e2 e3
    refine .inr ⟨g, cap, cur, by rw [e1, e3], hb, ?_, r⟩; exact h.same hg (hf ⟨g, 0, none⟩ e1)
theorem InS.of_tn {B : Nat} {A : Option Addr} {e : TypeId} (h : Tn (blkT A e) B w w') : InS (fun k => ∃ ad, A = some ad ∧ ad.block = k) w w' :=
  ⟨h.os, h.tape, h.output, h.size, fun i hi hn => h.block i hi (.inr (by
    cases hw : w.heap[i]? with
    | none => rfl
    | some o => exact blkT_far (fun ad e q => hn ⟨ad, e, q⟩) _))⟩
end
theorem own_downS {w : World} {b b' : Nat} {e : TypeId} {size n : Nat} {v : Value} {xs : List Value} (h : w.ownsRow b e size v n xs) (hb : b' ≤ b) : w.ownsRow b' e size v n xs := by
  rcases h with ⟨h1, h2 | ⟨g, cap, cur, e1, e2, e3⟩⟩
  · exact ⟨h1, .inl h2⟩
  · exact ⟨h1, .inr ⟨g, cap, cur, e1, by omega, e3⟩⟩
end Go.Proofs.YtjpphldojbfpfaaGreatDoor
namespace Go.Proofs.YtjpphldojbfpfaaGreatDoor
open Go.RowKit
open Go.Maps (Keyed)
open Go.ChangeMaps (setBlock)
structure Nam where
  z : Int
  k : Nm
  ok : (Lit.int .i64 z).wf = true
theorem Nam.ext' {x y : Nam} (h1 : x.z = y.z) (h2 : x.k = y.k) : x = y := by
  obtain ⟨a, b, c⟩ := x; obtain ⟨d, e, f⟩ := y; simp only at h1 h2; subst h1 h2; rfl
instance : DecidableEq Nam := fun x y => if h : x.z = y.z ∧ x.k = y.k then isTrue (Nam.ext' h.1 h.2) else isFalse fun e => h ⟨by rw [e], by rw [e]⟩
def nameC (x : Nam) : List Value := .int .i64 x.z :: u8s x.k.1
def nameV (x : Nam) : Value := .agg (nameC x).toArray
theorem nameC_len (x : Nam) : (nameC x).length = 33 := by rw [nameC, List.length_cons, u8s_length, x.k.2]
theorem nameC_one (x : Nam) : ∀ u ∈ nameC x, u.oneCell' = true := fun u hu => by
  rcases List.mem_cons.1 hu with rfl | h
  · rfl
  · exact u8s_oneCell _ u h
theorem nameV_inj {x y : Nam} (h : nameV x = nameV y) : x = y := by
  unfold nameV nameC at h; injection h with h
  have h := congrArg Array.toList h; simp only [List.cons.injEq, Value.int.injEq, true_and] at h; exact Nam.ext' h.1 (Subtype.ext (u8s_inj h.2))
theorem keyedN : Keyed Tryz.prog 69 := Keyed.of_law (deep_law_laid laidOutM (m := 3) (by omega) (of_decide_eq_true (by kernel_rfl)) (by kernel_rfl) (by rw [Tryz.underlying69]))
def nLit (x : Nam) : Lit := .string (keyBytes (.int .i64 x.z :: keyL x.k.1))
set_option maxRecDepth 100000 in
theorem lits_name (x : Nam) (d : Nat) : Tryz.prog.keyLits (d + 3) 69 (nameC x) = some (.int .i64 x.z :: keyL x.k.1) := by
  have hc : Tryz.prog.cellsOf 69 = 33 := by kernel_rfl
  have hc1 : Tryz.prog.cellsOf 3 = 1 := by kernel_rfl
  have hc2 : Tryz.prog.cellsOf 36 = 32 := by kernel_rfl
  have hi : Tryz.prog.keyLits (d + 2) 3 [.int .i64 x.z] = some [.int .i64 x.z] := by
    unfold Program.keyLits; rw [Tryz.underlying3]; simp [x.ok]
  have hb := lits_blind x.k.2 d; unfold Program.keyLits; rw [Tryz.underlying69]; simp only [hc, nameC_len]; rw [if_pos ⟨trivial, by kernel_rfl⟩]; simp only [List.mapM_cons, List.mapM_nil, hc1, hc2, nameC, List.drop_zero, List.take_succ_cons, List.take_zero, List.drop_succ_cons, hi, List.take_of_length_le (show (u8s x.k.1).length ≤ 32 by rw [u8s_length, x.k.2]; omega), hb]; simp
set_option maxRecDepth 100000 in
theorem keyOf_name (x : Nam) : keyOf Tryz.prog 69 (nameV x) = some (nLit x) := by
  have hkt : Tryz.prog.keyType 69 = true := by kernel_rfl
  have hc : Tryz.prog.cellsOf 69 = 33 := by kernel_rfl
  obtain ⟨D, hD⟩ : ∃ D, Tryz.prog.types.size + 1 = D + 3 := ⟨Tryz.prog.types.size - 2, by have : 2 ≤ Tryz.prog.types.size := of_decide_eq_true (by kernel_rfl); omega⟩; have hf : (nameV x).formed Tryz.prog 69 = true := by simp [nameV, Value.formed, Tryz.underlying69, hc, nameC_len]
  unfold keyOf; rw [Tryz.underlying69]; simp only [hkt, hf, hD, Bool.and_self, if_true]; have h := lits_name x D; show Option.map _ (Tryz.prog.keyLits (D + 3) 69 (nameV x).cells.toList) = _; rw [show (nameV x).cells.toList = nameC x by simp [nameV, Value.cells], h]; rfl
set_option maxRecDepth 100000 in
theorem lits_blind_inv {cs : List Value} {d : Nat} {r : List Lit} (h : Tryz.prog.keyLits (d + 2) 36 cs = some r) : ∃ k : List UInt8, k.length = 32 ∧ cs = u8s k := by
  have hc : Tryz.prog.cellsOf 36 = 32 := by kernel_rfl
  have hc1 : Tryz.prog.cellsOf 5 = 1 := by kernel_rfl
  unfold Program.keyLits at h; rw [Tryz.underlying36] at h; simp only [hc, hc1] at h; split at h
  · rename_i hlen
    obtain ⟨r, hr, _⟩ := Option.map_eq_some_iff.1 h; have each := mapM_each hr
    have hval : ∀ i, i < 32 → ∃ b : UInt8, cs[i]? = some (.int .u8 (b.toNat : Int)) := fun i hi => by
      obtain ⟨y, hy⟩ := each i (by simpa using hi); have hx := List.getElem?_eq_getElem (show i < cs.length by omega); rw [cutOne hx] at hy; unfold Program.keyLits at hy; rw [Tryz.underlying5] at hy; generalize cs[i]'(by omega) = x at hx hy; cases x with
      | int q z =>
        simp only at hy; split at hy
        · rename_i hw
          obtain ⟨rfl, hw⟩ := hw; obtain ⟨b, rfl⟩ := u8_of_wf hw; exact ⟨b, hx⟩
        · cases hy
      | _ => simp at hy
    have key : ∀ n, n ≤ 32 → ∃ k : List UInt8, k.length = n ∧ cs.take n = u8s k := by
      intro n
      induction n with
      | zero => intro _; exact ⟨[], rfl, rfl⟩
      | succ n ih =>
        intro hn; obtain ⟨k, h1, h2⟩ := ih (by omega); obtain ⟨b, hb⟩ := hval n (by omega); refine ⟨k ++ [b], by simp [h1], ?_⟩; rw [List.take_add_one, hb, h2]; simp [u8s]
    obtain ⟨k, h1, h2⟩ := key 32 (Nat.le_refl _); exact ⟨k, h1, by rw [← h2, List.take_of_length_le (by omega)]⟩
  · cases h
set_option maxRecDepth 100000 in
theorem keyOf_name_inv {v : Value} {kl : Lit} (h : keyOf Tryz.prog 69 v = some kl) : ∃ x : Nam, v = nameV x ∧ kl = nLit x := by
  have hc : Tryz.prog.cellsOf 69 = 33 := by kernel_rfl
  have hc1 : Tryz.prog.cellsOf 3 = 1 := by kernel_rfl
  have hc2 : Tryz.prog.cellsOf 36 = 32 := by kernel_rfl
  obtain ⟨D, hD⟩ : ∃ D, Tryz.prog.types.size + 1 = D + 3 := ⟨Tryz.prog.types.size - 2, by have : 2 ≤ Tryz.prog.types.size := of_decide_eq_true (by kernel_rfl); omega⟩; have h0 := h; unfold keyOf at h; rw [Tryz.underlying69] at h; simp only at h; split at h
  · rename_i hcond
    rw [Bool.and_eq_true] at hcond
    obtain ⟨cs, rfl, hcs⟩ : ∃ cs, v = .agg cs ∧ cs.size = 33 := by
      have hf := hcond.2; cases v <;> simp [Value.formed, Tryz.underlying69, hc] at hf; exact ⟨_, rfl, hf⟩
    rw [hD] at h; obtain ⟨ls, hls, _⟩ := Option.map_eq_some_iff.1 h; have hcl : (Value.agg cs).cells.toList = cs.toList := by simp [Value.cells]
    rw [hcl] at hls; unfold Program.keyLits at hls; rw [Tryz.underlying69] at hls; simp only [hc] at hls; have hlen : cs.toList.length = 33 := by simpa using hcs
    rw [if_pos ⟨hlen, by kernel_rfl⟩] at hls; obtain ⟨r, hr, _⟩ := Option.map_eq_some_iff.1 hls; have each := mapM_each hr; obtain ⟨y1, hy1⟩ := each _ (List.mem_cons_self ..); obtain ⟨y2, hy2⟩ := each _ (List.mem_cons_of_mem _ (List.mem_cons_self ..)); simp only [hc1, hc2, List.drop_zero] at hy1 hy2
    match hcv : cs.toList, hlen with
    | c0 :: rest, hlen =>
      rw [hcv] at hy1 hy2; simp only [List.take_succ_cons, List.take_zero, List.drop_succ_cons, List.drop_zero] at hy1 hy2; have hrl : rest.length = 32 := by simpa using hlen
      rw [List.take_of_length_le (by omega)] at hy2; obtain ⟨k, hk1, hk2⟩ := lits_blind_inv hy2; unfold Program.keyLits at hy1; rw [Tryz.underlying3] at hy1; cases c0 with
      | int q z =>
        simp only at hy1; split at hy1
        · rename_i hw
          obtain ⟨rfl, hw⟩ := hw
          have hv : Value.agg cs = nameV ⟨z, ⟨k, hk1⟩, hw⟩ := by
            unfold nameV nameC; rw [← hk2, ← hcv]
          refine ⟨⟨z, ⟨k, hk1⟩, hw⟩, hv, ?_⟩; rw [hv, keyOf_name] at h0; exact (Option.some.inj h0).symm
        · cases hy1
      | _ => simp at hy1
  · cases h
theorem nLit_inj {x y : Nam} (h : nLit x = nLit y) : x = y := by
  have h1 := keyOf_name x; have h2 := keyOf_name y; rw [← h] at h2; exact nameV_inj (keyedN.inj h1 h2)
abbrev SlA := Option (Nat × Nat) × Nat × Nat
def slV : SlA → Value
  | (none, n, c) => .slice none n c
  | (some (b, o), n, c) => .slice (some ⟨b, o, none⟩) n c
def slD : SlA → DataW Unit
  | (none, n, c) => .agg [.lit (.int .i64 (n : Int)), .lit (.int .i64 (c : Int))]
  | (some (b, o), n, c) => .agg [.lit (.int .i64 (n : Int)), .lit (.int .i64 (c : Int)), .lit (.int .i64 (b : Int)), .lit (.int .i64 (o : Int))]
def RSl : Value → Option (DataW Unit × List MemPlace)
  | .slice none n c => some (slD (none, n, c), [])
  | .slice (some ⟨b, o, none⟩) n c => some (slD (some (b, o), n, c), [])
  | _ => none
theorem RSl_of (s : SlA) : RSl (slV s) = some (slD s, []) := by
  obtain ⟨A, n, c⟩ := s; cases A <;> rfl
theorem RSl_inv {v : Value} {y : DataW Unit × List MemPlace} (h : RSl v = some y) : ∃ s : SlA, v = slV s ∧ y = (slD s, []) := by
  unfold RSl at h; split at h
  · rename_i n c
    exact ⟨(none, n, c), rfl, (Option.some.inj h).symm⟩
  · rename_i b o n c
    exact ⟨(some (b, o), n, c), rfl, (Option.some.inj h).symm⟩
  · cases h
theorem slD_inj {s t : SlA} (h : slD s = slD t) : s = t := by
  obtain ⟨A, n, c⟩ := s; obtain ⟨B, m, d⟩ := t; cases A <;> cases B <;> simp [slD] at h
  · obtain ⟨h1, h2⟩ := h; rw [Int.ofNat.inj h1, Int.ofNat.inj h2]
  · obtain ⟨h1, h2, h3, h4⟩ := h; rw [Int.ofNat.inj h1, Int.ofNat.inj h2]; congr 2
    exact Prod.ext (Int.ofNat.inj h3) (Int.ofNat.inj h4)
structure SM (w : World) (b n : Nat) (M : Nam → Option SlA) : Prop where
  own : ∃ D, w.ownsMap Tryz.prog 69 RSl b n D ∧ ∀ x z, D.atKey (nLit x) z = match M x with | some s => slD s | none => z
def updS (M : Nam → Option SlA) (k : Nam) (o : Option SlA) : Nam → Option SlA := fun x => if x = k then o else M x
section
variable {w w' : World} {b n : Nat} {M : Nam → Option SlA}
theorem SM.lt (h : SM w b n M) : b < w.heap.size := by
  obtain ⟨D, hD, _⟩ := h.own; exact hD.lt
theorem SM.same (h : SM w b n M) (he : w'.heap[b]? = w.heap[b]?) : SM w' b n M := by
  obtain ⟨D, ⟨es, clock, hb, r⟩, h2⟩ := h.own; exact ⟨⟨D, ⟨es, clock, he.trans hb, r⟩, h2⟩⟩
theorem SM.gr (h : SM w b n M) (hG : Gr w w') : SM w' b n M := h.same (hG.block b h.lt)
theorem SM.ins {S : Nat → Prop} (h : SM w b n M) (hS : InS S w w') (hb : ¬ S b) : SM w' b n M := h.same (hS.other b h.lt hb)
theorem SM.made (w : World) : SM (w.alloc (.map #[] 0)) w.heap.size 0 (fun _ => none) :=
  ⟨⟨.map [], World.ownsMap_made w _ _ _, fun _ _ => rfl⟩⟩
theorem SM.look (h : SM w b n M) {t e : TypeId} (ht : Tryz.prog.underlying t = some (.map 69 e)) (hz : (zeroValue e).run Tryz.prog w = .ok (slV (none, 0, 0)) w) (k : Nam) :
    (Instr.lookup t (.map (some b)) (nameV k) false).run Tryz.prog w = .ok (slV ((M k).getD (none, 0, 0))) w := by
  obtain ⟨D, hD, h2⟩ := h.own; obtain ⟨v, ps, hr, hv⟩ := hD.lookup keyedN ht hz (RSl_of (none, 0, 0)) (keyOf_name k); rw [h2 k] at hv; obtain ⟨s, rfl, e⟩ := RSl_inv hv; rw [hr]; cases hM : M k with
  | none =>
    rw [hM] at e; have e1 : slD (none, 0, 0) = slD s := congrArg Prod.fst e; rw [← slD_inj e1]; rfl
  | some d' =>
    rw [hM] at e; have e1 : slD d' = slD s := congrArg Prod.fst e; rw [← slD_inj e1]; rfl
theorem SM.put (h : SM w b n M) {t e : TypeId} (ht : Tryz.prog.underlying t = some (.map 69 e)) (hn : n < maxLen) (k : Nam) (d : SlA) :
    ∃ w', (Instr.mapUpdate t (.map (some b)) (nameV k) (slV d)).run Tryz.prog w = .ok () w' ∧ SM w' b (n + 1) (updS M k (some d)) ∧ ∃ o, w' = setBlock w b o := by
  obtain ⟨D, hD, h2⟩ := h.own; obtain ⟨w', hr, hD', es, c, es', c', _, hw⟩ := hD.store keyedN ht hn (keyOf_name k) (RSl_of d); refine ⟨w', hr, ⟨⟨_, hD', fun x z => ?_⟩⟩, _, hw⟩; unfold updS
  by_cases e : x = k
  · subst e; rw [if_pos rfl, Maps.atKey_put_same hD.isMap (keyedN.key (keyOf_name x))]
  · rw [if_neg e, Maps.atKey_put_other (fun q => e (nLit_inj q)), h2 x]
theorem SM.has {D : DataW Unit} (h2 : ∀ x z, D.atKey (nLit x) z = match M x with | some s => slD s | none => z) (k : Nam) : Maps.has D (nLit k) = (M k).isSome := by
  cases hM : M k with
  | none => exact Maps.has_false_of_atKey fun z => by rw [h2 k z, hM]
  | some d => exact Maps.has_true_of_atKey (y := slD d) fun z => by rw [h2 k z, hM]
end
theorem ink_setBlock (w : World) (b : Nat) (o : Obj) : InK b w (setBlock w b o) := by
  refine ⟨rfl, rfl, rfl, ?_, fun k _ hne => ?_⟩
  · simp [setBlock]
  · simp [setBlock, Ne.symm hne]
end Go.Proofs.YtjpphldojbfpfaaGreatDoor
