/- Siblings in memory; the walk of right. No condition. -/
import Derived.Test.YteckblffpidigaaGreatDoorMtAdd
import Derived.Test.YteckblffpidigaaGreatDoorMtHas
namespace Go.Proofs.YteckblffpidigaaGreatDoor
open Go.RowKit
/-- A sibling, and where its lists lie. -/
structure SibV where
  d : DotM
  c : CtxM
  M : Option Addr
  cM : Nat
  body : List UInt8
  Y : Option Addr
  cY : Nat
def sibC (x : SibV) : List Value := encD x.d ++ (ctxC x.c x.M x.c.more.length x.cM ++ [.slice x.Y x.body.length x.cY])
structure SOk (w : World) (x : SibV) : Prop where
  right : rightD x.d
  ctx : OkC x.c
  fresh : ¬ hasC x.c x.d
  small : x.body.length ≤ 16384
  dots : DotsR w x.M x.c.more.length x.c.more
  nil : x.M = none → x.cM = 0
  bytes : Rd w x.Y x.body.length (u8s x.body)
  nilY : x.Y = none → x.cY = 0
theorem SOk.gr {w w' : World} {x : SibV} (h : SOk w x) (hG : Gr w w') : SOk w' x := ⟨h.right, h.ctx, h.fresh, h.small, h.dots.gr hG, h.nil, hG.rd h.bytes, h.nilY⟩
theorem sibC_length {x : SibV} (h : x.c.upto.length = 16) : (sibC x).length = 20 := by
  unfold sibC
  rw [List.length_append, List.length_append, ctxC_length h, encD_length]
  rfl
theorem sibC_one (x : SibV) : ∀ v ∈ sibC x, v.oneCell' = true := by
  intro v hv
  unfold sibC at hv
  rcases List.mem_append.1 hv with hv | hv
  · exact encD_one _ v hv
  · rcases List.mem_append.1 hv with hv | hv
    · exact ctxC_one _ _ _ _ v hv
    · have : v = .slice x.Y x.body.length x.cY := by simpa using hv
      rw [this]
      rfl
theorem infoSib {x : SibV} (h : x.c.upto.length = 16) : (Tryz.prog.info? 44).map (·.size) = some (sibC x).length := by
  rw [sibC_length h]
  kernel_rfl
/-- The parts of a sibling's cells. -/
structure SibAt (w : World) (b o : Nat) (x : SibV) : Prop where
  all : w.rangeAt b o (sibC x)
  dot : w.rangeAt b o (encD x.d)
  ctx : w.rangeAt b (o + 2) (ctxC x.c x.M x.c.more.length x.cM)
  body : w.cell? ⟨b, o + 19, none⟩ = some (.slice x.Y x.body.length x.cY)
theorem SibAt.of {w : World} {b o : Nat} {x : SibV} (hl : x.c.upto.length = 16) (h : w.rangeAt b o (sibC x)) : SibAt w b o x := by
  have hc := ctxC_length hl x.M x.c.more.length x.cM
  refine ⟨h, fun j u hu => h j u ?_, fun j u hu => ?_, ?_⟩
  · unfold sibC
    rw [List.getElem?_append_left (List.getElem?_eq_some_iff.1 hu).1]
    exact hu
  · have := h (2 + j) u (by
      unfold sibC
      rw [List.getElem?_append_right (by rw [encD_length]; omega), encD_length, List.getElem?_append_left (by have := (List.getElem?_eq_some_iff.1 hu).1; omega)]
      rw [show 2 + j - 2 = j by omega]
      exact hu)
    rw [show o + 2 + j = o + (2 + j) by omega]
    exact this
  · exact h 19 _ (by
      unfold sibC
      rw [List.getElem?_append_right (by rw [encD_length]; omega), encD_length, List.getElem?_append_right (by omega), hc]
      rfl)
theorem SibAt.gr {w w' : World} {b o : Nat} {x : SibV} (h : SibAt w b o x) (hG : Gr w w') : SibAt w' b o x := ⟨hG.range h.all, hG.range h.dot, hG.range h.ctx, Gr.cell hG h.body⟩
/-- The empty context. -/
def ctx0 : CtxM := ⟨List.replicate 16 0, []⟩
theorem ctx0_ok : OkC ctx0 := ⟨rfl, fun n hn => by
  have := (List.mem_replicate.1 hn).2
  omega, Nat.zero_le _, fun _ h => (by cases h), List.Pairwise.nil⟩
set_option maxRecDepth 100000 in
set_option maxHeartbeats 4000000 in
theorem sright_any {x : SibV} {w : World} (hx : SOk w x) :
    Calls Tryz.prog 47 #[.agg (sibC x).toArray] w fun e w' => e = .returned (.bool true) ∧ Gr w w' := by
  have HX := Lib.hid hx
  have HI := Lib.hid (infoSib hx.ctx.len)
  have HI0 := Lib.hid (infoCtx ctx0_ok.len none 0 0)
  have HIc := Lib.hid (infoCtx hx.ctx.len x.M x.c.more.length x.cM)
  have hbl := hx.small
  have H1 : Hid (∀ w1 : World, Calls Tryz.prog 36 #[.agg (ctxC ctx0 none 0 0).toArray, .agg (encD x.d).toArray] w1 fun e w' => CtxQ (Tidy ctx0.upto (ctx0.more ++ [x.d])) w1 e w') := Lib.hid (fun w1 => add_any ctx0_ok hx.right (DotsR.nil _ _) (by omega) (fun _ => rfl))
  have H2 : Hid (∀ w1, Gr w w1 → Calls Tryz.prog 37 #[.agg (ctxC x.c x.M x.c.more.length x.cM).toArray] w1 fun e w' => e = .returned (.int .i64 0) ∧ Gr w1 w') := Lib.hid (fun w1 h => check_any hx.ctx (hx.dots.gr h))
  have H3 : Hid (∀ w1, Gr w w1 → Calls Tryz.prog 10 #[.agg (ctxC x.c x.M x.c.more.length x.cM).toArray, .agg (encD x.d).toArray] w1 fun e w' => e = .returned (.bool false) ∧ Gr w1 w') := Lib.hid (fun w1 h => (hasP_any hx.ctx hx.right (hx.dots.gr h)).mono fun _ _ ⟨he, hg⟩ => ⟨by rw [he, decide_eq_false hx.fresh], hg⟩)
  have hbl2 : ((x.body.length : Nat) : Int) ≤ 16384 := by omega
  obtain ⟨C, hC⟩ : ∃ C, C = sibC x := ⟨_, rfl⟩
  have hA0 : Arr (w.alloc (.cells C.toArray 44)) w.heap.size 44 C := Arr.newAt rfl rfl
  have hS : SibAt (w.alloc (.cells C.toArray 44)) w.heap.size 0 x := SibAt.of hx.ctx.len (by rw [← hC]; exact Arr.range hA0)
  rw [← hC] at ⊢
  have hG : Gr w (w.alloc (.cells C.toArray 44)) := Gr.alloc _ _
  clear hC hx hA0 hbl
  go_enter Tryz.func47, Tryz.ntmps47
  go_upto_region 1 with fail
  change Code.wp _ _ _ _ (w.alloc (.cells C.toArray 44))
  generalize w.alloc (.cells C.toArray 44) = w0 at hS hG ⊢
  generalize w.heap.size = g1 at hS ⊢
  go_upto_region 2 with fail
  change Code.wp _ _ _ _ (w0.alloc (.cells (ctxC ctx0 none 0 0).toArray 42))
  have hA3 : Arr (w0.alloc (.cells (ctxC ctx0 none 0 0).toArray 42)) w0.heap.size 42 (ctxC ctx0 none 0 0) := Arr.newAt rfl rfl
  have hGa : Gr w0 (w0.alloc (.cells (ctxC ctx0 none 0 0).toArray 42)) := Gr.alloc _ _
  replace hS := hS.gr hGa
  replace hG := hG.trans hGa
  clear hGa
  generalize w0.alloc (.cells (ctxC ctx0 none 0 0).toArray 42) = w5 at hS hA3 hG ⊢
  generalize w0.heap.size = g3 at hA3 ⊢
  go_upto_region 3 with first
    | (refine wpList_loadT rfl 42 (.tmp 3) rfl g3 0 rfl (ctxC ctx0 none 0 0) (Arr.range hA3) Tryz.underlying42 rfl HI0.out ?_)
    | (refine wpList_loadT rfl 39 (.tmp 8) rfl g1 0 (by kernel_rfl) (encD x.d) hS.dot Tryz.underlying39 rfl (infoDot x.d) ?_)
    | (go_at_call 36; refine (H1.out w5).mono ?_; rintro e w6 ⟨c6, M6, m6, q6, rfl, hP6, _, hG6⟩; replace hS := hS.gr hG6; replace hG := hG.trans hG6)
    | (refine wpList_new (w := w6) (t := 42) rfl _ _ _ rfl w6.heap.size (ctxC c6 M6 m6 q6) rfl rfl rfl (by rw [ctxC_length hP6.len]; rfl) (infoCtx hP6.len M6 m6 q6) (ctxC_one _ _ _ _) ?_; intro w7 hA7 hG7)
  replace hS := hS.gr hG7
  replace hG := hG.trans hG7
  clear hA7 hA3 hP6 HI0
  go_wp2_with first
    | (refine wpList_loadT rfl 42 (.tmp 16) rfl g1 2 (by kernel_rfl) (ctxC x.c x.M x.c.more.length x.cM) hS.ctx Tryz.underlying42 rfl HIc.out ?_)
    | (refine wpList_loadT rfl 42 (.tmp 22) rfl g1 2 (by kernel_rfl) (ctxC x.c x.M x.c.more.length x.cM) hS.ctx Tryz.underlying42 rfl HIc.out ?_)
    | (refine wpList_loadT rfl 39 (.tmp 24) rfl g1 0 (by kernel_rfl) (encD x.d) hS.dot Tryz.underlying39 rfl (infoDot x.d) ?_)
    | (go_at_call 37; refine (H2.out w7 hG).mono ?_; rintro e w8 ⟨rfl, hG8⟩; replace hS := hS.gr hG8; replace hG := hG.trans hG8; have hb8 := hS.body)
    | (go_at_call 10; refine (H3.out w8 hG).mono ?_; rintro e w9 ⟨rfl, hG9⟩; replace hS := hS.gr hG9; replace hG := hG.trans hG9; have hb9 := hS.body)
  go_ret
  exact ⟨rfl, hG⟩
end Go.Proofs.YteckblffpidigaaGreatDoor
