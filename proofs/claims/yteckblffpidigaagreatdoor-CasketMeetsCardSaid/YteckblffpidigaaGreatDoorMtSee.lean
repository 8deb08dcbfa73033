/- Rows of siblings; who has seen a write. No condition. -/
import Derived.Test.YteckblffpidigaaGreatDoorMtSib
namespace Go.Proofs.YteckblffpidigaaGreatDoor
open Go.RowKit
/-- Siblings in memory. -/
def SibsR (w : World) (A : Option Addr) (n : Nat) (L : List SibV) : Prop := L.length = n ∧ ∀ i x, L[i]? = some x → (∃ b o, A = some ⟨b, o, none⟩ ∧ w.rangeAt b (o + i * 20) (sibC x)) ∧ SOk w x
theorem SibsR.gr {w w' : World} {A : Option Addr} {n : Nat} {L : List SibV} (h : SibsR w A n L) (hG : Gr w w') : SibsR w' A n L :=
  ⟨h.1, fun i x hx => by
    obtain ⟨⟨b, o, e, hr⟩, hs⟩ := h.2 i x hx
    exact ⟨⟨b, o, e, hG.range hr⟩, hs.gr hG⟩⟩
theorem SibsR.nil (w : World) (A : Option Addr) : SibsR w A 0 [] := ⟨rfl, fun i x h => by simp at h⟩
theorem SibsR.ok {w : World} {A : Option Addr} {n : Nat} {L : List SibV} (h : SibsR w A n L) : ∀ x ∈ L, SOk w x := fun x hx => by
  obtain ⟨i, hi⟩ := List.getElem?_of_mem hx
  exact (h.2 i x hi).2
/-- A question that is asked of siblings. -/
def AskS (F : Nat) (g : Nat) (p : SibV → Bool) (L : List SibV) (w : World) : Prop := ∀ w1, Gr w w1 → ∀ x ∈ L, Calls Tryz.prog F #[.agg (sibC x).toArray, .pointer (some ⟨g, 0, none⟩)] w1 fun e w2 => e = .returned (.bool (p x)) ∧ Gr w1 w2
theorem AskS.gr {F g : Nat} {p : SibV → Bool} {L : List SibV} {w w' : World} (h : AskS F g p L w) (hG : Gr w w') : AskS F g p L w' := fun w1 h1 => h w1 (hG.trans h1)
set_option maxRecDepth 100000 in
set_option maxHeartbeats 4000000 in
theorem seen1_any {x : SibV} {d : DotM} {g : Nat} {w : World} (hx : SOk w x) (hd : rightD d) (hg : Arr w g 39 (encD d)) :
    Calls Tryz.prog 60 #[.agg (sibC x).toArray, .pointer (some ⟨g, 0, none⟩)] w fun e w' => e = .returned (.bool (decide (hasC x.c d))) ∧ Gr w w' := by
  obtain ⟨r, hr⟩ : ∃ r, r = decide (hasC x.c d) := ⟨_, rfl⟩
  have HI := Lib.hid (infoSib hx.ctx.len)
  have HIc := Lib.hid (infoCtx hx.ctx.len x.M x.c.more.length x.cM)
  have H3 : Hid (∀ w1, Gr w w1 → Calls Tryz.prog 10 #[.agg (ctxC x.c x.M x.c.more.length x.cM).toArray, .agg (encD d).toArray] w1 fun e w' => e = .returned (.bool r) ∧ Gr w1 w') := Lib.hid (fun w1 h => by rw [hr]; exact hasP_any hx.ctx hd (hx.dots.gr h))
  rw [← hr]
  obtain ⟨C, hC⟩ : ∃ C, C = sibC x := ⟨_, rfl⟩
  have hA0 : Arr (w.alloc (.cells C.toArray 44)) w.heap.size 44 C := Arr.newAt rfl rfl
  have hS : SibAt (w.alloc (.cells C.toArray 44)) w.heap.size 0 x := SibAt.of hx.ctx.len (by rw [← hC]; exact Arr.range hA0)
  rw [← hC]
  have hG : Gr w (w.alloc (.cells C.toArray 44)) := Gr.alloc _ _
  have hD := hg.gr hG
  clear hC hx hA0 hr hg hd
  go_enter Tryz.func60, Tryz.ntmps60
  go_upto_region 1 with fail
  change Code.wp _ _ _ _ (w.alloc (.cells C.toArray 44))
  generalize w.alloc (.cells C.toArray 44) = w0 at hS hG hD ⊢
  generalize w.heap.size = g1 at hS ⊢
  go_wp2_with first
    | (refine wpList_loadT rfl 42 (.tmp 4) rfl g1 2 (by kernel_rfl) (ctxC x.c x.M x.c.more.length x.cM) hS.ctx Tryz.underlying42 rfl HIc.out ?_)
    | (refine wpList_loadT rfl 39 (.tmp 1) rfl g 0 (by kernel_rfl) (encD d) (Arr.range hD) Tryz.underlying39 rfl (infoDot d) ?_)
    | (go_at_call 10; refine (H3.out w0 hG).mono ?_; rintro e w9 ⟨rfl, hG9⟩)
  go_ret
  exact ⟨rfl, hG.trans hG9⟩
def IdxS (p : SibV → Bool) (L : List SibV) (z : Int) : Prop := 0 ≤ z ↔ ∃ x ∈ L, p x = true
def IdxSR (p : SibV → Bool) (L : List SibV) (n : Nat) (w : World) (i : Value) (wr : World) : Prop := ∃ k : Nat, k ≤ n ∧ i = .int .i64 (k : Int) ∧ (∀ y ∈ L.take k, p y = false) ∧ Gr w wr
set_option maxRecDepth 100000 in
set_option maxHeartbeats 4000000 in
theorem indexS_any {F g : Nat} {p : SibV → Bool} {L : List SibV} {A : Option Addr} {n c : Nat} {w : World} (hL : SibsR w A n L) (hp : AskS F g p L w) (hE : ∀ args w, (callFunc F args).run Tryz.prog w = .ok (.enter F args) w) (hn : n ≤ 1000000) :
    Calls Tryz.prog 74 #[.slice A n c, .func (.func F) #[] #[.pointer (some ⟨g, 0, none⟩)]] w fun e w' => ∃ z, e = .returned (.int .i64 z) ∧ IdxS p L z ∧ Gr w w' := by
  have HL := Lib.hid hL
  have HP := Lib.hid hp
  have HLen := Lib.hid hL.1
  have HE := Lib.hid hE
  clear hL hp hE
  go_enter Tryz.func74, Tryz.ntmps74
  go_wp2_with fail
  go_simp
  go_loopw [8] (fun i wr => IdxSR p L n w i wr) (fun i _ => n - (intOf i).toNat)
  case atStart => exact ⟨0, Nat.zero_le _, rfl, by simp, Gr.refl _⟩
  case round =>
    obtain ⟨k, hk, rfl, hno, hGr⟩ := hrel
    by_cases hlt : k < n
    · have hki : (k : Int) < (n : Int) := by omega
      obtain ⟨x, hx⟩ : ∃ x, L[k]? = some x := ⟨_, List.getElem?_eq_getElem (by rw [HLen.out]; exact hlt)⟩
      obtain ⟨⟨bA, oA, rfl, hr⟩, hs⟩ := (HL.out.gr hGr).2 k x hx
      have HI := Lib.hid (infoSib hs.ctx.len)
      have hP := HP.out _ hGr x (List.mem_of_getElem? hx)
      have HX := Lib.hid hx
      have HNO := Lib.hid hno
      obtain ⟨b, hb⟩ : ∃ b, b = p x := ⟨_, rfl⟩
      rw [← hb] at hP
      have HB := Lib.hid hb
      clear hx hno hb hs
      go_wp2_with (refine wpList_loadT rfl 44 (.tmp 14) rfl bA (oA + k * 20) (by kernel_rfl) (sibC x) hr Tryz.underlying44 rfl HI.out ?_)
      rw [HE.out]
      refine hP.mono ?_
      rintro e w2 ⟨rfl, hG2⟩
      cases b with
      | true =>
        go_wp2_with fail
        go_ret
        exact ⟨(k : Int), rfl, ⟨fun _ => ⟨x, List.mem_of_getElem? HX.out, HB.out.symm⟩, fun _ => by omega⟩, hGr.trans hG2⟩
      | false =>
        go_wp2_with fail
        refine ⟨⟨k + 1, hlt, by go_num, fun y hy => ?_, hGr.trans hG2⟩, by simp [intOf]; omega⟩
        rw [List.take_add_one, HX.out] at hy
        rcases List.mem_append.1 hy with h | h
        · exact HNO.out y h
        · rw [show y = x by simpa using h]; exact HB.out.symm
    · have hki : ¬ (k : Int) < (n : Int) := by omega
      rw [List.take_of_length_le (by rw [HLen.out]; omega)] at hno
      have HNO := Lib.hid hno
      clear hno
      go_wp2_with fail
      go_ret
      exact ⟨-1, rfl, ⟨fun h => absurd h (by omega), fun ⟨x, hx, hpx⟩ => by rw [HNO.out x hx] at hpx; cases hpx⟩, hGr⟩
set_option maxRecDepth 100000 in
set_option maxHeartbeats 4000000 in
theorem containsS_any {F g : Nat} {p : SibV → Bool} {L : List SibV} {A : Option Addr} {n c : Nat} {w : World} (hL : SibsR w A n L) (hp : AskS F g p L w) (hE : ∀ args w, (callFunc F args).run Tryz.prog w = .ok (.enter F args) w) (hn : n ≤ 1000000) :
    Calls Tryz.prog 48 #[.slice A n c, .func (.func F) #[] #[.pointer (some ⟨g, 0, none⟩)]] w fun e w' => e = .returned (.bool (L.any p)) ∧ Gr w w' := by
  have HI := Lib.hid (indexS_any (c := c) hL hp hE hn)
  obtain ⟨r, hr⟩ : ∃ r, r = L.any p := ⟨_, rfl⟩
  rw [← hr]
  have HR := Lib.hid hr
  clear hr hL hp hE
  go_enter Tryz.func48, Tryz.ntmps48
  cases r with
  | true =>
    have HM := Lib.hid (List.any_eq_true.1 HR.out.symm)
    go_wp2_with (go_at_call 74; refine HI.out.mono ?_; rintro e w1 ⟨z, rfl, hz, hG1⟩; have hz0 : decide (0 ≤ z) = true := decide_eq_true (hz.2 HM.out))
    go_ret
    exact ⟨rfl, hG1⟩
  | false =>
    have HM := Lib.hid HR.out.symm
    go_wp2_with (go_at_call 74; refine HI.out.mono ?_; rintro e w1 ⟨z, rfl, hz, hG1⟩; have hz0 : decide (0 ≤ z) = false := decide_eq_false (fun h => by have h1 := List.any_eq_true.2 (hz.1 h); rw [HM.out] at h1; cases h1))
    go_ret
    exact ⟨rfl, hG1⟩
/-- Has somebody seen a write? -/
def seenL (L : List SibV) (d : DotM) : Bool := L.any fun x => decide (hasC x.c d)
set_option maxRecDepth 100000 in
set_option maxHeartbeats 4000000 in
theorem seen_any {L : List SibV} {A : Option Addr} {n c : Nat} {d : DotM} {w : World} (hL : SibsR w A n L) (hd : rightD d) (hn : n ≤ 1000000) :
    Calls Tryz.prog 30 #[.slice A n c, .agg (encD d).toArray] w fun e w' => e = .returned (.bool (seenL L d)) ∧ Gr w w' := by
  have hA : Arr (w.alloc (.cells (encD d).toArray 39)) w.heap.size 39 (encD d) := Arr.newAt rfl rfl
  have hG : Gr w (w.alloc (.cells (encD d).toArray 39)) := Gr.alloc _ _
  have H1 := Lib.hid (fun w1 (h1 : Gr (w.alloc (.cells (encD d).toArray 39)) w1) => containsS_any (F := 60) (g := w.heap.size) (p := fun x => decide (hasC x.c d)) (c := c) (hL.gr (hG.trans h1)) (fun w2 h2 x hx => seen1_any ((hL.ok x hx).gr ((hG.trans h1).trans h2)) hd ((hA.gr h1).gr h2)) (enters_of Tryz.func60 (by kernel_rfl) rfl) hn)
  obtain ⟨r, hr⟩ : ∃ r, r = seenL L d := ⟨_, rfl⟩
  rw [← hr]
  have hr' : r = L.any fun x => decide (hasC x.c d) := hr
  rw [← hr'] at H1
  clear hr hr' hL hA
  go_enter Tryz.func30, Tryz.ntmps30
  go_upto_region 1 with fail
  change Code.wp _ _ _ _ (w.alloc (.cells (encD d).toArray 39))
  generalize w.alloc (.cells (encD d).toArray 39) = w0 at hG H1 ⊢
  generalize w.heap.size = g1 at H1 ⊢
  go_wp2_with (go_at_call 48; refine (H1.out w0 (Gr.refl _)).mono ?_; rintro e w9 ⟨rfl, hG9⟩)
  go_ret
  exact ⟨rfl, hG.trans hG9⟩
end Go.Proofs.YteckblffpidigaaGreatDoor
