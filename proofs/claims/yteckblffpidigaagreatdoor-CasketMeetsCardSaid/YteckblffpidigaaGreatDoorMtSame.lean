/- Sets of siblings that say the same: the walk of sibling.Same. No condition. -/
import Derived.Test.YteckblffpidigaaGreatDoorMtSRd
import Derived.Stop.BytesEq
namespace Go.Proofs.YteckblffpidigaaGreatDoor
open Go.RowKit
theorem run_equal16 {l : List Nat} (hl : l.length = 16) (w : World) : (Op.equalIn 10000 40 (.agg (numsV l).toArray) (.agg (numsV l).toArray)).run Tryz.prog w = .ok true w := by
  have hsz : ∀ w, (sizeOf 3).run Tryz.prog w = .ok 1 w := Tryz.sizeOf3
  rw [Op.equalIn]
  simp only [Sem.run_bind, run_underlying Tryz.underlying40, Result.andThen_ok, hsz, Std.Legacy.Range.forIn_eq_forIn_range', Std.Legacy.Range.size, Nat.sub_zero, Nat.add_sub_cancel, Nat.div_one]
  have hi16 : ∀ i ∈ List.range' 0 16 1, i < 16 := fun i hi => by simpa using (List.mem_range'_1.1 hi).2
  generalize List.range' 0 16 1 = r at hi16 ⊢
  induction r with
  | nil => simp
  | cons i r ih =>
    have hi : i < 16 := hi16 i (by simp)
    have px : (part 3 (numsV l).toArray (i * 1)).run Tryz.prog w = .ok (.int .i64 ((l.getD i 0 : Nat) : Int)) w := by
      have := numsV_at (l := l) (i := i) (by omega)
      simp [part, isAgg, run_underlying Tryz.underlying3, this]
    have pe : (Op.equalIn 9999 3 (.int .i64 ((l.getD i 0 : Nat) : Int)) (.int .i64 ((l.getD i 0 : Nat) : Int))).run Tryz.prog w = .ok true w := by
      rw [run_equalIn_int w 9998 3 .i64 .i64 _ _ Tryz.underlying3]
      simp
    simp only [List.forIn_cons, Sem.run_bind, px, pe, Result.andThen_ok]
    simp only [Bool.not_true, Bool.false_eq_true, if_false, Sem.run_pure, Result.andThen_ok]
    exact ih fun j hj => hi16 j (by simp [hj])
set_option maxRecDepth 100000 in
set_option maxHeartbeats 4000000 in
theorem bequal_yes {A B : Option Addr} {n c d : Nat} {l : List UInt8} {w : World} (h1 : Rd w A n (u8s l)) (h2 : Rd w B n (u8s l)) :
    Calls Tryz.prog 43 #[.slice A n c, .slice B n d] w fun e w' => e = .returned (.bool true) ∧ Gr w w' := by
  have hcv1 := run_str (P := Tryz.prog) (c := c) w Tryz.underlying31 Tryz.underlying5 Tryz.underlying9 h1
  have hcv2 := run_str (P := Tryz.prog) (c := d) w Tryz.underlying31 Tryz.underlying5 Tryz.underlying9 h2
  clear h1 h2
  generalize (⟨l.toArray⟩ : ByteArray) = s at hcv1 hcv2
  go_enter Tryz.func43, Tryz.ntmps43
  go_wp2_with fail
  go_ret
  exact ⟨rfl, Gr.refl _⟩
set_option maxRecDepth 100000 in
set_option maxHeartbeats 4000000 in
theorem equalD_yes {A B : Option Addr} {n c d : Nat} {L : List DotM} {w : World} (h1 : DotsR w A n L) (h2 : DotsR w B n L) (hn : n ≤ 1000000) :
    Calls Tryz.prog 68 #[.slice A n c, .slice B n d] w fun e w' => e = .returned (.bool true) ∧ Gr w w' := by
  have H1 := Lib.hid h1
  have H2 := Lib.hid h2
  have HLen := Lib.hid h1.1
  clear h1 h2
  go_enter Tryz.func68, Tryz.ntmps68
  go_wp2_with fail
  go_simp
  go_loopw [13] (fun i wr => ∃ k : Nat, k ≤ n ∧ i = .int .i64 (k : Int) ∧ Gr w wr) (fun i _ => n - (intOf i).toNat)
  case atStart => exact ⟨0, Nat.zero_le _, rfl, Gr.refl _⟩
  case round =>
    obtain ⟨k, hk, rfl, hG⟩ := hrel
    by_cases hlt : k < n
    · have hki : (k : Int) < (n : Int) := by omega
      obtain ⟨⟨x, y⟩, hy⟩ : ∃ y, L[k]? = some y := ⟨_, List.getElem?_eq_getElem (by rw [HLen.out]; exact hlt)⟩
      obtain ⟨bA, oA, rfl, hr⟩ := (H1.out.gr hG).2 k _ hy
      obtain ⟨bB, oB, rfl, hr2⟩ := (H2.out.gr hG).2 k _ hy
      obtain ⟨k0, k1⟩ := rangeD hr
      obtain ⟨j0, j1⟩ := rangeD hr2
      have hq := eqDotF (p := (x, y)) (q := (x, y)) (r := true) (by simp)
      simp only at k0 k1 j0 j1 hq
      clear hy hr hr2
      go_upto_region 6 with fail
      go_quiet (fail)
      go_wp2_with fail
      exact ⟨⟨k + 1, hlt, by go_num, hG.trans (below_dr ⟨_, rfl⟩)⟩, by simp only [intOf]; omega⟩
    · have hki : ¬ (k : Int) < (n : Int) := by omega
      go_wp2_with fail
      go_ret
      exact ⟨rfl, hG⟩
set_option maxRecDepth 100000 in
set_option maxHeartbeats 4000000 in
theorem dsame_yes {c : CtxM} {A B : Option Addr} {cA cB : Nat} {w : World} (hc : OkC c) (h1 : DotsR w A c.more.length c.more) (h2 : DotsR w B c.more.length c.more) :
    Calls Tryz.prog 42 #[.agg (ctxC c A c.more.length cA).toArray, .agg (ctxC c B c.more.length cB).toArray] w fun e w' => e = .returned (.bool true) ∧ Gr w w' := by
  have HE := Lib.hid (fun w1 (h : Gr w w1) => equalD_yes (c := cA) (d := cB) (h1.gr h) (h2.gr h) (by have := hc.few; omega))
  have HI16 := Lib.hid (info16 hc.len)
  have hq := fun w => run_equal16 hc.len w
  obtain ⟨V, hV⟩ : ∃ V, V = numsV c.upto := ⟨_, rfl⟩
  obtain ⟨m, hm⟩ : ∃ m, m = c.more.length := ⟨_, rfl⟩
  have hl : V.length = 16 := by rw [hV, numsV_length]; exact hc.len
  unfold ctxC
  rw [← hV] at HI16 hq ⊢
  rw [← hm] at HE ⊢
  obtain ⟨X, hX⟩ : ∃ X, X = V ++ [.slice A m cA] := ⟨_, rfl⟩
  obtain ⟨Y, hY⟩ : ∃ Y, Y = V ++ [.slice B m cB] := ⟨_, rfl⟩
  have hXr : ∀ (w1 : World) (g : Nat), Arr w1 g 42 X → w1.rangeAt g 0 V := fun w1 g h j u hu => by
    rw [Nat.zero_add]
    refine h.cell ?_
    rw [hX, List.getElem?_append_left (List.getElem?_eq_some_iff.1 hu).1]
    exact hu
  have hYr : ∀ (w1 : World) (g : Nat), Arr w1 g 42 Y → w1.rangeAt g 0 V := fun w1 g h j u hu => by
    rw [Nat.zero_add]
    refine h.cell ?_
    rw [hY, List.getElem?_append_left (List.getElem?_eq_some_iff.1 hu).1]
    exact hu
  have hX16 : X[16]? = some (.slice A m cA) := by rw [hX, List.getElem?_append_right (by omega), hl]; rfl
  have hY16 : Y[16]? = some (.slice B m cB) := by rw [hY, List.getElem?_append_right (by omega), hl]; rfl
  rw [← hX, ← hY]
  have hA2 : Arr ((w.alloc (.cells X.toArray 42)).alloc (.cells Y.toArray 42)) w.heap.size 42 X := (Arr.newAt rfl rfl : Arr (w.alloc (.cells X.toArray 42)) w.heap.size 42 X).gr (Gr.alloc _ _)
  have hsz : (w.alloc (.cells X.toArray 42)).heap.size = w.heap.size + 1 := Array.size_push _
  have hA3 : Arr ((w.alloc (.cells X.toArray 42)).alloc (.cells Y.toArray 42)) (w.heap.size + 1) 42 Y := by rw [← hsz]; exact Arr.newAt rfl rfl
  have hG : Gr w ((w.alloc (.cells X.toArray 42)).alloc (.cells Y.toArray 42)) := (Gr.alloc _ _).trans (Gr.alloc _ _)
  have r2 := hXr _ _ hA2
  have r3 := hYr _ _ hA3
  have hc2 := hA2.cell hX16
  have hc3 := hA3.cell hY16
  clear hc h1 h2 hV hm hX hY hXr hYr hX16 hY16 hA2 hA3 hsz hl
  go_enter Tryz.func42, Tryz.ntmps42
  go_upto_region 1 with fail
  change Code.wp _ _ _ _ ((w.alloc (.cells X.toArray 42)).alloc (.cells Y.toArray 42))
  generalize (w.alloc (.cells X.toArray 42)).alloc (.cells Y.toArray 42) = w0 at hG r2 r3 hc2 hc3 ⊢
  generalize w.heap.size + 1 = g3 at r3 hc3 ⊢
  generalize w.heap.size = g2 at r2 hc2 ⊢
  go_wp2_with first
    | (refine wpList_loadT rfl 40 (.tmp 5) rfl g2 0 (by kernel_rfl) V r2 Tryz.underlying40 rfl HI16.out ?_)
    | (refine wpList_loadT rfl 40 (.tmp 7) rfl g3 0 (by kernel_rfl) V r3 Tryz.underlying40 rfl HI16.out ?_)
    | (go_at_call 68; refine (HE.out w0 hG).mono ?_; rintro e w9 ⟨rfl, hG9⟩)
  go_ret
  exact ⟨rfl, hG.trans hG9⟩
set_option maxRecDepth 100000 in
set_option maxHeartbeats 4000000 in
theorem same1_yes {x y : SibV} {w : World} (hk : keyV y = keyV x) (hx : SOk w x) (hy : SOk w y) :
    Calls Tryz.prog 41 #[.agg (sibC x).toArray, .agg (sibC y).toArray] w fun e w' => e = .returned (.bool true) ∧ Gr w w' := by
  obtain ⟨d, c, M', cM', body, Y', cY'⟩ := y
  simp only [keyV, Prod.mk.injEq] at hk
  obtain ⟨rfl, rfl, rfl⟩ := hk
  have hl16 := hx.ctx.len
  have H1 := Lib.hid (fun w1 (h : Gr w w1) => dsame_yes (cA := x.cM) (cB := cM') hx.ctx (hx.dots.gr h) (hy.dots.gr h))
  have H2 := Lib.hid (fun w1 (h : Gr w w1) => bequal_yes (c := x.cY) (d := cY') (h.rd hx.bytes) (h.rd hy.bytes))
  have HI1 := Lib.hid (infoCtx hl16 x.M x.c.more.length x.cM)
  have HI2 := Lib.hid (infoCtx hl16 M' x.c.more.length cM')
  obtain ⟨C, hC⟩ : ∃ C, C = sibC x := ⟨_, rfl⟩
  obtain ⟨D, hD⟩ : ∃ D, D = sibC ⟨x.d, x.c, M', cM', x.body, Y', cY'⟩ := ⟨_, rfl⟩
  rw [← hC, ← hD]
  have hA2 : Arr ((w.alloc (.cells C.toArray 44)).alloc (.cells D.toArray 44)) w.heap.size 44 C := (Arr.newAt rfl rfl : Arr (w.alloc (.cells C.toArray 44)) w.heap.size 44 C).gr (Gr.alloc _ _)
  have hsz : (w.alloc (.cells C.toArray 44)).heap.size = w.heap.size + 1 := Array.size_push _
  have hA3 : Arr ((w.alloc (.cells C.toArray 44)).alloc (.cells D.toArray 44)) (w.heap.size + 1) 44 D := by rw [← hsz]; exact Arr.newAt rfl rfl
  have hG : Gr w ((w.alloc (.cells C.toArray 44)).alloc (.cells D.toArray 44)) := (Gr.alloc _ _).trans (Gr.alloc _ _)
  have hS2 := SibAt.of (x := x) hl16 (by rw [← hC]; exact Arr.range hA2)
  have hS3 := SibAt.of (x := ⟨x.d, x.c, M', cM', x.body, Y', cY'⟩) hl16 (by rw [← hD]; exact Arr.range hA3)
  have r2d := hS2.dot
  have r2c := hS2.ctx
  have c2 := hS2.body
  have r3d : ((w.alloc (.cells C.toArray 44)).alloc (.cells D.toArray 44)).rangeAt (w.heap.size + 1) 0 (encD x.d) := hS3.dot
  have r3c : ((w.alloc (.cells C.toArray 44)).alloc (.cells D.toArray 44)).rangeAt (w.heap.size + 1) 2 (ctxC x.c M' x.c.more.length cM') := hS3.ctx
  have c3 : ((w.alloc (.cells C.toArray 44)).alloc (.cells D.toArray 44)).cell? ⟨w.heap.size + 1, 19, none⟩ = some (.slice Y' x.body.length cY') := hS3.body
  clear hx hy hC hD hA2 hA3 hsz hS2 hS3
  go_enter Tryz.func41, Tryz.ntmps41
  go_upto_region 1 with fail
  change Code.wp _ _ _ _ ((w.alloc (.cells C.toArray 44)).alloc (.cells D.toArray 44))
  generalize (w.alloc (.cells C.toArray 44)).alloc (.cells D.toArray 44) = w0 at hG r2d r2c c2 r3d r3c c3 ⊢
  generalize w.heap.size + 1 = g3 at r3d r3c c3 ⊢
  generalize w.heap.size = g2 at r2d r2c c2 ⊢
  go_wp2_with first
    | (refine wpList_loadT rfl 39 (.tmp 5) rfl g2 0 (by kernel_rfl) (encD x.d) r2d Tryz.underlying39 rfl (infoDot x.d) ?_)
    | (refine wpList_loadT rfl 39 (.tmp 7) rfl g3 0 (by kernel_rfl) (encD x.d) r3d Tryz.underlying39 rfl (infoDot x.d) ?_)
    | (refine wpList_valW rfl (.bool (decide (x.d = x.d))) _ (run_eqDot (x := .tmp 6) (y := .tmp 8) rfl rfl) ?_; simp only [decide_true])
    | (refine wpList_loadT rfl 42 (.tmp 11) rfl g2 2 (by kernel_rfl) (ctxC x.c x.M x.c.more.length x.cM) r2c Tryz.underlying42 rfl HI1.out ?_)
    | (refine wpList_loadT rfl 42 (.tmp 13) rfl g3 2 (by kernel_rfl) (ctxC x.c M' x.c.more.length cM') r3c Tryz.underlying42 rfl HI2.out ?_)
    | (go_at_call 42; refine (H1.out w0 hG).mono ?_; rintro e w9 ⟨rfl, hG9⟩; have c29 := Gr.cell hG9 c2; have c39 := Gr.cell hG9 c3)
    | (go_at_call 43; refine (H2.out w9 (hG.trans hG9)).mono ?_; rintro e w10 ⟨rfl, hG10⟩)
  go_ret
  exact ⟨rfl, hG.trans (hG9.trans hG10)⟩
set_option maxRecDepth 100000 in
set_option maxHeartbeats 8000000 in
theorem ssame_yes {L1 L2 : List SibV} {A B : Option Addr} {n m c d : Nat} {w : World} (h1 : SibsR w A n L1) (h2 : SibsR w B m L2) (hk : L2.map keyV = L1.map keyV) (hn : n ≤ 1000000) :
    Calls Tryz.prog 11 #[.slice A n c, .slice B m d] w fun e w' => e = .returned (.bool true) ∧ Gr w w' := by
  have hmn : m = n := by
    have := congrArg List.length hk
    simp only [List.length_map] at this
    rw [← h1.1, ← h2.1, this]
  subst hmn
  have H1 := Lib.hid h1
  have H2 := Lib.hid h2
  have HL1 := Lib.hid h1.1
  have HL2 := Lib.hid h2.1
  have HK := Lib.hid hk
  clear h1 h2 hk
  have HEq : Hid (Calls Tryz.prog 40 #[.slice A m c, .slice B m d, .func (.func 41) #[] #[]] w fun e w' => e = .returned (.bool true) ∧ Gr w w') := Lib.hid (by
    go_enter Tryz.func40, Tryz.ntmps40
    go_wp2_with fail
    go_simp
    go_loopw [17] (fun i wr => ∃ k : Nat, k ≤ m ∧ i = .int .i64 (k : Int) ∧ Gr w wr) (fun i _ => m - (intOf i).toNat)
    case atStart => exact ⟨0, Nat.zero_le _, rfl, Gr.refl _⟩
    case round =>
      obtain ⟨k, hkm, rfl, hG⟩ := hrel
      by_cases hlt : k < m
      · have hki : (k : Int) < (m : Int) := by omega
        obtain ⟨x, hx⟩ : ∃ x, L1[k]? = some x := ⟨_, List.getElem?_eq_getElem (by rw [HL1.out]; exact hlt)⟩
        obtain ⟨y, hy⟩ : ∃ y, L2[k]? = some y := ⟨_, List.getElem?_eq_getElem (by rw [HL2.out]; exact hlt)⟩
        have hxy : keyV y = keyV x := by
          have e1 : (L2.map keyV)[k]? = (L1.map keyV)[k]? := by rw [HK.out]
          rw [List.getElem?_map, List.getElem?_map, hx, hy] at e1
          exact Option.some.inj e1
        obtain ⟨⟨bA, oA, rfl, hr1⟩, hsx⟩ := (H1.out.gr hG).2 k x hx
        obtain ⟨⟨bB, oB, rfl, hr2⟩, hsy⟩ := (H2.out.gr hG).2 k y hy
        have HI1 := Lib.hid (infoSib hsx.ctx.len)
        have HI2 := Lib.hid (infoSib hsy.ctx.len)
        have ho1 := sibC_one x
        have ho2 := sibC_one y
        have hx20 := sibC_length hsx.ctx.len
        have hy20 := sibC_length hsy.ctx.len
        have HS := Lib.hid (fun w1 (h : Gr wr w1) => same1_yes hxy (hsx.gr h) (hsy.gr h))
        clear hx hy hxy hsx hsy
        go_upto_region 6 with first
          | (refine wpList_load_mid rfl _ _ rfl bA (oA + k * 20) rfl (sibC x) _ hr1 Tryz.underlying44 rfl HI1.out ?_)
          | (refine wpList_new (w := wr) (t := 44) rfl _ _ _ rfl wr.heap.size (sibC x) rfl rfl rfl (by rw [hx20]; rfl) HI1.out ho1 ?_; intro w5 hA5 hG5)
        have hr25 := hG5.range hr2
        have HA5 := Lib.hid hA5
        generalize wr.heap.size = g8 at HA5 ⊢
        clear hr1 hr2 ho1 hA5
        go_upto_region 7 with first
          | (refine wpList_load_mid rfl _ _ rfl bB (oB + k * 20) rfl (sibC y) _ hr25 Tryz.underlying44 rfl HI2.out ?_)
          | (refine wpList_new (w := w5) (t := 44) rfl _ _ _ rfl w5.heap.size (sibC y) rfl rfl rfl (by rw [hy20]; rfl) HI2.out ho2 ?_; intro w6 hA6 hG6)
        have hr8 : w6.rangeAt g8 0 (sibC x) := Arr.range (HA5.out.gr hG6)
        have hr9 : w6.rangeAt w5.heap.size 0 (sibC y) := Arr.range hA6
        generalize w5.heap.size = g9 at hr9 ⊢
        have hGr6 := hG5.trans hG6
        have hGw6 := hG.trans hGr6
        clear hr25 HA5 hA6 ho2 hG5 hG6
        go_wp2_with first
          | (refine wpList_loadT rfl 44 (.tmp 8) rfl g8 0 (by kernel_rfl) (sibC x) hr8 Tryz.underlying44 rfl HI1.out ?_)
          | (refine wpList_loadT rfl 44 (.tmp 9) rfl g9 0 (by kernel_rfl) (sibC y) hr9 Tryz.underlying44 rfl HI2.out ?_)
        refine (HS.out w6 hGr6).mono ?_
        rintro e w7 ⟨rfl, hG7⟩
        go_wp2_with fail
        exact ⟨⟨k + 1, hlt, by go_num, hGw6.trans hG7⟩, by simp only [intOf]; omega⟩
      · have hki : ¬ (k : Int) < (m : Int) := by omega
        go_wp2_with fail
        go_ret
        exact ⟨rfl, hG⟩)
  clear H1 H2 HL1 HL2 HK
  go_enter Tryz.func11, Tryz.ntmps11
  go_wp2_with (go_at_call 40; refine HEq.out.mono ?_; rintro e w2 ⟨rfl, hG2⟩)
  go_ret
  exact ⟨rfl, hG2⟩
end Go.Proofs.YteckblffpidigaaGreatDoor
