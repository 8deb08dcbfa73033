/- The walk of the law VaultForged. No condition. -/
import Derived.Test.YtnmhfomnlnlflaaDoorVBack
import Derived.Test.YtnmhfomnlnlflaaDoorVMiss
namespace Go.Proofs.YtnmhfomnlnlflaaDoor
open Go.RowKit
theorem xor_ne {x : UInt8} {n : Nat} (h0 : 0 < n) (h1 : n < 256) : x ^^^ UInt8.ofNat n ≠ x := by
  intro h
  have h2 : UInt8.ofNat n = 0 := by
    have h4 : x ^^^ (x ^^^ UInt8.ofNat n) = UInt8.ofNat n := by rw [← UInt8.xor_assoc, UInt8.xor_self, UInt8.zero_xor]
    rw [h, UInt8.xor_self] at h4
    exact h4.symm
  have h3 := congrArg UInt8.toNat h2
  rw [UInt8.toNat_ofNat'] at h3
  simp at h3
  omega
theorem set_ne {l : List UInt8} {i : Nat} {x y : UInt8} (hx : l[i]? = some x) (hy : y ≠ x) : l.set i y ≠ l := by
  intro h
  have h1 := congrArg (fun l => l[i]?) h
  obtain ⟨hl, _⟩ := List.getElem?_eq_some_iff.1 hx
  simp only [List.getElem?_set_self hl, hx] at h1
  injection h1 with h1
  exact hy h1
theorem append_ne {l : List UInt8} {y : UInt8} : l ++ [y] ≠ l := by
  intro h
  have := congrArg List.length h
  simp at this
theorem own_tnV {b1 b2 b3 B : Nat} {w w' : World} {base : Nat} {e : TypeId} {A : Option Addr} {n c : Nat} {xs : List Value} (h : w.ownsRow base e 1 (.slice A n c) n xs) (hT : Tn (ownV b1 b2 b3) B w w') : w'.ownsRow base e 1 (.slice A n c) n xs := by
  refine own_same h fun ad e1 => ?_
  rcases h.2 with ⟨e2, _⟩ | ⟨g, cap, cur, e2, _, hg, _⟩
  · injection e2 with e2; rw [e2] at e1; cases e1
  · injection e2 with e2
    rw [e2] at e1
    injection e1 with e1
    subst e1
    exact hT.block _ (Array.getElem?_eq_some_iff.1 hg).1 (.inr (by rw [hg]; simp [Turns, ownV]))
theorem Rd.belowB {w w' : World} {A : Option Addr} {n : Nat} {xs : List Value} (h : Rd w A n xs) {B : Nat} (hB : Below B w w') (ha : ∀ ad, A = some ad → ad.block < B) : Rd w' A n xs :=
  ⟨h.1, fun i u hu => by
    obtain ⟨ad, e, hc⟩ := h.2 i u hu
    exact ⟨ad, e, (World.cell?_of_block (hB.block (ad.add i).block (by rw [add_block]; exact ha ad e))).trans hc⟩⟩
section
variable {ops : Array Oper} {rest : List Oper} {o : Oper} {a : Act} {w : World} {Q : Exit → Act → World → Prop}
theorem wpList_toI (hgd : o.guard = none) (x : Operand) (ho : o.op = .convert 39 3 x) {z : Int} {i : Nat} (h : wrap64 z = (i : Int)) (hx : a.eval x = .int .u64 z) (hK : wpList Tryd.prog ops Q rest (a.put o.dst (.int .i64 (i : Int))) w) : wpList Tryd.prog ops Q (o :: rest) a w := by
  obtain ⟨dst, op, tt, ps, af, gd⟩ := o
  simp only at ho hgd
  subst ho
  exact wpList_val hgd _ _ (run_toI Tryd.underlying39 Tryd.underlying3 h hx) hK
theorem wpList_idxRow (hgd : o.guard = none) (x y : Operand) (ho : o.op = .indexAddr 27 x y) {g n c k : Nat} (h1 : a.eval x = .slice (some ⟨g, 0, none⟩) n c) (h2 : a.eval y = .int .i64 (k : Int)) (hk : k < n) (hK : wpList Tryd.prog ops Q rest (a.put o.dst (.pointer (some ⟨g, k, none⟩))) w) : wpList Tryd.prog ops Q (o :: rest) a w := by
  obtain ⟨dst, op, tt, ps, af, gd⟩ := o
  simp only at ho hgd
  subst ho
  exact wpList_val hgd _ _ (run_idxRow h1 h2 hk) hK
theorem wpList_byteN (hgd : o.guard = none) (x : Operand) (ho : o.op = .convert 3 5 x) {n : Nat} (hn : n < 256) (h1 : a.eval x = .int .i64 (n : Int)) (hK : wpList Tryd.prog ops Q rest (a.put o.dst (.int .u8 ((UInt8.ofNat n).toNat : Int))) w) : wpList Tryd.prog ops Q (o :: rest) a w := by
  obtain ⟨dst, op, tt, ps, af, gd⟩ := o
  simp only at ho hgd
  subst ho
  exact wpList_val hgd _ _ (run_byteN Tryd.underlying3 Tryd.underlying5 hn h1) hK
theorem wpList_xor8 (hgd : o.guard = none) (x y : Operand) {T U : TypeId} (ho : o.op = .binOp .xor T x y U) (b d : UInt8) (h1 : a.eval x = .int .u8 (b.toNat : Int)) (h2 : a.eval y = .int .u8 (d.toNat : Int)) (hK : wpList Tryd.prog ops Q rest (a.put o.dst (.int .u8 ((b ^^^ d).toNat : Int))) w) : wpList Tryd.prog ops Q (o :: rest) a w := by
  obtain ⟨dst, op, tt, ps, af, gd⟩ := o
  simp only at ho hgd
  subst ho
  exact wpList_val hgd _ _ (run_xor8 h1 h2) hK
end
set_option maxRecDepth 100000 in
set_option maxHeartbeats 32000000 in
theorem law_vforged (zw ze zc zk : Int) (A : Option Addr) (n c : Nat) (l0 : List UInt8) (D : Option Addr) (m d : Nat) (m0 : List UInt8) (zh : Int) (y : UInt8) (zt zb : Int) (w : World) (hnc : n ≤ c) (hmd : m ≤ d) (hr0 : Rd w A n (u8s l0)) (hb0 : Rd w D m (u8s m0)) (gw : Glob w) :
    Calls Tryd.prog 4 #[.agg (actC zw ze zc zk A n c D m d zh y).toArray, .int .i64 zt, .int .i64 zb] w fun e w' => e = .returned (.bool true) ∧ Gr w w' := by
  obtain ⟨i0, hi0, hz0, hz1, hz2⟩ := info_parts Tryd.info5
  obtain ⟨K, hK⟩ : ∃ K : List UInt8, K = 7 :: List.replicate 31 0 := ⟨_, rfl⟩
  have hKl : K.length = 32 := by rw [hK]; rfl
  have HI : Hid (∀ w, Calls Tryd.prog 9 #[.agg #[.int .u8 7, .int .u8 0, .int .u8 0, .int .u8 0, .int .u8 0, .int .u8 0, .int .u8 0, .int .u8 0, .int .u8 0, .int .u8 0, .int .u8 0, .int .u8 0, .int .u8 0, .int .u8 0, .int .u8 0, .int .u8 0, .int .u8 0, .int .u8 0, .int .u8 0, .int .u8 0, .int .u8 0, .int .u8 0, .int .u8 0, .int .u8 0, .int .u8 0, .int .u8 0, .int .u8 0, .int .u8 0, .int .u8 0, .int .u8 0, .int .u8 0, .int .u8 0]] w fun e w' => ∃ g b1 b2 b3, e = .returned (.pointer (some ⟨g, 0, none⟩)) ∧ Gr w w' ∧ w.heap.size ≤ b1 ∧ b3 < w'.heap.size ∧ w.heap.size ≤ g ∧ ∀ τ B, B ≤ b1 → VIs τ B w' g b1 b2 b3 ⟨true, K, [], []⟩) := by
    intro w
    rw [hK]
    exact ideal_any (7 :: List.replicate 31 0) rfl w
  clear hK
  obtain ⟨k1, hk1⟩ : ∃ k, k = min n 40 := ⟨_, rfl⟩
  obtain ⟨k2, hk2⟩ : ∃ k, k = min m 100 := ⟨_, rfl⟩
  have h140 : k1 ≤ 40 := by omega
  have h2100 : k2 ≤ 100 := by omega
  obtain ⟨WI, hWI⟩ : ∃ l, l = l0.take k1 := ⟨_, rfl⟩
  obtain ⟨BB, hBB⟩ : ∃ l, l = m0.take k2 := ⟨_, rfl⟩
  have hl0 : l0.length = n := by simpa using hr0.1
  have hm0 : m0.length = m := by simpa using hb0.1
  have hWIl : WI.length = k1 := by rw [hWI, List.length_take]; omega
  have hBBl : BB.length = k2 := by rw [hBB, List.length_take]; omega
  have HC1 : Hid (∀ w, Rd w A n (u8s l0) → Calls Tryd.prog 11 #[.slice A n c, .int .i64 40] w fun e w' => ∃ v, e = .returned v ∧ w'.ownsRow w.heap.size 5 1 v k1 (u8s WI) ∧ Gr w w') := by
    intro w h
    rw [hWI]
    exact cut_any A n c l0 40 k1 hk1 (by omega) w hnc h
  have HC2 : Hid (∀ w, Rd w D m (u8s m0) → Calls Tryd.prog 11 #[.slice D m d, .int .i64 100] w fun e w' => ∃ v, e = .returned v ∧ w'.ownsRow w.heap.size 5 1 v k2 (u8s BB) ∧ Gr w w') := by
    intro w h
    rw [hBB]
    exact cut_any D m d m0 100 k2 hk2 (by omega) w hmd h
  obtain ⟨qe, hqe, eqe⟩ := wrap_remN ze 9 (by omega) (by omega)
  obtain ⟨qc, hqc, eqc⟩ := wrap_remN zc 9 (by omega) (by omega)
  obtain ⟨qk, hqk, eqk⟩ := wrap_remN zk 9 (by omega) (by omega)
  obtain ⟨qb, hqb, eqb⟩ := wrap_remN zb 6 (by omega) (by omega)
  obtain ⟨qt, hqt, eqt⟩ := wrap_remN zt 6 (by omega) (by omega)
  obtain ⟨e, he⟩ : ∃ e, e = 1 + qe := ⟨_, rfl⟩
  obtain ⟨cl, hcl⟩ : ∃ e, e = 1 + qc := ⟨_, rfl⟩
  obtain ⟨k, hk⟩ : ∃ e, e = 1 + qk := ⟨_, rfl⟩
  obtain ⟨nb, hnb⟩ : ∃ e, e = 1 + qb := ⟨_, rfl⟩
  have EE : Hid (wrap64 ((IntKind.u64.wrap ze).tmod ((9 : Nat) : Int)) = (qe : Int)) := eqe
  have EC : Hid (wrap64 ((IntKind.u64.wrap zc).tmod ((9 : Nat) : Int)) = (qc : Int)) := eqc
  have EK : Hid (wrap64 ((IntKind.u64.wrap zk).tmod ((9 : Nat) : Int)) = (qk : Int)) := eqk
  have EB : Hid (wrap64 ((IntKind.u64.wrap zb).tmod 6) = (qb : Int)) := eqb
  have ET : Hid (wrap64 ((IntKind.u64.wrap zt).tmod 6) = (qt : Int)) := eqt
  have SB : Hid (wrap64 (1 + (qb : Int)) = (nb : Int)) := by show _ = _; rw [IntWalk.wrap64_in _ (by omega)]; omega
  have SE : Hid (1 + qe = e) := he.symm
  have SC : Hid (1 + qc = cl) := hcl.symm
  have SK : Hid (1 + qk = k) := hk.symm
  have he9 : e ≤ 9 := by omega
  have hc9 : cl ≤ 9 := by omega
  have hk9 : k ≤ 9 := by omega
  have hnb1 : 0 < nb := by omega
  have hnb6 : nb ≤ 6 := by omega
  have he1 : 1 ≤ e := by omega
  have hc1 : 1 ≤ cl := by omega
  have hk1' : 1 ≤ k := by omega
  have hR0 : Right e cl k := by unfold Right; omega
  have HVs := Lib.hid vaults_any
  have h3 : Arr (w.alloc (.cells (actC zw ze zc zk A n c D m d zh y).toArray 29)) w.heap.size 29 (actC zw ze zc zk A n c D m d zh y) := Arr.newAt rfl rfl
  have G0 : Gr w (w.alloc (.cells (actC zw ze zc zk A n c D m d zh y).toArray 29)) := Gr.alloc _ _
  clear hk1 hk2 hWI hBB hl0 hm0 eqe eqc eqk eqb eqt he hcl hk hnb hqb
  go_enter Tryd.func4, Tryd.ntmps4
  go_upto_region 1 with fail
  change Code.wp _ _ _ _ (w.alloc (.cells (actC zw ze zc zk A n c D m d zh y).toArray 29))
  generalize w.alloc (.cells (actC zw ze zc zk A n c D m d zh y).toArray 29) = w0 at h3 G0 ⊢
  generalize hg3 : w.heap.size = B at h3 ⊢
  clear hg3
  generalize B = g3 at h3 ⊢
  go_wp2_with fail
  refine (HI.out w0).mono ?_
  rintro r w1 ⟨g, b1, b2, b3, rfl, hG1, hb1, hb3, hg, hVA⟩
  have hs0 := G0.size
  have hV1 := hVA mapT w.heap.size (by omega)
  have h31 := h3.gr hG1
  have hG01 := G0.trans hG1
  clear hVA h3 hG1 G0 HI
  have hrA := hG01.rd hr0
  have hbA := hG01.rd hb0
  have gwA := gw.gr hG01
  have c4 := h31.cell (i := 4) (v := .slice A n c) rfl
  have c5 := h31.cell (i := 5) (v := .slice D m d) rfl
  generalize w1 = wA at *
  go_upto_region 2 with fail
  refine wp_region_ssaL (by kernel_rfl) [IsV (.pointer (some ⟨g3, 4, none⟩)), IsV (.slice A n c), CopyV wA.heap.size 5 WI, IsV (.pointer (some ⟨g3, 5, none⟩)), IsV (.slice D m d), CopyV wA.heap.size 5 BB, CopyV wA.heap.size 5 WI, CopyV wA.heap.size 5 BB] (by kernel_rfl) ?_ ?_ ?_
  · intro φ hφ v w1 w2 h hg
    simp only [List.mem_cons, List.not_mem_nil, or_false] at hφ
    rcases hφ with rfl | rfl | rfl | rfl | rfl | rfl | rfl | rfl
    all_goals first | exact h | exact RdV.gr h hg | exact CopyV.gr h hg
  · refine ⟨?_, ?_, ?_, ?_, ?_, ?_, ?_, ?_, trivial⟩
    · intro a1 w1 hG hF
      have e3 : a1.eval (.tmp 3) = .pointer (some ⟨g3, 0, none⟩) := hF.ol 3 (by kernel_rfl)
      exact s_is rfl (wants0 rfl) _ rfl (run_field (o := 4) (k := 0) Tryd.underlying29 rfl rfl (by kernel_rfl) e3)
    · intro a1 w1 hG hF
      obtain ⟨_, e20, rfl⟩ := hF.dp 0 20 (by kernel_rfl)
      exact s_is rfl (wants0 rfl) _ rfl (run_load1B (.inr (.inr (.inr (.inl ⟨_, Tryd.underlying27⟩)))) e20 (Gr.cell ((Gr.drew wA).trans hG) c4))
    · intro a1 w1 hG hF
      obtain ⟨_, e21, rfl⟩ := hF.dp 1 21 (by kernel_rfl)
      exact s_call rfl (wants0 rfl) _ rfl _ _ (by simp only [execOp, resolve, invoke, List.map_toArray, List.map_cons, List.map_nil, e21]; go_simp) ((HC1.out w1 (((Gr.drew wA).trans hG).rd hrA)).mono fun e w2 ⟨v, he, ho, hb⟩ => ⟨_, he, (by unfold CopyV; rw [hWIl]; exact own_lower ho ((Gr.drew wA).trans hG).size), hb⟩)
    · intro a1 w1 hG hF
      have e3 : a1.eval (.tmp 3) = .pointer (some ⟨g3, 0, none⟩) := hF.ol 3 (by kernel_rfl)
      exact s_is rfl (wants0 rfl) _ rfl (run_field (o := 5) (k := 0) Tryd.underlying29 rfl rfl (by kernel_rfl) e3)
    · intro a1 w1 hG hF
      obtain ⟨_, e23, rfl⟩ := hF.dp 3 23 (by kernel_rfl)
      exact s_is rfl (wants0 rfl) _ rfl (run_load1B (.inr (.inr (.inr (.inl ⟨_, Tryd.underlying27⟩)))) e23 (Gr.cell ((Gr.drew wA).trans hG) c5))
    · intro a1 w1 hG hF
      obtain ⟨_, e24, rfl⟩ := hF.dp 4 24 (by kernel_rfl)
      exact s_call rfl (wants0 rfl) _ rfl _ _ (by simp only [execOp, resolve, invoke, List.map_toArray, List.map_cons, List.map_nil, e24]; go_simp) ((HC2.out w1 (((Gr.drew wA).trans hG).rd hbA)).mono fun e w2 ⟨v, he, ho, hb⟩ => ⟨_, he, (by unfold CopyV; rw [hBBl]; exact own_lower ho ((Gr.drew wA).trans hG).size), hb⟩)
    · intro a1 w1 hG hF
      exact s_same rfl (wants0 rfl) (.tmp 22) (.inl rfl) (hF.dp 2 22 (by kernel_rfl))
    · intro a1 w1 hG hF
      exact s_same rfl (wants0 rfl) (.tmp 25) (.inl rfl) (hF.dp 5 25 (by kernel_rfl))
  · intro vs w1 hG hf
    have y8 : (CopyV wA.heap.size 5 WI) (vs 6) w1 := hf.2.2.2.2.2.2.1
    have y9 : (CopyV wA.heap.size 5 BB) (vs 7) w1 := hf.2.2.2.2.2.2.2.1
    clear hf
    simp only [putAll, Nat.zero_add, Nat.reduceAdd]
    have hG4 := (Gr.drew wA).trans hG
    obtain ⟨A6, c6, z6', hc6, hA6, hr6⟩ := own_form3 y8
    obtain ⟨A7, c7, z7', hc7, hA7, hr7⟩ := own_form3 y9
    rw [z6', z7']
    rw [z6'] at y8
    rw [z7'] at y9
    unfold CopyV at y8 y9
    rw [hWIl] at y8 hc6 hA6 hr6 ⊢
    rw [hBBl] at y9 hc7 hA7 hr7 ⊢
    have hsA := hG4.size
    have hltgA := hV1.arr.lt
    have hlt3A := hV1.table.choose_spec.1.lt
    have hV4 := hV1.gr hG4
    have h34 := h31.gr hG4
    have gw4 := gwA.gr hG4
    have hG04 := hG01.trans hG4
    generalize w1 = w4 at hV4 h34 gw4 hG04 hr6 hr7 y8 y9 hsA ⊢
    clear hG4 hG hV1 h31 gwA hG01 hrA hbA c4 c5 z6' z7'
    have c1 := h34.cell (i := 1) (v := .int .i64 ze) rfl
    have c2 := h34.cell (i := 2) (v := .int .i64 zc) rfl
    have c3 := h34.cell (i := 3) (v := .int .i64 zk) rfl
    go_simp
    go_upto_region 3 with fail
    refine wp_region_ssaL (by kernel_rfl) [IsV (.pointer (some ⟨g3, 1, none⟩)), IsV (.int .i64 (ze)), IsV (.int .u64 (IntKind.u64.wrap ze)), IsV (.int .u64 ((IntKind.u64.wrap ze).tmod ((9 : Nat) : Int))), IsV (.int .i64 ((qe : Nat) : Int)), IsV (.int .i64 ((1 + qe : Nat) : Int)), IsV (.pointer (some ⟨g3, 2, none⟩)), IsV (.int .i64 (zc)), IsV (.int .u64 (IntKind.u64.wrap zc)), IsV (.int .u64 ((IntKind.u64.wrap zc).tmod ((9 : Nat) : Int))), IsV (.int .i64 ((qc : Nat) : Int)), IsV (.int .i64 ((1 + qc : Nat) : Int)), IsV (.pointer (some ⟨g3, 3, none⟩)), IsV (.int .i64 (zk)), IsV (.int .u64 (IntKind.u64.wrap zk)), IsV (.int .u64 ((IntKind.u64.wrap zk).tmod ((9 : Nat) : Int))), IsV (.int .i64 ((qk : Nat) : Int)), IsV (.int .i64 ((1 + qk : Nat) : Int)), IsV (.int .i64 ((1 + qe : Nat) : Int)), IsV (.int .i64 ((1 + qc : Nat) : Int)), IsV (.int .i64 ((1 + qk : Nat) : Int))] (by kernel_rfl) ?_ ?_ ?_
    · intro φ hφ v w1 w2 h hg
      simp only [List.mem_cons, List.not_mem_nil, or_false] at hφ
      rcases hφ with rfl | rfl | rfl | rfl | rfl | rfl | rfl | rfl | rfl | rfl | rfl | rfl | rfl | rfl | rfl | rfl | rfl | rfl | rfl | rfl | rfl
      all_goals first | exact h | exact RdV.gr h hg
    · refine ⟨?_, ?_, ?_, ?_, ?_, ?_, ?_, ?_, ?_, ?_, ?_, ?_, ?_, ?_, ?_, ?_, ?_, ?_, ?_, ?_, ?_, trivial⟩
      · intro a1 w1 hG hF
        have e3 : a1.eval (.tmp 3) = .pointer (some ⟨g3, 0, none⟩) := hF.ol 3 (by kernel_rfl)
        exact s_is rfl (wants0 rfl) _ rfl (run_field (o := 1) (k := 0) Tryd.underlying29 rfl rfl (by kernel_rfl) e3)
      · intro a1 w1 hG hF
        obtain ⟨_, e26, rfl⟩ := hF.dp 0 26 (by kernel_rfl)
        exact s_is rfl (wants0 rfl) _ rfl (run_load1 Tryd.underlying3 e26 (Gr.cell ((Gr.drew w4).trans hG) c1))
      · intro a1 w1 hG hF
        obtain ⟨_, e27, rfl⟩ := hF.dp 1 27 (by kernel_rfl)
        exact s_is rfl (wants0 rfl) _ rfl (run_toU Tryd.underlying3 Tryd.underlying39 e27)
      · intro a1 w1 hG hF
        obtain ⟨_, e28, rfl⟩ := hF.dp 2 28 (by kernel_rfl)
        exact s_is rfl (wants0 rfl) _ rfl (run_remU (m := 9) (by omega) e28 rfl)
      · intro a1 w1 hG hF
        obtain ⟨_, e29, rfl⟩ := hF.dp 3 29 (by kernel_rfl)
        exact s_is rfl (wants0 rfl) _ rfl (run_toI Tryd.underlying39 Tryd.underlying3 EE.out e29)
      · intro a1 w1 hG hF
        obtain ⟨_, e30, rfl⟩ := hF.dp 4 30 (by kernel_rfl)
        exact s_is rfl (wants0 rfl) _ rfl (run_addN (a := 1) (b := qe) rfl e30 (by omega))
      · intro a1 w1 hG hF
        have e3 : a1.eval (.tmp 3) = .pointer (some ⟨g3, 0, none⟩) := hF.ol 3 (by kernel_rfl)
        exact s_is rfl (wants0 rfl) _ rfl (run_field (o := 2) (k := 0) Tryd.underlying29 rfl rfl (by kernel_rfl) e3)
      · intro a1 w1 hG hF
        obtain ⟨_, e32, rfl⟩ := hF.dp 6 32 (by kernel_rfl)
        exact s_is rfl (wants0 rfl) _ rfl (run_load1 Tryd.underlying3 e32 (Gr.cell ((Gr.drew w4).trans hG) c2))
      · intro a1 w1 hG hF
        obtain ⟨_, e33, rfl⟩ := hF.dp 7 33 (by kernel_rfl)
        exact s_is rfl (wants0 rfl) _ rfl (run_toU Tryd.underlying3 Tryd.underlying39 e33)
      · intro a1 w1 hG hF
        obtain ⟨_, e34, rfl⟩ := hF.dp 8 34 (by kernel_rfl)
        exact s_is rfl (wants0 rfl) _ rfl (run_remU (m := 9) (by omega) e34 rfl)
      · intro a1 w1 hG hF
        obtain ⟨_, e35, rfl⟩ := hF.dp 9 35 (by kernel_rfl)
        exact s_is rfl (wants0 rfl) _ rfl (run_toI Tryd.underlying39 Tryd.underlying3 EC.out e35)
      · intro a1 w1 hG hF
        obtain ⟨_, e36, rfl⟩ := hF.dp 10 36 (by kernel_rfl)
        exact s_is rfl (wants0 rfl) _ rfl (run_addN (a := 1) (b := qc) rfl e36 (by omega))
      · intro a1 w1 hG hF
        have e3 : a1.eval (.tmp 3) = .pointer (some ⟨g3, 0, none⟩) := hF.ol 3 (by kernel_rfl)
        exact s_is rfl (wants0 rfl) _ rfl (run_field (o := 3) (k := 0) Tryd.underlying29 rfl rfl (by kernel_rfl) e3)
      · intro a1 w1 hG hF
        obtain ⟨_, e38, rfl⟩ := hF.dp 12 38 (by kernel_rfl)
        exact s_is rfl (wants0 rfl) _ rfl (run_load1 Tryd.underlying3 e38 (Gr.cell ((Gr.drew w4).trans hG) c3))
      · intro a1 w1 hG hF
        obtain ⟨_, e39, rfl⟩ := hF.dp 13 39 (by kernel_rfl)
        exact s_is rfl (wants0 rfl) _ rfl (run_toU Tryd.underlying3 Tryd.underlying39 e39)
      · intro a1 w1 hG hF
        obtain ⟨_, e40, rfl⟩ := hF.dp 14 40 (by kernel_rfl)
        exact s_is rfl (wants0 rfl) _ rfl (run_remU (m := 9) (by omega) e40 rfl)
      · intro a1 w1 hG hF
        obtain ⟨_, e41, rfl⟩ := hF.dp 15 41 (by kernel_rfl)
        exact s_is rfl (wants0 rfl) _ rfl (run_toI Tryd.underlying39 Tryd.underlying3 EK.out e41)
      · intro a1 w1 hG hF
        obtain ⟨_, e42, rfl⟩ := hF.dp 16 42 (by kernel_rfl)
        exact s_is rfl (wants0 rfl) _ rfl (run_addN (a := 1) (b := qk) rfl e42 (by omega))
      · intro a1 w1 hG hF
        exact s_same rfl (wants0 rfl) (.tmp 31) (.inl rfl) (hF.dp 5 31 (by kernel_rfl))
      · intro a1 w1 hG hF
        exact s_same rfl (wants0 rfl) (.tmp 37) (.inl rfl) (hF.dp 11 37 (by kernel_rfl))
      · intro a1 w1 hG hF
        exact s_same rfl (wants0 rfl) (.tmp 43) (.inl rfl) (hF.dp 17 43 (by kernel_rfl))
    · intro vs w1 hG hf
      have z10 : vs 18 = .int .i64 ((1 + qe : Nat) : Int) := hf.2.2.2.2.2.2.2.2.2.2.2.2.2.2.2.2.2.2.1
      have z11 : vs 19 = .int .i64 ((1 + qc : Nat) : Int) := hf.2.2.2.2.2.2.2.2.2.2.2.2.2.2.2.2.2.2.2.1
      have z12 : vs 20 = .int .i64 ((1 + qk : Nat) : Int) := hf.2.2.2.2.2.2.2.2.2.2.2.2.2.2.2.2.2.2.2.2.1
      clear hf
      simp only [putAll, Nat.zero_add, Nat.reduceAdd, z10, z11, z12]
      have hG5 := (Gr.drew w4).trans hG
      have hs45 := hG5.size
      have hV5 := hV4.gr hG5
      have gw5 := gw4.gr hG5
      have hG05 := hG04.trans hG5
      have y85 := Gr.own hG5 y8
      have hr65 := hG5.rd hr6
      have hr75 := hG5.rd hr7
      generalize w1 = w5 at hV5 gw5 hG05 hr65 hr75 y85 hs45 ⊢
      clear hG5 hG hV4 h34 gw4 hG04 hr6 hr7 y8 y9 c1 c2 c3
      simp only [SE.out, SC.out, SK.out]
      go_simp
      go_wp2_with fail
      refine (vseal_ideal hV5 mapT_own (fun _ _ _ _ => rfl) rfl e cl k hR0 (by simp [Vt.spent]) A6 k1 c6 WI A7 k2 c7 BB (by omega) (by omega) hr65 hr75 hA7 (by simp)).mono ?_
      rintro r w6 ⟨x, rfl, ho6, hV6, hT6⟩
      obtain ⟨sz, hsz⟩ : ∃ s, s = k2 + 16 := ⟨_, rfl⟩
      obtain ⟨X, hX⟩ : ∃ X, X = (⟨true, K, [], []⟩ : Vt).out e cl k WI BB := ⟨_, rfl⟩
      rw [← hX, ← hsz] at ho6
      have hszb : sz ≤ 200 := by omega
      have hsz16 : 16 ≤ sz := by omega
      have hXl : X.length = sz := by simpa using ho6.1
      obtain ⟨g8, c8, cs8, rfl, hbg8, hc8, hcl8, hA8, htk8⟩ := own_arr ho6 (by omega)
      have hA6v := hV6.arr
      obtain ⟨T, hMT6, hTR⟩ := hV6.table
      have hkey : ∀ p ∈ T, p.1 = sealV e cl k WI X := by
        intro p hp
        obtain ⟨s, hs, e1⟩ := (hTR rfl).mem p hp
        have hs := List.mem_singleton.1 hs
        subst hs
        rw [e1, hX]
      have s6 := (rdS_copy (τ := mapT) (B := w.heap.size) y85 mapT2).tn (hT6.wide mapT_own)
      have y86 := own_tnV y85 hT6
      have gw6 := gw5.tn hT6
      have hT06 := (Tn.of_gr (τ := ownV b1 b2 b3) (B := w.heap.size) hG05).trans hT6
      have hlt3 := hV5.table.choose_spec.1.lt
      have hltg := hV5.arr.lt
      obtain ⟨A6', c6', eA6, _, hbA6⟩ := own_form y85
      injection eA6 with eA6 _ eC6
      subst eA6 eC6
      have hs56 := hT6.size
      clear hV5 gw5 hG05 hr65 hr75 y85 hT6 hV6 hTR hA6 hA7 hX hsz
      go_wp2_with fail
      refine (HVs.out w6 gw6).mono ?_
      rintro r w7 ⟨rfl, hG7⟩
      have hA87 := hA8.gr hG7
      have hAV := hA6v.gr hG7
      have hMT := hMT6.gr hG7
      have y87 := Gr.own hG7 y86
      have hr67 := (s6.gr hG7).rd
      have hB07 := (hT06.gr hG7).below (Nat.le_refl _)
      have hs67 := hG7.size
      have hszi : ¬ (sz : Int) < 16 := by omega
      have hr8 : Rd w7 (some ⟨g8, 0, none⟩) sz (u8s X) := hA87.rdTake (by omega) htk8
      clear hA8 hA6v hMT6 y86 s6 hT06 gw6 HVs
      go_upto_region 8 with fail
      simp only [EB.out, SB.out]
      go_upto_region 10 with fail
      simp only [ET.out]
      have h6 : qt = 0 ∨ qt = 1 ∨ qt = 2 ∨ qt = 3 ∨ qt = 4 ∨ qt = 5 := by omega
      rcases h6 with rfl | rfl | rfl | rfl | rfl | rfl
      · obtain ⟨i, hi, eqi⟩ := wrap_remN zb sz (by omega) (by omega)
        have HIx : Hid (wrap64 ((IntKind.u64.wrap zb).tmod (sz : Int)) = (i : Int)) := eqi
        clear eqi
        obtain ⟨x0, hx0⟩ : ∃ x, X[i]? = some x := ⟨X[i]'(by omega), List.getElem?_eq_getElem (by omega)⟩
        have hc0 : w7.cell? ⟨g8, i, none⟩ = some (.int .u8 (x0.toNat : Int)) := hA87.cell (by
          have h1 : (cs8.take sz)[i]? = some (.int .u8 (x0.toNat : Int)) := by rw [htk8]; exact u8s_at hx0
          rwa [List.getElem?_take, if_pos hi] at h1)
        have hszz : ¬ sz = 0 := by omega
        have hszj : (sz : Int) ≤ 200 := by omega
        go_upto_region 20 with first
          | (refine wpList_toI rfl (.tmp 87) rfl HIx.out rfl ?_)
          | (refine wpList_idxRow rfl (.tmp 81) (.tmp 88) rfl rfl rfl hi ?_)
          | (refine wpList_byteN rfl (.tmp 91) rfl (n := nb) (by omega) rfl ?_)
          | (refine wpList_xor8 rfl (.tmp 90) (.tmp 92) rfl x0 (UInt8.ofNat nb) rfl rfl ?_)
          | (refine wpList_setA hA87 rfl 5 (.tmp 94) (.tmp 93) rfl (by kernel_rfl) i .u8 ((x0 ^^^ UInt8.ofNat nb).toNat : Int) rfl rfl (by omega) ?_; intro w8 hA88 hB8 hO8)
        have hr88 : Rd w8 (some ⟨g8, 0, none⟩) sz (u8s (X.set i (x0 ^^^ UInt8.ofNat nb))) := hA88.rdTake (by rw [List.length_set]; omega) (by rw [List.take_set, htk8, u8s_set])
        have hAV8 := hAV.below hB8 (by omega)
        have hMT8 := hMT.same (hB8.block b3 (by omega))
        have hr68 := hr67.belowB hB8 (fun ad h => by have := hbA6 ad h; omega)
        have hB08 := hB07.trans (hB8.mono (by omega))
        have hne := set_ne hx0 (xor_ne (x := x0) hnb1 (by omega))
        go_wp2_with fail
        refine (vopen_miss hAV8 hKl hMT8 e cl k hR0 A6 k1 c6 WI (some ⟨g8, 0, none⟩) sz c8 (X.set i (x0 ^^^ UInt8.ofNat nb)) (by omega) (by omega) (by omega) hr68 hr88 (fun p hp => by rw [hkey p hp]; exact fun h => hne (sealV_inj h).2.2.2.2.symm)).mono ?_
        rintro r w9 ⟨rfl, hG9⟩
        have hF := hB08.trans (hG9.mono hB08.size)
        go_wp2_with fail
        go_ret
        exact ⟨rfl, hF⟩
      · obtain ⟨yb, hyb⟩ := byte_of zb
        have HY := Lib.hid hyb
        clear hyb
        go_wp2_with (at_builtin; go_must (refine wpList_app1 _ rfl (.tmp 97) (.tmp 100) 27 rfl wA.heap.size 5 i0 (.int .u8 0) 1 Tryd.underlying27 hi0 hz0 hz1 hz2 rfl (.slice A6 k1 c6) k1 _ rfl y87 _ (.int .u8 (yb.toNat : Int)) rfl (by rw [HY.out]) rfl (by omega) (by unfold maxLen; omega) (by omega) ?_))
        intro v8 w8 hA9
        have ho8 := hA9.own
        rw [show u8s WI ++ [Value.int .u8 (yb.toNat : Int)] = u8s (WI ++ [yb]) by simp [u8s]] at ho8
        have hB8 := hA9.below y87 (by omega)
        have hgr := hA9.grown
        obtain ⟨A9, c9, rfl, _, _⟩ := own_form ho8
        have hr68 := Rd.of_own ho8
        have hr88 := hr8.grown hgr (fun ad h => by
          injection h with h
          subst h
          cases A6 with
          | none => simp [Value.ownBlock]
          | some ad => have := hbA6 ad rfl; simp [Value.ownBlock]; omega)
        have hAV8 := hAV.below hB8 (by omega)
        have hMT8 := hMT.same (hB8.block b3 (by omega))
        have hB08 := hB07.trans (hB8.mono (by omega))
        have hne : WI ++ [yb] ≠ WI := append_ne
        clear hA9 hgr ho8 hB8
        go_simp
        go_wp2_with fail
        refine (vopen_miss hAV8 hKl hMT8 e cl k hR0 A9 (k1 + 1) c9 (WI ++ [yb]) (some ⟨g8, 0, none⟩) sz c8 X (by omega) (by omega) (by omega) hr68 hr88 (fun p hp => by rw [hkey p hp]; exact fun h => hne (sealV_inj h).2.2.2.1.symm)).mono ?_
        rintro r w9 ⟨rfl, hG9⟩
        have hF := hB08.trans (hG9.mono hB08.size)
        go_wp2_with fail
        go_ret
        exact ⟨rfl, hF⟩
      · obtain ⟨v2, hv2⟩ : ∃ q, q = e + nb := ⟨_, rfl⟩
        have HV2 : Hid ((e : Int) + (nb : Int) = (v2 : Int)) := by show _ = _; omega
        have hR2 : Right v2 cl k := by unfold Right; omega
        have hv2b : v2 ≤ 15 := by omega
        have hne : v2 ≠ e := by omega
        have vvb : (e : Int) ≤ 9 := by omega
        have nbb : (nb : Int) ≤ 6 := by omega
        clear hv2
        go_wp2_with fail
        simp only [HV2.out]
        refine (vopen_miss hAV hKl hMT v2 cl k hR2 A6 k1 c6 WI (some ⟨g8, 0, none⟩) sz c8 X (by omega) (by omega) (by omega) hr67 hr8 (fun p hp => by rw [hkey p hp]; exact fun h => hne (sealV_inj h).1.symm)).mono ?_
        rintro r w9 ⟨rfl, hG9⟩
        have hF := hB07.trans (hG9.mono hB07.size)
        go_wp2_with fail
        go_ret
        exact ⟨rfl, hF⟩
      · obtain ⟨v2, hv2⟩ : ∃ q, q = cl + nb := ⟨_, rfl⟩
        have HV2 : Hid ((cl : Int) + (nb : Int) = (v2 : Int)) := by show _ = _; omega
        have hR2 : Right e v2 k := by unfold Right; omega
        have hv2b : v2 ≤ 15 := by omega
        have hne : v2 ≠ cl := by omega
        have vvb : (cl : Int) ≤ 9 := by omega
        have nbb : (nb : Int) ≤ 6 := by omega
        clear hv2
        go_wp2_with fail
        simp only [HV2.out]
        refine (vopen_miss hAV hKl hMT e v2 k hR2 A6 k1 c6 WI (some ⟨g8, 0, none⟩) sz c8 X (by omega) (by omega) (by omega) hr67 hr8 (fun p hp => by rw [hkey p hp]; exact fun h => hne (sealV_inj h).2.1.symm)).mono ?_
        rintro r w9 ⟨rfl, hG9⟩
        have hF := hB07.trans (hG9.mono hB07.size)
        go_wp2_with fail
        go_ret
        exact ⟨rfl, hF⟩
      · obtain ⟨v2, hv2⟩ : ∃ q, q = k + nb := ⟨_, rfl⟩
        have HV2 : Hid ((k : Int) + (nb : Int) = (v2 : Int)) := by show _ = _; omega
        have hR2 : Right e cl v2 := by unfold Right; omega
        have hv2b : v2 ≤ 15 := by omega
        have hne : v2 ≠ k := by omega
        have vvb : (k : Int) ≤ 9 := by omega
        have nbb : (nb : Int) ≤ 6 := by omega
        clear hv2
        go_wp2_with fail
        simp only [HV2.out]
        refine (vopen_miss hAV hKl hMT e cl v2 hR2 A6 k1 c6 WI (some ⟨g8, 0, none⟩) sz c8 X (by omega) (by omega) (by omega) hr67 hr8 (fun p hp => by rw [hkey p hp]; exact fun h => hne (sealV_inj h).2.2.1.symm)).mono ?_
        rintro r w9 ⟨rfl, hG9⟩
        have hF := hB07.trans (hG9.mono hB07.size)
        go_wp2_with fail
        go_ret
        exact ⟨rfl, hF⟩
      · obtain ⟨yb, hyb⟩ := byte_of zb
        have HY := Lib.hid hyb
        have ho7 : w7.ownsRow w5.heap.size 5 1 (.slice (some ⟨g8, 0, none⟩) sz c8) sz (u8s X) := Gr.own hG7 ho6
        clear hyb
        go_wp2_with (at_builtin; go_must (refine wpList_app1 _ rfl (.tmp 74) (.tmp 77) 27 rfl w5.heap.size 5 i0 (.int .u8 0) 1 Tryd.underlying27 hi0 hz0 hz1 hz2 rfl _ sz _ rfl ho7 _ (.int .u8 (yb.toNat : Int)) rfl (by rw [HY.out]) rfl (by omega) (by unfold maxLen; omega) (by omega) ?_))
        intro v8 w8 hA9
        have ho8 := hA9.own
        rw [show u8s X ++ [Value.int .u8 (yb.toNat : Int)] = u8s (X ++ [yb]) by simp [u8s]] at ho8
        have hB8 := hA9.below ho7 (by omega)
        obtain ⟨A9, c9, rfl, _, _⟩ := own_form ho8
        have hr88 := Rd.of_own ho8
        have hr68 := hr67.belowB hB8 (fun ad h => by have := hbA6 ad h; omega)
        have hAV8 := hAV.below hB8 (by omega)
        have hMT8 := hMT.same (hB8.block b3 (by omega))
        have hB08 := hB07.trans (hB8.mono (by omega))
        have hne : X ++ [yb] ≠ X := append_ne
        clear hA9 ho8 hB8
        go_simp
        go_wp2_with fail
        refine (vopen_miss hAV8 hKl hMT8 e cl k hR0 A6 k1 c6 WI A9 (sz + 1) c9 (X ++ [yb]) (by omega) (by omega) (by omega) hr68 hr88 (fun p hp => by rw [hkey p hp]; exact fun h => hne (sealV_inj h).2.2.2.2.symm)).mono ?_
        rintro r w9 ⟨rfl, hG9⟩
        have hF := hB08.trans (hG9.mono hB08.size)
        go_wp2_with fail
        go_ret
        exact ⟨rfl, hF⟩
end Go.Proofs.YtnmhfomnlnlflaaDoor

