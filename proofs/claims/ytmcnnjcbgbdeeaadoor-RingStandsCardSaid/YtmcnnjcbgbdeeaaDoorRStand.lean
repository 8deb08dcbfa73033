/- The walk of the ring's Stand. No condition. -/
import Derived.Test.YtmcnnjcbgbdeeaaDoorRDel
namespace Go.Proofs.YtmcnnjcbgbdeeaaDoor
open Go.RowKit
/-- One more replica of the first ones. -/
def stepS (up : Nat → Bool) (s : List (Nat × Nat) × List Nat) (x : Nat) : List (Nat × Nat) × List Nat := if up x then (s.1 ++ [(x, x)], s.2) else match s.2 with | [] => s | y :: o => (s.1 ++ [(y, x)], o)
theorem fold_stand (up : Nat → Bool) : ∀ (a o : List Nat) (acc : List (Nat × Nat)), (a.foldl (stepS up) (acc, o)).1 = acc ++ standG up a o
  | [], _, _ => by simp [standG]
  | x :: r, o, acc => by
    rw [List.foldl_cons]
    by_cases hx : up x = true
    · rw [show stepS up (acc, o) x = (acc ++ [(x, x)], o) by simp [stepS, hx], fold_stand up r o (acc ++ [(x, x)])]
      simp [standG, hx]
    · cases o with
      | nil =>
        rw [show stepS up (acc, []) x = (acc, []) by simp [stepS, hx], fold_stand up r [] acc]
        simp [standG, hx]
      | cons y o =>
        rw [show stepS up (acc, y :: o) x = (acc ++ [(y, x)], o) by simp [stepS, hx], fold_stand up r o (acc ++ [(y, x)])]
        simp [standG, hx]
def standF (up : Nat → Bool) (W : List Nat) (n k : Nat) : List (Nat × Nat) × List Nat := ((W.take n).take k).foldl (stepS up) ([], (W.drop n).filter up)
theorem standF_succ {up : Nat → Bool} {W : List Nat} {n k x : Nat} (hk : k < n) (hx : W[k]? = some x) : standF up W n (k + 1) = stepS up (standF up W n k) x := by
  unfold standF
  rw [List.take_add_one, List.getElem?_take, if_pos hk, hx, List.foldl_append]
  rfl
theorem standF_end {up : Nat → Bool} {W : List Nat} {n : Nat} : (standF up W n n).1 = standG up (W.take n) ((W.drop n).filter up) := by
  unfold standF
  rw [List.take_take, Nat.min_self, fold_stand]
  rfl
def pairC (p : Nat × Nat) : List Value := [.int .i64 (p.1 : Int), .int .i64 (p.2 : Int)]
theorem pairC_length (p : Nat × Nat) : (pairC p).length = 2 := rfl
theorem infoPr : (Tryd.prog.info? 43).map (fun i => (i.size, i.bytes, i.zero.map fun z => z.cells.size)) = some (2, 16, some 2) := by kernel_rfl
/-- What Stand tells. -/
def StandQ (P : List (Nat × Nat)) (w : World) (e : Ending) (w' : World) : Prop := ∃ A c, e = .returned (.tuple #[.slice A P.length c, .int .i64 0]) ∧ w'.ownsRow w.heap.size 43 2 (.slice A P.length c) P.length (P.flatMap pairC) ∧ Gr w w'
/-- Where Stand stands. -/
def StandR (up : Nat → Bool) (W : List Nat) (n : Nat) (w : World) (ov yv i : Value) (wr : World) : Prop := ∃ (k N M : Nat) (out : List (Nat × Nat)) (o : List Nat) (A Ao : Option Addr) (c co : Nat), k ≤ n ∧ i = .int .i64 (k : Int) ∧ standF up W n k = (out, o) ∧ out.length = N ∧ o.length = M ∧ N ≤ k ∧ M ≤ co ∧ ov = .slice A N c ∧ yv = .slice Ao M co ∧
  wr.ownsRow w.heap.size 43 2 (.slice A N c) N (out.flatMap pairC) ∧ Rd w Ao M (numV o) ∧ Gr w wr
def pairT : Nat → Obj → Bool := fun _ o => match o with | .cells _ t _ => t == 43 | _ => false
set_option maxRecDepth 100000 in
set_option maxHeartbeats 4000000 in
theorem stand_nil (K : List UInt8) (n : Int) (U : Option Addr) (m c : Nat) (w : World) :
    Calls Tryd.prog 13 #[.pointer none, .agg (u8s K).toArray, .int .i64 n, .slice U m c] w fun e w' => e = .returned (.tuple #[.slice none 0 0, .int .i64 1]) ∧ Gr w w' := by
  have G0 : Gr w ((w.alloc (.cells (u8s K).toArray 23)).alloc (.cells #[.slice U m c] 44)) := (Gr.alloc _ _).trans ((Gr.alloc _ _).mono (by simp only [asz]; omega))
  go_enter Tryd.func13, Tryd.ntmps13
  go_upto_region 1 with fail
  change Code.wp _ _ _ _ ((w.alloc (.cells (u8s K).toArray 23)).alloc (.cells #[.slice U m c] 44))
  generalize (w.alloc (.cells (u8s K).toArray 23)).alloc (.cells #[.slice U m c] 44) = w0 at G0 ⊢
  go_quiet (fail)
  go_wp2_with fail
  refine bodyPost_ret (results_tmp2 rfl _ _ _) rfl ?_
  exact ⟨rfl, Below.trans G0 ⟨rfl, rfl, rfl, Nat.le_refl _, fun _ _ => rfl⟩⟩
set_option maxRecDepth 100000 in
set_option maxHeartbeats 4000000 in
theorem stand_len {w : World} {gR reps points : Nat} (h : RingAt w gR reps points) (K : List UInt8) (n : Nat) (hn1 : 1 ≤ n) (hn2 : n ≤ reps) (U : Option Addr) (m c : Nat) (hm : m ≠ reps) :
    Calls Tryd.prog 13 #[.pointer (some ⟨gR, 0, none⟩), .agg (u8s K).toArray, .int .i64 (n : Int), .slice U m c] w fun e w' => e = .returned (.tuple #[.slice none 0 0, .int .i64 1]) ∧ Gr w w' := by
  have G0 : Gr w ((w.alloc (.cells (u8s K).toArray 23)).alloc (.cells #[.slice U m c] 44)) := (Gr.alloc _ _).trans ((Gr.alloc _ _).mono (by simp only [asz]; omega))
  have h7 : Arr ((w.alloc (.cells (u8s K).toArray 23)).alloc (.cells #[.slice U m c] 44)) (w.heap.size + 1) 44 [.slice U m c] := Arr.newAt (by simp only [asz]) rfl
  have b1 : ¬ (n : Int) < 1 := by omega
  have b2 : (n : Int) ≤ (reps : Int) := by omega
  have b4 : decide (reps < n) = false := by simp; omega
  have b3 : ¬ (m : Int) = (reps : Int) := by omega
  have b5 : decide (m = reps) = false := by simpa using hm
  go_enter Tryd.func13, Tryd.ntmps13
  go_upto_region 1 with fail
  change Code.wp _ _ _ _ ((w.alloc (.cells (u8s K).toArray 23)).alloc (.cells #[.slice U m c] 44))
  generalize (w.alloc (.cells (u8s K).toArray 23)).alloc (.cells #[.slice U m c] 44) = w0 at G0 h7 ⊢
  obtain ⟨g7, hg⟩ : ∃ g, g = w.heap.size + 1 := ⟨_, rfl⟩
  rw [← hg] at h7
  simp only [← hg]
  clear hg
  obtain ⟨A, c', L, hA, _⟩ := h.gr G0
  have c0 := hA.cell (i := 0) (v := .int .i64 (reps : Int)) rfl
  have c7 := h7.cell (i := 0) (v := .slice U m c) rfl
  clear hA h h7
  go_quiet (fail)
  go_wp2_with fail
  refine bodyPost_ret (results_tmp2 rfl _ _ _) rfl ?_
  exact ⟨rfl, Below.trans G0 ⟨rfl, rfl, rfl, Nat.le_refl _, fun _ _ => rfl⟩⟩
theorem own_lo {w : World} {b b' : Nat} {e : TypeId} {size n : Nat} {v : Value} {xs : List Value} (h : w.ownsRow b e size v n xs) (hb : b' ≤ b) : w.ownsRow b' e size v n xs :=
  ⟨h.1, h.2.imp id fun ⟨g, cap, cur, h1, h2, h3⟩ => ⟨g, cap, cur, h1, Nat.le_trans hb h2, h3⟩⟩
def upF (ups : List Bool) (x : Nat) : Bool := ups.getD x false
theorem cutA_some {A : Option Addr} {c lo : Nat} (h : A ≠ none) : cutA A c lo ≠ none := by
  unfold cutA
  cases A with
  | none => exact absurd rfl h
  | some a => split <;> simp
set_option maxRecDepth 100000 in
set_option maxHeartbeats 16000000 in
theorem stand_any {w : World} {gR reps points : Nat} (h : RingAt w gR reps points) (h1 : 1 ≤ reps) (h2 : reps ≤ 8) (h3 : 1 ≤ points) (h4 : points ≤ 64) (K : List UInt8) (hK : K.length = 32) (n : Nat) (hn1 : 1 ≤ n) (hn2 : n ≤ reps) (U : Option Addr) (c : Nat) (ups : List Bool) (hU : Rd w U reps (ups.map Value.bool)) :
    Calls Tryd.prog 13 #[.pointer (some ⟨gR, 0, none⟩), .agg (u8s K).toArray, .int .i64 (n : Int), .slice U reps c] w fun e w' =>
      StandQ (standG (upF ups) ((nearL (nearOf atP (beNat (K.take 8)) points) reps).take n) (((nearL (nearOf atP (beNat (K.take 8)) points) reps).drop n).filter (upF ups))) w e w' := by
  obtain ⟨iA, zA, hiA, hzA, hA1, hA2, hA3⟩ : ∃ i z, Tryd.prog.info? 43 = some i ∧ i.zero = some z ∧ i.size = 2 ∧ i.bytes = 16 ∧ z.cells.size = 2 := by
    cases hie : Tryd.prog.info? 43 with
    | none => have := infoPr; rw [hie] at this; cases this
    | some ie =>
      have hq := infoPr
      rw [hie] at hq
      simp only [Option.map_some, Option.some.injEq, Prod.mk.injEq] at hq
      obtain ⟨q1, q2, q3⟩ := hq
      cases hz : ie.zero with
      | none => rw [hz] at q3; cases q3
      | some z =>
        rw [hz] at q3
        exact ⟨ie, z, rfl, hz, q1, q2, by simpa using q3⟩
  obtain ⟨W, hW⟩ : ∃ W, W = nearL (nearOf atP (beNat (K.take 8)) points) reps := ⟨_, rfl⟩
  have hWm : ∀ x ∈ W, x < reps := fun x hx => by rw [hW] at hx; exact (mem_nearL _ _ _).1 hx
  have hWl : W.length = reps := by rw [hW, nearL_length]
  have HWk : Hid (∀ w, RingAt w gR reps points → Calls Tryd.prog 9 #[.pointer (some ⟨gR, 0, none⟩), .agg (u8s K).toArray] w fun e w' => ∃ u, e = .returned u ∧ w'.ownsRow w.heap.size 3 1 u reps (numV W) ∧ Gr w w') := fun w h => by
    rw [hW]
    exact walkAt_any h h1 h2 h3 h4 K hK
  rw [← hW]
  have hul : ups.length = reps := by have := hU.1; simpa using this
  have hup : ∀ x, x < reps → ups[x]? = some (upF ups x) := fun x hx => by
    unfold upF
    rw [List.getD_eq_getElem?_getD, List.getElem?_eq_getElem (by omega)]
    rfl
  obtain ⟨up, hupe⟩ : ∃ up, up = upF ups := ⟨_, rfl⟩
  rw [← hupe] at hup ⊢
  have G0 : Gr w ((w.alloc (.cells (u8s K).toArray 23)).alloc (.cells #[.slice U reps c] 44)) := (Gr.alloc _ _).trans ((Gr.alloc _ _).mono (by simp only [asz]; omega))
  have h7 : Arr ((w.alloc (.cells (u8s K).toArray 23)).alloc (.cells #[.slice U reps c] 44)) (w.heap.size + 1) 44 [.slice U reps c] := Arr.newAt (by simp only [asz]) rfl
  have h5 : Arr ((w.alloc (.cells (u8s K).toArray 23)).alloc (.cells #[.slice U reps c] 44)) w.heap.size 23 (u8s K) := Arr.alloc (Arr.newAt rfl rfl) _
  have b1 : ¬ (n : Int) < 1 := by omega
  have b2 : (n : Int) ≤ (reps : Int) := by omega
  have b4 : decide (reps < n) = false := by simp; omega
  clear hW hupe
  go_enter Tryd.func13, Tryd.ntmps13
  go_upto_region 1 with fail
  change Code.wp _ _ _ _ ((w.alloc (.cells (u8s K).toArray 23)).alloc (.cells #[.slice U reps c] 44))
  generalize (w.alloc (.cells (u8s K).toArray 23)).alloc (.cells #[.slice U reps c] 44) = w0 at G0 h7 h5 ⊢
  obtain ⟨g7, hg⟩ : ∃ g, g = w.heap.size + 1 := ⟨_, rfl⟩
  obtain ⟨g5, hg5⟩ : ∃ g, g = w.heap.size := ⟨_, rfl⟩
  rw [← hg] at h7
  rw [← hg5] at h5
  simp only [← hg]
  simp only [← hg5]
  clear hg hg5
  obtain ⟨A, c', L, hA, _⟩ := h.gr G0
  have c0 := hA.cell (i := 0) (v := .int .i64 (reps : Int)) rfl
  have c7 := h7.cell (i := 0) (v := .slice U reps c) rfl
  clear hA
  go_quiet (fail)
  have G1 : Gr w (w0.drewN nq) := Below.trans G0 ⟨rfl, rfl, rfl, Nat.le_refl _, fun _ _ => rfl⟩
  have G01 : Gr w0 (w0.drewN nq) := ⟨rfl, rfl, rfl, Nat.le_refl _, fun _ _ => rfl⟩
  have h71 := h7.gr G01
  have h51 := h5.gr G01
  generalize w0.drewN nq = w1 at G1 G01 h71 h51 ⊢
  have HR1 := Lib.hid (h.gr G1)
  have HU1 := Lib.hid (G1.rd hU)
  clear c0 c7 h7 h5 G0 G01 h hU
  go_wp2_with first
    | (refine wpList_load_mid rfl 23 (.tmp 5) rfl g5 0 rfl (u8s K) _ h51.range Tryd.underlying23 rfl (by simp only [u8s_length, hK]; kernel_rfl) ?_)
  refine (HWk.out w1 HR1.out).mono ?_
  rintro e w2 ⟨u, rfl, ho, hG2⟩
  obtain ⟨A1, c1, rfl, hc1, hA1n, hr1⟩ := own_form3 ho
  have h72 := (h71.gr hG2).cell (i := 0) (v := .slice U reps c) rfl
  have hU2 := hG2.rd HU1.out
  have G2 := Gr.trans G1 hG2
  have hA1s : A1 ≠ none := fun e => by have := hA1n e; omega
  have hcn : ∀ w, (Instr.sliceAt 30 (.slice A1 reps c1) (some (.int .i64 (n : Int))) none none).run Tryd.prog w = .ok (.slice (cutA A1 c1 n) (reps - n) (c1 - n)) w := fun w => run_cut_l (P := Tryd.prog) Tryd.underlying30 (by kernel_rfl) rfl hn2 w
  have hch : ∀ w, (Instr.sliceAt 30 (.slice A1 reps c1) none (some (.int .i64 (n : Int))) none).run Tryd.prog w = .ok (.slice A1 n c1) w := fun w => run_cut_h (P := Tryd.prog) Tryd.underlying30 (by kernel_rfl) rfl (by omega) w
  have hrd : Rd w2 (cutA A1 c1 n) (reps - n) (numV (W.drop n)) := by
    have := hr1.cut (k := n) (cap := c1) hn2 hc1
    rwa [numV_drop] at this
  have HCl := Lib.hid (cloneI_any (cutA A1 c1 n) (reps - n) (c1 - n) (W.drop n) (by omega) w2 hrd (fun e => absurd e (cutA_some hA1s)))
  generalize cutA A1 c1 n = Ac at hcn HCl
  have hDel : DelF up reps g7 w2.heap.size w2 := fun w' hB x hx => by
    have hB' : Gr w2 w' := hB
    exact stand1_any (Gr.cell hB' h72) (hB'.rd hU2) (hup x hx)
  have HDel := Lib.hid hDel
  have hr1' := hr1.take hn2
  rw [numV_take] at hr1'
  have hrn8 : reps - n ≤ 8 := by omega
  generalize reps - n = rn at hcn HCl hrn8
  clear hDel ho hrd HR1 HU1 h71 h51 HWk hA1n G1 hG2
  go_wp2_with fail
  refine HCl.out.mono ?_
  rintro e w3 ⟨v, rfl, ho3, hG3⟩
  obtain ⟨A3, c3, rfl, _, _, _⟩ := own_form3 ho3
  have hD3 := Lib.hid (deleteF_any (HDel.out.on hG3) ho3 (fun x hx => hWm x (List.mem_of_mem_drop hx)) (by omega))
  clear ho3 HCl HDel
  go_wp2_with fail
  --@2
  refine hD3.out.mono ?_
  rintro e w4 ⟨Ao, M0, co, rfl, hMo, hr4, hB4⟩
  have G24 : Gr w2 w4 := Below.trans hG3 hB4
  have h74 := Gr.cell G24 h72
  have hU4 := G24.rd hU2
  have hW4 := G24.rd hr1'
  have G4 := Gr.trans G2 G24
  have hlW : (W.take n).length = n := by rw [List.length_take]; omega
  clear hD3 hB4 hG3 G24 h72 hU2 hr1 hr1' G2 hcn
  go_upto_region 7 with fail
  go_simp
  go_loopw [11, 12, 51] (fun yv ov i wr => StandR up W n w4 ov yv i wr) (fun _ _ i _ => n - (intOf i).toNat)
  case atStart => exact ⟨0, 0, M0, [], (W.drop n).filter up, none, Ao, 0, co, Nat.zero_le _, rfl, rfl, rfl, by have := hr4.1; rwa [numV_length] at this, Nat.le_refl _, hMo, rfl, rfl, ⟨rfl, .inl ⟨rfl, rfl⟩⟩, hr4, Gr.refl _⟩
  case round =>
    obtain ⟨k, N, M, out, o, A8, Ay, c8, cy, hkn, rfl, hst, hN, hM, hNk, hMc, rfl, rfl, ho8, hro, hG8⟩ := hrel
    have HST := Lib.hid hst
    have HN := Lib.hid hN
    have HM := Lib.hid hM
    clear hst hN hM
    by_cases hlt : k < n
    · have hki : (k : Int) < (n : Int) := by omega
      have hkr : k < reps := by omega
      obtain ⟨ad, x, rfl, hxk, hcx⟩ := (hG8.rd hW4).num hlt
      rw [List.getElem?_take, if_pos hlt] at hxk
      have hxm : x < reps := hWm x (List.mem_of_getElem? hxk)
      have hxi : (x : Int) < (reps : Int) := by omega
      obtain ⟨ud, rfl, hcu⟩ := (hG8.rd hU4).2 x (.bool (up x)) (by rw [List.getElem?_map, hup x hxm]; rfl)
      have h78 := Gr.cell hG8 h74
      have hnx : standF up W n (k + 1) = stepS up (out, o) x := by rw [standF_succ hlt hxk, HST.out]
      have hs4 : w4.heap.size ≤ wr.heap.size := hG8.size
      obtain ⟨b, hb⟩ : ∃ b, b = up x := ⟨_, rfl⟩
      unfold stepS at hnx
      rw [← hb] at hcu hnx
      have HNX := Lib.hid hnx
      clear hnx hb hxk
      cases b with
      | true =>
        have hnx := HNX.out
        rw [if_pos rfl] at hnx
        simp only at hnx
        have HNX2 := Lib.hid hnx
        clear hnx HNX
        go_upto_region 10 with fail
        go_wp2_with (at_builtin; go_must (refine wpList_appT rfl (.tmp 60) (.tmp 64) 38 rfl w4.heap.size 43 iA zA 2 16 Tryd.underlying38 hiA hzA hA1 hA2 hA3 (by omega) rfl (Gr.own (Gr.alloc _ _) ho8) ⟨wr.heap.size, 0, none⟩ 1 1 (pairC (x, x)) rfl rfl (fun j u h => by rw [add_row, Nat.zero_add]; exact (Arr.newAt rfl rfl).cell h) (by simp [pairC, Value.oneCell']) (by unfold maxLen; omega) (by omega) (by simp only [asz]; omega) ?_))
        intro A9 c9 w9 ho9 _ hT9
        have hTB := hT9 pairT (fun _ _ _ => by simp [pairT])
        have hG9 : Gr w4 w9 := Below.trans hG8 (Below.trans ((Gr.alloc wr _).mono hs4) (hTB.below (by simp only [asz]; omega)))
        have hfl : out.flatMap pairC ++ pairC (x, x) = (out ++ [(x, x)]).flatMap pairC := by rw [List.flatMap_append]; simp
        rw [hfl] at ho9
        have hl9 : Hid ((out ++ [(x, x)]).length = N + 1) := by show _ = _; rw [List.length_append, HN.out]; rfl
        clear hT9 hTB hfl ho8 hcx hcu h78
        go_simp
        go_wp2_with fail
        exact ⟨⟨k + 1, N + 1, M, out ++ [(x, x)], o, A9, Ay, c9, cy, hlt, by go_num, HNX2.out, hl9.out, HM.out, by omega, hMc, rfl, rfl, ho9, hro, hG9⟩, by simp [intOf]; omega⟩
      | false =>
        have hnx := HNX.out
        rw [if_neg (by decide)] at hnx
        cases o with
        | nil =>
          have hM0 : M = 0 := by have := HM.out; simpa using this.symm
          subst hM0
          simp only at hnx
          have HNX2 := Lib.hid hnx
          clear hnx HNX
          go_wp2_with fail
          exact ⟨⟨k + 1, N, 0, out, [], A8, Ay, c8, cy, hlt, by go_num, HNX2.out, HN.out, rfl, by omega, hMc, rfl, rfl, ho8, hro, hG8⟩, by simp [intOf]; omega⟩
        | cons y o =>
          simp only at hnx
          have HNX2 := Lib.hid hnx
          clear hnx HNX
          obtain ⟨M', hM'⟩ : ∃ M', M = M' + 1 := ⟨o.length, by have := HM.out; simpa using this.symm⟩
          subst hM'
          obtain ⟨yd, y', rfl, hy', hcy⟩ := (hG8.rd hro).num (k := 0) (by omega)
          have hyy : y' = y := by simpa using hy'.symm
          subst hyy
          rw [add_zero_] at hcy
          have hcut : ∀ w, (Instr.sliceAt 30 (.slice (some yd) (M' + 1) cy) (some (.int .i64 1)) none none).run Tryd.prog w = .ok (.slice (cutA (some yd) cy 1) M' (cy - 1)) w := fun w => run_cut_l (P := Tryd.prog) (lo := 1) Tryd.underlying30 (by kernel_rfl) rfl (by omega) w
          have hro2 : Rd w4 (cutA (some yd) cy 1) M' (numV o) := by
            have := hro.cut (k := 1) (cap := cy) (by omega) hMc
            rwa [numV_drop, List.drop_succ_cons, List.drop_zero, Nat.add_sub_cancel] at this
          have hM1 : 0 < ((M' + 1 : Nat) : Int) := by omega
          go_upto_region 12 with fail
          go_wp2_with (at_builtin; go_must (refine wpList_appT rfl (.tmp 70) (.tmp 76) 38 rfl w4.heap.size 43 iA zA 2 16 Tryd.underlying38 hiA hzA hA1 hA2 hA3 (by omega) rfl (Gr.own (Gr.alloc _ _) ho8) ⟨wr.heap.size, 0, none⟩ 1 1 (pairC (y', x)) rfl rfl (fun j u h => by rw [add_row, Nat.zero_add]; exact (Arr.newAt rfl rfl).cell h) (by simp [pairC, Value.oneCell']) (by unfold maxLen; omega) (by omega) (by simp only [asz]; omega) ?_))
          intro A9 c9 w9 ho9 _ hT9
          have hTB := hT9 pairT (fun _ _ _ => by simp [pairT])
          have hG9 : Gr w4 w9 := Below.trans hG8 (Below.trans ((Gr.alloc wr _).mono hs4) (hTB.below (by simp only [asz]; omega)))
          have hfl : out.flatMap pairC ++ pairC (y', x) = (out ++ [(y', x)]).flatMap pairC := by rw [List.flatMap_append]; simp
          rw [hfl] at ho9
          have hl9 : Hid ((out ++ [(y', x)]).length = N + 1) := by show _ = _; rw [List.length_append, HN.out]; rfl
          have hlM : Hid (o.length = M') := by show _ = _; have := HM.out; simpa using this
          have hM2 : 1 ≤ ((M' + 1 : Nat) : Int) := by omega
          clear hT9 hTB hfl ho8 hcx hcu h78 hcy
          go_simp
          go_wp2_with fail
          --@4
          exact ⟨⟨k + 1, N + 1, M', out ++ [(y', x)], o, A9, cutA (some yd) cy 1, c9, cy - 1, hlt, by go_num, HNX2.out, hl9.out, hlM.out, by omega, by omega, rfl, rfl, ho9, hro2, hG9⟩, by simp [intOf]; omega⟩
    · have hki : ¬ (k : Int) < (n : Int) := by omega
      have hke : k = n := by omega
      subst hke
      have hfin : standG up (W.take k) ((W.drop k).filter up) = out := by rw [← standF_end, HST.out]
      have HF := Lib.hid hfin
      clear hfin
      --@5
      go_wp2_with fail
      refine bodyPost_ret (results_tmp2 rfl _ _ _) rfl ?_
      have hq : StandQ out w (.returned (.tuple #[.slice A8 N c8, .int .i64 0])) wr := ⟨A8, c8, by rw [HN.out], by rw [HN.out]; exact own_lo ho8 G4.size, Below.trans G4 (hG8.mono G4.size)⟩
      rw [HF.out]
      exact hq
end Go.Proofs.YtmcnnjcbgbdeeaaDoor
