/- Texts of one proof, laid as one: part 29. No condition. -/
import Derived.Test.YtjpphldojbfpfaaGreatDoorZf18
namespace Go.Proofs.YtjpphldojbfpfaaGreatDoor
open Go.RowKit
structure MergeOf (L1 L2 L : List SibV) : Prop where
  sorted : L.Pairwise fun a b => dLt a.d b.d
  mem : ∀ x ∈ L, (∃ y, (y ∈ L1 ∨ y ∈ L2) ∧ Like y x) ∧ seenL L1 x.d = false ∧ seenL L2 x.d = false
  all : ∀ y, (y ∈ L1 ∨ y ∈ L2) → seenL L1 y.d = false → seenL L2 y.d = false → ∃ x ∈ L, x.d = y.d
def InB (A : Option Addr) (L : List SibV) (b : Nat) : Prop := (∃ ad, A = some ad ∧ ad.block = b) ∨ ∃ x ∈ L, (∃ ad, x.M = some ad ∧ ad.block = b) ∨ (∃ ad, x.Y = some ad ∧ ad.block = b)
def MergeQ (L1 L2 : List SibV) (w : World) (e : Ending) (w' : World) : Prop := ∃ (A : Option Addr) (n c : Nat) (L : List SibV), e = .returned (.tuple #[.slice A n c, .int .i64 0]) ∧ SibsR w' A n L ∧ MergeOf L1 L2 L ∧ (∀ b, InB A L b → w.heap.size ≤ b ∧ b < w'.heap.size) ∧ Gr w w'
theorem own_box {w : World} {B n c : Nat} {e : TypeId} {size : Nat} {A : Option Addr} {xs : List Value} (h : w.ownsRow B e size (.slice A n c) n xs) : ∀ ad, A = some ad → B ≤ ad.block ∧ ad.block < w.heap.size := by
  intro ad e1; refine ⟨?_, own_lt h ad e1⟩; rcases h.2 with ⟨e2, _⟩ | ⟨g, cap, cur, e2, h1, _⟩
  · injection e2 with e2
    rw [e1] at e2; cases e2
  · injection e2 with e2
    rw [e1] at e2; injection e2 with e2
    subst e2; exact h1
theorem box_of {w : World} {B n c : Nat} {A : Option Addr} {O : List SibU} (h : w.ownsRow B 45 20 (.slice A n c) n (O.flatMap sibU)) (hs : ∀ x ∈ O, SOwn w B x.1) : ∀ b, InB A (O.map (·.1)) b → B ≤ b ∧ b < w.heap.size := by
  rintro b (⟨ad, e, rfl⟩ | ⟨x, hx, h2⟩)
  · exact own_box h ad e
  · obtain ⟨u, hu, rfl⟩ := List.mem_map.1 hx; rcases h2 with ⟨ad, e, rfl⟩ | ⟨ad, e, rfl⟩
    · exact own_box (hs u hu).dots ad e
    · exact own_box (hs u hu).bytes ad e
def keyS (x : SibU) : DotM × CtxM × List UInt8 := (x.1.d, x.1.c, x.1.body)
structure MrgR (L1 L2 : List SibV) (LK : List SibU) (B m : Nat) (w0 : World) (v i : Value) (wr : World) : Prop where
  ex : ∃ (k : Nat) (O : List SibU) (A : Option Addr) (n c : Nat), k ≤ m ∧ i = .int .i64 (k : Int) ∧ v = .slice A n c ∧ O.length = n ∧ n ≤ k ∧ O.map keyS = ((LK.take k).filter fun x => !seenL L1 x.1.d && !seenL L2 x.1.d).map keyS ∧ wr.ownsRow B 45 20 (.slice A n c) n (O.flatMap sibU) ∧ (∀ x ∈ O, SOwn wr B x.1) ∧ Below B w0 wr
def sibT : Nat → Obj → Bool := fun _ o => match o with | .cells _ t _ => t == 45 | _ => false
theorem mergeOf_of {L1 L2 : List SibV} {LU1 LU2 LS : List SibU} {O : List SibU} (h1 : LU1.map (·.1) = L1) (h2 : LU2.map (·.1) = L2) (hp : LS.Perm (LU1 ++ LU2)) (hs : LS.Pairwise fun p q => ¬ dLt q.1.d p.1.d)
    (hO : O.map keyS = ((keepN LS LS.length).filter fun x => !seenL L1 x.1.d && !seenL L2 x.1.d).map keyS) : MergeOf L1 L2 (O.map (·.1)) := by
  have hin : ∀ y : SibU, y ∈ LS ↔ y.1 ∈ L1 ∨ y.1 ∈ L2 := by
    intro y; rw [hp.mem_iff, List.mem_append, ← h1, ← h2]; constructor
    · rintro (h | h)
      · exact .inl (List.mem_map.2 ⟨y, h, rfl⟩)
      · exact .inr (List.mem_map.2 ⟨y, h, rfl⟩)
    · rintro (h | h)
      · obtain ⟨z, hz, e⟩ := List.mem_map.1 h; exact .inl (by rw [← Subtype.ext e]; exact hz)
      · obtain ⟨z, hz, e⟩ := List.mem_map.1 h; exact .inr (by rw [← Subtype.ext e]; exact hz)
  have hfrom : ∀ x ∈ O, ∃ y ∈ keepN LS LS.length, keyS y = keyS x ∧ seenL L1 y.1.d = false ∧ seenL L2 y.1.d = false := by
    intro x hx; have : keyS x ∈ O.map keyS := List.mem_map.2 ⟨x, hx, rfl⟩; rw [hO] at this; obtain ⟨y, hy, e⟩ := List.mem_map.1 this; obtain ⟨hy1, hy2⟩ := List.mem_filter.1 hy; simp only [Bool.and_eq_true, Bool.not_eq_true'] at hy2; exact ⟨y, hy1, e, hy2.1, hy2.2⟩
  refine ⟨?_, ?_, ?_⟩
  · have hk := keepN_sorted hs LS.length; have hk2 := (hk.filter (fun x => !seenL L1 x.1.d && !seenL L2 x.1.d))
    have hk3 : (((keepN LS LS.length).filter fun x => !seenL L1 x.1.d && !seenL L2 x.1.d).map keyS).Pairwise fun a b => dLt a.1 b.1 := by
      rw [List.pairwise_map]; exact hk2
    rw [← hO, List.pairwise_map] at hk3; rw [List.pairwise_map]; exact hk3
  · intro x hx; obtain ⟨u, hu, rfl⟩ := List.mem_map.1 hx; obtain ⟨y, hy, e, hy1, hy2⟩ := hfrom u hu; have ed : y.1.d = u.1.d := congrArg (fun p => p.1) e; have ec : y.1.c = u.1.c := congrArg (fun p => p.2.1) e; have eb : y.1.body = u.1.body := congrArg (fun p => p.2.2) e; refine ⟨⟨y.1, ?_, ed, ec, eb⟩, by rw [← ed]; exact hy1, by rw [← ed]; exact hy2⟩; obtain ⟨j, _, hj⟩ := keepN_mem _ y hy; exact (hin y).1 (List.mem_of_getElem? hj)
  · intro y hy hy1 hy2
    obtain ⟨yu, rfl⟩ : ∃ yu : SibU, yu.1 = y := by
      rcases hy with h | h
      · rw [← h1] at h; obtain ⟨z, _, e⟩ := List.mem_map.1 h; exact ⟨z, e⟩
      · rw [← h2] at h; obtain ⟨z, _, e⟩ := List.mem_map.1 h; exact ⟨z, e⟩
    obtain ⟨j, hj⟩ := List.getElem?_of_mem ((hin yu).2 hy); obtain ⟨z, hz, hzd⟩ := keepN_cover LS.length j yu (List.getElem?_eq_some_iff.1 hj).1 hj
    have : keyS z ∈ O.map keyS := by
      rw [hO]; exact List.mem_map.2 ⟨z, List.mem_filter.2 ⟨hz, by rw [hzd, hy1, hy2]; rfl⟩, rfl⟩
    obtain ⟨x, hx, e⟩ := List.mem_map.1 this; exact ⟨x.1, List.mem_map.2 ⟨x, hx, rfl⟩, (congrArg (fun p => p.1) e).trans hzd⟩
def ChkM (w : World) (k : Value) (wr : World) : Prop := ∃ i : Nat, i ≤ 2 ∧ k = .int .i64 (i : Int) ∧ Gr w wr
set_option maxRecDepth 100000 in
set_option maxHeartbeats 8000000 in
theorem merge_any {L1 L2 : List SibV} {A1 A2 : Option Addr} {n1 n2 c1 c2 : Nat} {w : World} (hL1 : SibsR w A1 n1 L1) (hL2 : SibsR w A2 n2 L2) (hg1 : GoodL L1) (hg2 : GoodL L2) (hn : n1 + n2 ≤ 64) :
    Calls Tryz.prog 31 #[.slice A1 n1 c1, .slice A2 n2 c2] w fun e w' => MergeQ L1 L2 w e w' := by
  obtain ⟨i0, z0, hi0, hz0, hz1, hz2, hz3⟩ := infoSb_parts; have H1 := Lib.hid hL1; have H2 := Lib.hid hL2; have HC1 := Lib.hid (fun w1 (h : Gr w w1) => scheck_any (c := c1) (hL1.gr h) hg1); have HC2 := Lib.hid (fun w1 (h : Gr w w1) => scheck_any (c := c2) (hL2.gr h) hg2); clear hL1 hL2 hg1 hg2
  go_enter Tryz.func31, Tryz.ntmps31
  go_wp2_with fail
  have hA0 : Arr (w.alloc (.cells #[.slice A1 n1 c1, .slice A2 n2 c2] 46)) w.heap.size 46 [.slice A1 n1 c1, .slice A2 n2 c2] := Arr.newAt rfl rfl; have hG0 : Gr w (w.alloc (.cells #[.slice A1 n1 c1, .slice A2 n2 c2] 46)) := Gr.alloc _ _; generalize w.alloc (.cells #[.slice A1 n1 c1, .slice A2 n2 c2] 46) = w0 at hA0 hG0 ⊢; obtain ⟨g0, hg0⟩ : ∃ g, g = w.heap.size := ⟨_, rfl⟩; rw [← hg0] at hA0 ⊢; clear hg0; have hc0 := hA0.cell (i := 0) (v := .slice A1 n1 c1) rfl; have hc1 := hA0.cell (i := 1) (v := .slice A2 n2 c2) rfl
  go_loopw [17] (fun i wr => ChkM w0 i wr) (fun i _ => 2 - (intOf i).toNat)
  case atStart => exact ⟨0, by omega, rfl, Gr.refl _⟩
  case round =>
    obtain ⟨i, hi, rfl, hG⟩ := hrel
    by_cases hlt : i < 2
    · obtain ⟨A, n, c, hcl, HC⟩ : ∃ A n c, wr.cell? ⟨g0, 0 + i, none⟩ = some (.slice A n c) ∧ Hid (∀ w1, Gr w w1 → Calls Tryz.prog 59 #[.slice A n c] w1 fun e w' => e = .returned (.int .i64 0) ∧ Gr w1 w') := by
        rcases Nat.lt_or_ge i 1 with h | h
        · have : i = 0 := by omega
          subst this; exact ⟨_, _, _, Gr.cell hG hc0, HC1⟩
        · have : i = 1 := by omega
          subst this; exact ⟨_, _, _, Gr.cell hG hc1, HC2⟩
      rw [Nat.zero_add] at hcl; have hli : (i : Int) < 2 := by omega
      have hGw := hG0.trans hG
      go_wp2_with (go_at_call 59; refine (HC.out wr hGw).mono ?_; rintro e w3 ⟨rfl, hG3⟩)
      exact ⟨⟨i + 1, by omega, by go_num, hG.trans hG3⟩, by simp [intOf]; omega⟩
    · have hli : ¬ (i : Int) < 2 := by omega
      have hGw := hG0.trans hG; clear hc0 hc1 hA0 hG0 HC1 HC2 hG hi hlt; obtain ⟨LU1, hU1⟩ := sibsU _ _ _ _ H1.out; obtain ⟨LU2, hU2⟩ := sibsU _ _ _ _ H2.out; have hW : Gr wr (wr.alloc (.cells #[.slice A1 n1 c1, .slice A2 n2 c2] 46)) := Gr.alloc _ _; have hAx : Arr (wr.alloc (.cells #[.slice A1 n1 c1, .slice A2 n2 c2] 46)) wr.heap.size 46 [.slice A1 n1 c1, .slice A2 n2 c2] := Arr.newAt rfl rfl; have hl1 : LU1.length = n1 := by have := H1.out.1; rw [← hU1] at this; simpa using this
      have hl2 : LU2.length = n2 := by have := H2.out.1; rw [← hU2] at this; simpa using this
      have hP : PartsU (wr.alloc (.cells #[.slice A1 n1 c1, .slice A2 n2 c2] 46)) (some ⟨wr.heap.size, 0, none⟩) 2 [⟨A1, n1, c1, LU1⟩, ⟨A2, n2, c2, LU2⟩] := by
        refine ⟨⟨rfl, fun j u hu => ⟨_, rfl, by rw [add_row, Nat.zero_add]; exact hAx.cell hu⟩⟩, fun q hq => ?_⟩; simp only [List.mem_cons, List.not_mem_nil, or_false] at hq; rcases hq with rfl | rfl
        · have h := H1.out; rw [← hU1] at h; exact ⟨sibsU_cells (h.gr (hGw.trans hW)), hl1⟩
        · have h := H2.out; rw [← hU2] at h; exact ⟨sibsU_cells (h.gr (hGw.trans hW)), hl2⟩
      have hall : allU [⟨A1, n1, c1, LU1⟩, ⟨A2, n2, c2, LU2⟩] = LU1 ++ LU2 := by simp [allU]
      have HCat := concatS_any (some ⟨wr.heap.size, 0, none⟩) 2 2 [⟨A1, n1, c1, LU1⟩, ⟨A2, n2, c2, LU2⟩] (by omega) (by rw [hall, List.length_append]; omega) _ hP; rw [hall] at HCat; have hll : (LU1 ++ LU2).length = n1 + n2 := by rw [List.length_append]; omega
      have HU1 := Lib.hid hU1; have HU2 := Lib.hid hU2
      replace HCat := Lib.hid HCat
      have HLL := Lib.hid hll
      replace hGw := hGw.trans hW
      clear hU1 hU2 hAx hP hall hl1 hl2 hll hW
      go_upto_region 9 with fail
      generalize wr.alloc (.cells #[.slice A1 n1 c1, .slice A2 n2 c2] 46) = wx at HCat hGw ⊢; refine HCat.out.mono ?_; rintro e w1 ⟨Ax, nx, cx, rfl, hnx, hox, hBx⟩; have hR1 := RowU.of_own hnx.symm hox; have hn64 : nx ≤ 64 := by rw [hnx, HLL.out]; exact hn
      clear hnx; have hG1 := Gr.trans hGw hBx; have hsx := hBx.size; have HR1 := Lib.hid hR1; clear hox hR1 HCat
      go_upto_region 10 with fail
      refine (sortU_any HR1.out hsx (by omega)).mono ?_; rintro e w2 ⟨rfl, LS, hperm, hsrt, hR2, hB2⟩; have hs2 := Nat.le_trans hsx hB2.size; have HR2 := Lib.hid hR2; have HPerm := Lib.hid hperm; have HSrt := Lib.hid hsrt; clear hperm hsrt hR2
      go_upto_region 11 with fail
      refine (compU_any HR2.out hs2 (by omega)).mono ?_; rintro e w3 ⟨m, rfl, hR3, hB3⟩; have hG3 : Gr w w3 := Gr.trans hGw (hBx.trans (hB2.trans hB3)); have hlS : LS.length = nx := HR2.out.1
      have hmn : m ≤ nx := by
        have := keepN_le (L := LS) nx; rw [hR3.1] at this; exact this
      have HLK : Hid (keepN LS LS.length = keepN LS nx) := Lib.hid (by rw [hlS]); have HR3 := Lib.hid hR3; have HmL : Hid ((keepN LS nx).length = m) := Lib.hid hR3.1
      have HOk : Hid (∀ x ∈ keepN LS nx, SOk w x.1) := Lib.hid (fun x hx => by
        obtain ⟨j, _, hj⟩ := keepN_mem _ x hx; have := HPerm.out.mem_iff.1 (List.mem_of_getElem? hj); rcases List.mem_append.1 this with h | h
        · exact H1.out.ok _ (by rw [← HU1.out]; exact List.mem_map.2 ⟨x, h, rfl⟩)
        · exact H2.out.ok _ (by rw [← HU2.out]; exact List.mem_map.2 ⟨x, h, rfl⟩))
      have hs3 := Nat.le_trans hs2 hB3.size; clear hR3 hB3 hB2 hs2 hBx hG1 hlS HR1 HR2; obtain ⟨LK, hLK⟩ : ∃ LK, LK = keepN LS nx := ⟨_, rfl⟩; rw [← hLK] at HLK HR3 HmL HOk; clear hLK; have hm64 : m ≤ 64 := by omega
      clear hmn; go_wp2_with fail
      go_loopw [10, 37] (fun v i wr => MrgR L1 L2 LK w3.heap.size m w3 v i wr) (fun _ i _ => m - (intOf i).toNat)
      case atStart => exact ⟨⟨0, [], none, 0, 0, Nat.zero_le _, rfl, rfl, rfl, Nat.le_refl _, rfl, World.ownsRow_nil _ _ _ _, by simp, Below.refl _ _⟩⟩
      case round =>
        obtain ⟨k, O, Ao, no, co, hk, rfl, rfl, hOl, hnk, hOm, hown, hOs, hB⟩ := hrel.ex; have hGr : Gr w3 wr := hB; have HOm := Lib.hid hOm; have HOs := Lib.hid hOs; have HOl := Lib.hid hOl; have HOwn := Lib.hid hown; clear hrel hOm hOs hOl hown hB
        by_cases hlt : k < m
        · have hki : (k : Int) < (m : Int) := by omega
          obtain ⟨x, hx⟩ : ∃ x, LK[k]? = some x := ⟨_, List.getElem?_eq_getElem (by rw [HmL.out]; exact hlt)⟩; obtain ⟨gA, hAe, _, _, hrg⟩ := HR3.out.at_ hx; have hr := hGr.range hrg; have HTake : Hid (LK.take (k + 1) = LK.take k ++ [x]) := Lib.hid (take_snoc_ LK k x hx); have hxm := List.mem_of_getElem? hx; have hox := HOk.out x hxm; have HI := Lib.hid (infoSib x.2); have hone := sibC_one x.1; have hx20 := sibC_length x.2; have HX := Lib.hid hox; have HS1 : Hid (∀ w1, Gr w w1 → Calls Tryz.prog 65 #[.slice A1 n1 c1, .agg (encD x.1.d).toArray] w1 fun e w' => e = .returned (.bool (seenL L1 x.1.d)) ∧ Gr w1 w') := Lib.hid (fun w1 h => seen_any (H1.out.gr h) hox.right (by omega)); have HS2 : Hid (∀ w1, Gr w w1 → Calls Tryz.prog 65 #[.slice A2 n2 c2, .agg (encD x.1.d).toArray] w1 fun e w' => e = .returned (.bool (seenL L2 x.1.d)) ∧ Gr w1 w') := Lib.hid (fun w1 h => seen_any (H2.out.gr h) hox.right (by omega)); obtain ⟨r1, hr1⟩ : ∃ r, r = seenL L1 x.1.d := ⟨_, rfl⟩; obtain ⟨r2, hr2⟩ : ∃ r, r = seenL L2 x.1.d := ⟨_, rfl⟩; rw [← hr1] at HS1; rw [← hr2] at HS2
          have HF : Hid ((LK.take (k + 1)).filter (fun x => !seenL L1 x.1.d && !seenL L2 x.1.d) = (LK.take k).filter (fun x => !seenL L1 x.1.d && !seenL L2 x.1.d) ++ (if !r1 && !r2 then [x] else [])) := Lib.hid (by
            rw [HTake.out, List.filter_append, hr1, hr2]; congr 1
            simp only [List.filter_cons, List.filter_nil])
          subst hAe; clear hx hrg hxm hox hr1 hr2; have mk1 : True := trivial
          go_upto_region 15 with first
            | (refine wpList_load_mid rfl _ _ rfl gA (0 + k * 20) (by simp only [Nat.zero_add]; rfl) (sibC x.1) _ hr Tryz.underlying45 rfl HI.out ?_)
            | (refine wpList_new (w := wr) (t := 45) rfl _ _ _ rfl wr.heap.size (sibC x.1) rfl rfl rfl (by rw [hx20]; rfl) HI.out hone ?_; intro w5 hA5 hG5)
          have hG35 := hGr.trans hG5; have hGw5 := hG3.trans hG35; have hs5 : w3.heap.size ≤ w5.heap.size := hG35.size; have HOs5 : Hid (∀ x ∈ O, SOwn w5 w3.heap.size x.1) := Lib.hid (fun y hy => (HOs.out y hy).gr hG5); have HOwn5 := Lib.hid (Gr.own hG5 HOwn.out); obtain ⟨g12, hg12⟩ : ∃ g, g = wr.heap.size := ⟨_, rfl⟩; rw [← hg12] at hA5; simp only [← hg12]; have hS5 : SibAt w5 g12 0 x.1 := SibAt.of x.2 (Arr.range hA5); clear hg12 hr hG5 hGr hone HOs HOwn HTake; cases r1 with
          | true =>
            go_wp2_with first
              | (refine wpList_loadT rfl 38 (.tmp 42) rfl g12 0 (by kernel_rfl) (encD x.1.d) hS5.dot Tryz.underlying38 rfl (infoDot x.1.d) ?_)
              | (go_at_call 65; refine (HS1.out w5 hGw5).mono ?_; rintro e w6 ⟨rfl, hG6⟩)
            exact ⟨⟨⟨k + 1, O, Ao, no, co, hlt, by go_num, rfl, HOl.out, by omega, by rw [HF.out]; simpa using HOm.out, Gr.own hG6 HOwn5.out, fun y hy => (HOs5.out y hy).gr hG6, hG35.trans hG6⟩⟩, by simp [intOf]; omega⟩
          | false =>
            cases r2 with
            | true =>
              go_wp2_with first
                | (refine wpList_loadT rfl 38 (.tmp 42) rfl g12 0 (by kernel_rfl) (encD x.1.d) hS5.dot Tryz.underlying38 rfl (infoDot x.1.d) ?_)
                | (clear mk1; go_at_call 65; refine (HS1.out w5 hGw5).mono ?_; rintro e w6 ⟨rfl, hG6⟩; have hS6 := hS5.gr hG6)
                | (refine wpList_loadT rfl 38 (.tmp 48) rfl g12 0 (by kernel_rfl) (encD x.1.d) hS6.dot Tryz.underlying38 rfl (infoDot x.1.d) ?_)
                | (go_at_call 65; refine (HS2.out w6 (hGw5.trans hG6)).mono ?_; rintro e w7 ⟨rfl, hG7⟩)
              exact ⟨⟨⟨k + 1, O, Ao, no, co, hlt, by go_num, rfl, HOl.out, by omega, by rw [HF.out]; simpa using HOm.out, Gr.own (hG6.trans hG7) HOwn5.out, fun y hy => (HOs5.out y hy).gr (hG6.trans hG7), hG35.trans (hG6.trans hG7)⟩⟩, by simp [intOf]; omega⟩
            | false =>
              go_upto_region 16 with first
                | (refine wpList_loadT rfl 38 (.tmp 42) rfl g12 0 (by kernel_rfl) (encD x.1.d) hS5.dot Tryz.underlying38 rfl (infoDot x.1.d) ?_)
                | (clear mk1; go_at_call 65; refine (HS1.out w5 hGw5).mono ?_; rintro e w6 ⟨rfl, hG6⟩; have hS6 := hS5.gr hG6)
                | (refine wpList_loadT rfl 38 (.tmp 48) rfl g12 0 (by kernel_rfl) (encD x.1.d) hS6.dot Tryz.underlying38 rfl (infoDot x.1.d) ?_)
                | (go_at_call 65; refine (HS2.out w6 (hGw5.trans hG6)).mono ?_; rintro e w7 ⟨rfl, hG7⟩)
              have hG57 := hG6.trans hG7; have hr7 : w7.rangeAt g12 0 (sibC x.1) := Arr.range (hA5.gr hG57); have HCo := Lib.hid (copied_any (HX.out.gr (hGw5.trans hG57))); have HOs7 : Hid (∀ x ∈ O, SOwn w7 w3.heap.size x.1) := Lib.hid (fun y hy => (HOs5.out y hy).gr hG57); have HOwn7 := Lib.hid (Gr.own hG57 HOwn5.out); have hG37 := hG35.trans hG57; clear hS5 hS6 hG35 hGw5 HOs5 HOwn5 hG6 hG7 hG57 HX HS1 HS2 hA5
              go_upto_region 17 with first
                | (refine wpList_load_mid rfl _ _ rfl g12 0 rfl (sibC x.1) _ hr7 Tryz.underlying45 rfl HI.out ?_)
                | (go_at_call 66; refine HCo.out.mono ?_; rintro e w8 ⟨y, rfl, hlk, hsy, hG8⟩; have HLk := Lib.hid hlk; have HSy := Lib.hid hsy; have hy20 := sibC_length hsy.ctx.len; have hoy := sibC_one y; have HOwn9 : Hid ((w8.alloc (.cells (sibC y).toArray 45)).ownsRow w3.heap.size 45 20 (.slice Ao no co) no (O.flatMap sibU)) := Lib.hid (Gr.own (hG8.trans (Gr.alloc _ _)) HOwn7.out); have hsz : (w8.alloc (.cells (sibC y).toArray 45)).heap.size = w8.heap.size + 1 := Array.size_push _; have hs38 := Nat.le_trans hG37.size hG8.size; clear hlk hsy)
                | (refine wpList_valW rfl (.slice (some ⟨w8.heap.size, 0, none⟩) 1 1) _ (run_buildSib (x := .tmp 55) hy20 rfl) ?_)
                | (at_builtin; go_must (refine wpList_appT rfl (.tmp 53) (.tmp 56) 46 rfl w3.heap.size 45 i0 z0 20 192 Tryz.underlying46 hi0 hz0 hz1 hz2 hz3 (by omega) rfl HOwn9.out ⟨w8.heap.size, 0, none⟩ 1 1 (sibC y) rfl (by rw [hy20]) (fun j u h => by rw [add_row, Nat.zero_add]; exact Arr.cell (Arr.newAt rfl rfl) h) hoy (by unfold maxLen; omega) (by omega) (by rw [hsz]; omega) ?_; intro A9 c9 w9 ho9 _ hT9; have hT := hT9 sibT (fun _ _ _ => by simp [sibT]); have HO9 := Lib.hid ho9; clear ho9 hT9))
              have hyl := HSy.out.ctx.len; have hB9 : Below w3.heap.size w3 w9 := Below.trans (hG37.trans (hG8.trans (Gr.alloc _ _))) (hT.below (by rw [hsz]; omega))
              have HREL : Hid (MrgR L1 L2 LK w3.heap.size m w3 (.slice A9 (no + 1) c9) (.int .i64 ((k + 1 : Nat) : Int)) w9) := Lib.hid (by
                refine ⟨⟨k + 1, O ++ [⟨y, hyl⟩], A9, no + 1, c9, hlt, rfl, rfl, by rw [List.length_append, HOl.out]; rfl, by omega, ?_, ?_, fun u hu => ?_, hB9⟩⟩
                · have hl := HLk.out
                  have e : keyS x = keyS (⟨y, hyl⟩ : SibU) := by
                    unfold keyS; simp only [hl.1, hl.2.1, hl.2.2]
                  rw [HF.out, List.map_append, List.map_append, HOm.out]; simp [e]
                · rw [List.flatMap_append, List.flatMap_singleton]; exact HO9.out
                · have hGx : Gr w8 (w8.alloc (.cells (sibC y).toArray 45)) := Gr.alloc _ _; rcases List.mem_append.1 hu with h | h
                  · exact (((HOs7.out u h).gr hG8).gr hGx).tn hT (fun _ _ _ => by simp [sibT]) (fun _ _ _ => by simp [sibT])
                  · have : u = ⟨y, hyl⟩ := by simpa using h
                    rw [this]; exact ((HSy.out.down hG37.size).gr hGx).tn hT (fun _ _ _ => by simp [sibT]) (fun _ _ _ => by simp [sibT]))
              clear HF HOm HOs7 HOwn7 HO9 HOwn9 hT hB9 HSy HLk HCo hr7 hG8 hG37 hoy hy20 hsz hs38 HI; go_wp2_with fail
              exact ⟨by rw [show (k : Int) + 1 = ((k + 1 : Nat) : Int) by omega]; exact HREL.out, by simp [intOf]; omega⟩
        · have hki : ¬ (k : Int) < (m : Int) := by omega
          have hnz : (no : Int) ≤ 64 := by omega
          have HM : Hid (MergeOf L1 L2 (O.map (·.1))) := Lib.hid (by
            refine mergeOf_of HU1.out HU2.out HPerm.out HSrt.out ?_; rw [HLK.out, HOm.out, List.take_of_length_le (by rw [HmL.out]; omega)])
          have HSib : Hid (SibsR wr Ao no (O.map (·.1))) := Lib.hid (by
            refine ⟨by rw [List.length_map]; exact HOl.out, fun i x hx => ?_⟩; rw [List.getElem?_map] at hx; cases hy : O[i]? with
            | none => rw [hy] at hx; cases hx
            | some y =>
              rw [hy] at hx; injection hx with hx
              subst hx; obtain ⟨g, e, _, _, hr⟩ := (RowU.of_own HOl.out HOwn.out).at_ hy; exact ⟨⟨g, 0, e, hr⟩, (HOs.out y (List.mem_of_getElem? hy)).ok⟩)
          have HBox := Lib.hid (box_of HOwn.out HOs.out); clear hlt hnk hk HOm HOs HOl HOwn HmL HLK HPerm HSrt HU1 HU2; go_wp2_with fail
          go_ret2
          exact ⟨Ao, no, co, _, rfl, HSib.out, HM.out, fun b hb => ⟨Nat.le_trans hG3.size (HBox.out b hb).1, (HBox.out b hb).2⟩, hG3.trans hGr⟩
end Go.Proofs.YtjpphldojbfpfaaGreatDoor
