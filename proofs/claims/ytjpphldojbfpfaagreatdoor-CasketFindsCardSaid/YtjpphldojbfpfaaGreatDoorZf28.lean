/- Texts of one proof, laid as one: part 28. No condition. -/
import Derived.Test.YtjpphldojbfpfaaGreatDoorZf11
import Derived.Test.YtjpphldojbfpfaaGreatDoorZf18
import Derived.Test.YtjpphldojbfpfaaGreatDoorZf26
import Derived.Test.YtjpphldojbfpfaaGreatDoorZf27
namespace Go.Proofs.YtjpphldojbfpfaaGreatDoor
open Go.RowKit
def keyV (x : SibV) : DotM × CtxM × List UInt8 := (x.d, x.c, x.body)
theorem seen_like {L L' : List SibV} (h : L'.map keyV = L.map keyV) (d : DotM) : seenL L' d = seenL L d := by
  have e : ∀ L : List SibV, seenL L d = (L.map keyV).any fun p => decide (hasC p.2.1 d) := by
    intro L; unfold seenL; rw [List.any_map]; rfl
  rw [e, e, h]
theorem GoodL.like {L L' : List SibV} (h : L'.map keyV = L.map keyV) (hg : GoodL L) : GoodL L' := by
  have hl : L'.length = L.length := by have := congrArg List.length h; simpa using this
  refine ⟨by rw [hl]; exact hg.few, ?_, fun x hx => ?_⟩
  · have h1 : (L.map keyV).Pairwise fun a b => dLt a.1 b.1 := by
      rw [List.pairwise_map]; exact hg.sorted
    rw [← h, List.pairwise_map] at h1; exact h1
  · rw [seen_like h]; have h1 : keyV x ∈ L.map keyV := by rw [← h]; exact List.mem_map.2 ⟨x, hx, rfl⟩
    obtain ⟨y, hy, e⟩ := List.mem_map.1 h1; have ed : y.d = x.d := congrArg (fun p => p.1) e; rw [← ed]; exact hg.anti y hy
theorem wpList_midK {P : Program} {ops : Array Oper} {rest : List Oper} {op : Oper} {a : Act} {Q : Exit → Act → World → Prop} {w : World} {t : TypeId} {b off : Nat} {cs : List Value} (hA : Arr w b t cs) (hgd : op.guard = none) (ty : TypeId) (x y : Operand) (ho : op.op = .store ty x y)
    (vs : List Value) (hx : a.eval x = .pointer (some ⟨b, off, none⟩)) (hy : a.eval y = .agg vs.toArray) (hn : off + vs.length ≤ cs.length)
    (hi : (P.info? ty).map (·.size) = some vs.length) (h1 : ∀ v ∈ vs, v.oneCell' = true)
    (h : ∀ w2, Arr w2 b t (cs.take off ++ vs ++ cs.drop (off + vs.length)) → InK b w w2 → wpList P ops Q rest (a.put op.dst undef) w2) : wpList P ops Q (op :: rest) a w := by
  refine wpList_store_mid hgd ty x y ho b off vs.toArray hx hy (fun j hj => ?_) (by simpa using hi) (all_oneCell_toArray h1) ?_
  · have := hA.there (off + j) (by simp at hj; omega); simpa using this
  · exact h _ (hA.setCells_from vs off w cs hn) (InK.cells _ _ _ _)
structure BunS (w : World) (B : Nat) (A : Option Addr) (n c : Nat) (O : List SibU) : Prop where
  own : w.ownsRow B 45 20 (.slice A n c) n (O.flatMap sibU)
  each : ∀ y ∈ O, SOwn w B y.1
theorem BunS.gr {w w' : World} {B : Nat} {A : Option Addr} {n c : Nat} {O : List SibU} (h : BunS w B A n c O) (hG : Gr w w') : BunS w' B A n c O := ⟨Gr.own hG h.own, fun y hy => (h.each y hy).gr hG⟩
theorem InK.ownT {g B : Nat} {e t : TypeId} {size n : Nat} {v : Value} {cs xs : List Value} {w w' : World} (h : InK g w w') (ho : w.ownsRow B e size v n xs) (hA : Arr w g t cs) (hne : e ≠ t) : w'.ownsRow B e size v n xs := by
  refine ⟨ho.1, ?_⟩; rcases ho.2 with h2 | ⟨b, cap, cur, e1, h1, h2, h3⟩
  · exact .inl h2
  · have hb : b ≠ g := by
      rintro rfl; rw [show w.heap[b]? = some (.cells cs.toArray t (0, 0)) from hA] at h2; injection h2 with h2
      injection h2 with _ h2
      exact hne h2.symm
    exact .inr ⟨b, cap, cur, e1, h1, by rw [h.other b (Array.getElem?_eq_some_iff.1 h2).1 hb]; exact h2, h3⟩
theorem SOwn.ink {w w' : World} {B g : Nat} {x : SibV} (h : SOwn w B x) (hK : InK g w w') (hg : g < B) : SOwn w' B x := ⟨h.right, h.ctx, h.fresh, h.small, hK.own h.dots hg, hK.own h.bytes hg, h.nilY⟩
theorem SOwn.inkT {w w' : World} {B g : Nat} {x : SibV} {cs : List Value} (h : SOwn w B x) (hK : InK g w w') (hA : Arr w g 45 cs) : SOwn w' B x := ⟨h.right, h.ctx, h.fresh, h.small, hK.ownT h.dots hA (by decide), hK.ownT h.bytes hA (by decide), h.nilY⟩
theorem BunS.ink {w w' : World} {B g : Nat} {A : Option Addr} {n c : Nat} {O : List SibU} (h : BunS w B A n c O) (hK : InK g w w') (hg : g < B) : BunS w' B A n c O := ⟨hK.own h.own hg, fun y hy => (h.each y hy).ink hK hg⟩
theorem BunS.inkT {w w' : World} {B g : Nat} {A : Option Addr} {n c : Nat} {O : List SibU} {cs : List Value} (h : BunS w B A n c O) (hK : InK g w w') (hA : Arr w g 45 cs) (hlt : ∀ ad, A = some ad → ad.block < g) : BunS w' B A n c O :=
  ⟨hK.ownN h.own (fun ad e => by have := hlt ad e; omega), fun y hy => (h.each y hy).inkT hK hA⟩
def sibT2 : Nat → Obj → Bool := fun _ o => match o with | .cells _ t _ => t == 45 | _ => false
def SRdR (L : List SibV) (n g4 p4 B2 : Nat) (w : World) (v r i : Value) (wr : World) : Prop := ∃ (k : Nat) (A : Option Addr) (cA : Nat) (O : List SibU) (Ao : Option Addr) (co : Nat), k ≤ n ∧ i = .int .i64 (k : Int) ∧ r = .bool true ∧ v = .slice Ao k co ∧ InIs wr g4 p4 A cA ((L.drop k).flatMap encSib) ∧ BunS wr B2 Ao k co O ∧ O.map (fun y => keyV y.1) = (L.take k).map keyV ∧ Gr w wr ∧ B2 ≤ wr.heap.size
def NewS (B : Nat) (A : Option Addr) (L : List SibV) : Prop := (∀ ad, A = some ad → B ≤ ad.block) ∧ ∀ x ∈ L, (∀ ad, x.M = some ad → B ≤ ad.block) ∧ ∀ ad, x.Y = some ad → B ≤ ad.block
def SRdN (L : List SibV) (w : World) (e : Ending) (w' : World) : Prop := ∃ (A : Option Addr) (n c : Nat) (L' : List SibV), e = .returned (.tuple #[.slice A n c, .int .i64 0]) ∧ SibsR w' A n L' ∧ L'.map keyV = L.map keyV ∧ Gr w w' ∧ NewS w.heap.size A L'
def OkV (x : SibV) : Prop := rightD x.d ∧ OkC x.c ∧ ¬ hasC x.c x.d ∧ x.body.length ≤ 16384
set_option maxRecDepth 100000 in
set_option maxHeartbeats 16000000 in
theorem sread_new {L : List SibV} {X : Option Addr} {n cX : Nat} {w : World} (hok : ∀ x ∈ L, OkV x) (hg : GoodL L) (hl32 : L.length ≤ 32) (hX : Rd w X n (u8s (encSibs L))) (hX0 : X = none → cX = 0) :
    Calls Tryz.prog 39 #[.slice X n cX] w fun e w' => SRdN L w e w' := by
  obtain ⟨iS, zS, hiS, hz0, hz1, hz2, hz3⟩ := infoSb_parts; have hnl : (encSibs L).length = n := by simpa using hX.1
  have hle : (encSibs L).length ≤ 548000 := by
    have h1 := encSibs_len (L := L) (fun x hx => ⟨(hok x hx).2.1, (hok x hx).2.2.2⟩); rw [encSibs, List.length_append, hiB_length]; have h2 : L.length * 17100 ≤ 32 * 17100 := Nat.mul_le_mul_right _ hl32; omega
  have hpos : 0 < (encSibs L).length := by rw [encSibs, List.length_append, hiB_length]; omega
  have HOf := Lib.hid (of_any hX (by omega) (by omega) hnl hX0); have HOk := Lib.hid hok; have HG := Lib.hid hg; clear hX hX0 hok hg hnl
  go_enter Tryz.func39, Tryz.ntmps39
  go_upto_region 4 with (go_at_call 36; refine HOf.out.mono ?_; rintro e w1 ⟨g4, p4, A4, c4, rfl, hg4a, hg4b, hp4a, hp4b, hI4, hG1⟩; have HI4 := Lib.hid hI4; clear hI4)
  obtain ⟨m, hm⟩ : ∃ m, m = L.length := ⟨_, rfl⟩; have HMl := Lib.hid hm; have hm32 : m ≤ 32 := by omega
  have hfl : (L.flatMap encSib).length ≤ 548000 := by
    rw [encSibs, List.length_append] at hle; omega
  have HSm : Hid (Calls Tryz.prog 37 #[.pointer (some ⟨g4, 0, none⟩), .int .i64 ((64 : Nat) : Int)] w1 fun e w' => ∃ A' c', e = .returned (.int .i64 (m : Int)) ∧ InIs w' g4 p4 A' c' (L.flatMap encSib) ∧ InK g4 w1 w') := Lib.hid (by
    have h := HI4.out; unfold encSibs at h; rw [← hm] at h; exact ismall_any (most := 64) h (by omega) (by omega) (by omega))
  have hflb := hfl; clear hm HOf HI4 hle hpos hfl
  go_wp2_with (go_at_call 37; refine HSm.out.mono ?_; rintro e w3 ⟨A3, c3, rfl, hI3, hK3⟩; have HI3 := Lib.hid hI3; have hG3 := hK3.gr_after hG1 hg4a; have hs13 := hK3.size; clear hI3)
  go_simp; obtain ⟨B2, hB2⟩ : ∃ B, B = w3.heap.size := ⟨_, rfl⟩; have hg4B : g4 < B2 := by rw [hB2]; omega
  have hp4B : p4 < B2 := by omega
  have hwB : w.heap.size ≤ B2 := by rw [hB2]; exact hG3.size
  have hB3 : B2 ≤ w3.heap.size := Nat.le_of_eq hB2; have hne : p4 ≠ g4 := by omega
  clear hB2 HSm hG1 hK3 hs13 hg4b hp4a
  go_loopw [5, 6, 14] (fun v r i wr => SRdR L m g4 p4 B2 w v r i wr) (fun _ _ i _ => m - (intOf i).toNat)
  case atStart => exact ⟨0, A3, c3, [], none, 0, Nat.zero_le _, rfl, rfl, rfl, HI3.out, ⟨World.ownsRow_nil _ _ _ _, by simp⟩, rfl, hG3, hB3⟩
  case round =>
    clear hG3 hB3; obtain ⟨k, A, cA, O, Ao, co, hk, rfl, rfl, rfl, hI, hBun, hkey, hG, hBs⟩ := hrel; have HI := Lib.hid hI; have HBun := Lib.hid hBun; have HKey := Lib.hid hkey; clear hI hBun hkey
    by_cases hlt : k < m
    · have hki : (k : Int) < (m : Int) := by omega
      obtain ⟨x, hx⟩ : ∃ x, L[k]? = some x := ⟨_, List.getElem?_eq_getElem (by rw [← HMl.out]; exact hlt)⟩; have hxo := HOk.out x (List.mem_of_getElem? hx)
      have hdrop : L.drop k = x :: L.drop (k + 1) := by
        have hkl : k < L.length := by rw [← HMl.out]; exact hlt
        rw [List.drop_eq_getElem_cons hkl]; congr 1
        rw [List.getElem?_eq_getElem hkl] at hx; exact Option.some.inj hx
      have HTk : Hid (L.take (k + 1) = L.take k ++ [x]) := Lib.hid (take_snoc_ L k x hx); obtain ⟨RR, hRR⟩ : ∃ R, R = (L.drop (k + 1)).flatMap encSib := ⟨_, rfl⟩; have HRR := Lib.hid hRR; have hrest : (L.drop k).flatMap encSib = hiB 8 x.d.1 ++ (hiB 8 x.d.2 ++ (outBs (encCtx x.c) ++ (outBs x.body ++ RR))) := by rw [hdrop, List.flatMap_cons, encSib, ← hRR]; simp only [List.append_assoc]
      have hRl : RR.length ≤ 548000 := by
        have h1 : (L.flatMap encSib).length = ((L.take (k + 1)).flatMap encSib).length + RR.length := by
          rw [hRR, ← List.length_append, ← List.flatMap_append, List.take_append_drop]
        omega
      have hI2 := HI.out; rw [hrest] at hI2; have hcl := encCtx_len hxo.2.1; have hcf := hxo.2.1.few; have hbl := hxo.2.2.2; have h4l := outBs_len (encCtx x.c); have h5l := outBs_len x.body; have HN1 := Lib.hid (fun (w4 : World) (h : InIs w4 g4 p4 A cA (hiB 8 x.d.1 ++ (hiB 8 x.d.2 ++ (outBs (encCtx x.c) ++ (outBs x.body ++ RR))))) => inum_any (most := 1099511627776) h (by have := hxo.1.2.1; omega) (by omega) (by rw [List.length_append, List.length_append, List.length_append, hiB_length]; omega)); have HI2 := Lib.hid hI2; have HXo := Lib.hid hxo; have hb1 : (encCtx x.c).length ≤ 641 := by omega
      have hcl0 : 0 < (encCtx x.c).length := by omega
      have hb2 : (outBs (encCtx x.c)).length ≤ 700 := by omega
      have hb5 : (outBs x.body).length ≤ 16400 := by omega
      clear hx hxo hdrop hRR hrest hI2 HI hcl h4l h5l
      go_upto_region 7 with fail
      change Code.wp _ _ _ _ (wr.alloc (.cells (sibC sib0).toArray 45)); have hA7 : Arr (wr.alloc (.cells (sibC sib0).toArray 45)) wr.heap.size 45 (sibC sib0) := Arr.newAt rfl rfl; have hGa : Gr wr (wr.alloc (.cells (sibC sib0).toArray 45)) := Gr.alloc _ _; have HIa := Lib.hid (HI2.out.gr hGa); have HBa := Lib.hid (HBun.out.gr hGa); have hG0 := hG.trans hGa; have hs0 := Nat.le_trans hBs hGa.size; generalize wr.alloc (.cells (sibC sib0).toArray 45) = wa at hA7 HIa HBa hG0 hs0 ⊢; obtain ⟨g7, hg7⟩ : ∃ g, g = wr.heap.size := ⟨_, rfl⟩; have hlt7 : ∀ ad, Ao = some ad → ad.block < g7 := by rw [hg7]; exact own_lt HBun.out.own
      rw [← hg7] at hA7 ⊢; have hg7B : B2 ≤ g7 := by omega
      have hg74 : g7 ≠ g4 := by omega
      have hp47 : p4 ≠ g7 := by omega
      have hg47 : g4 ≠ g7 := by omega
      have hg7w : w.heap.size ≤ g7 := by omega
      clear hg7 HI2 HBun hG hBs hGa
      -- the dot's client
      go_upto_region 8 with first
        | (go_at_call 83; refine (HN1.out wa HIa.out).mono ?_; rintro e w4 ⟨A5, c5, rfl, hI4, hK4⟩; have HI4 := Lib.hid hI4; have hA74 := hK4.arr hA7 hg74; have HB4 := Lib.hid (HBa.out.ink hK4 hg4B); have hG4 := hK4.gr_after hG0 hg4a; have hs4 := Nat.le_trans hs0 hK4.size; clear hI4)
        | (refine wpList_setI hA74 rfl 3 (.tmp 19) (.tmp 17) rfl (by kernel_rfl) 0 .i64 (x.d.1 : Int) rfl rfl (by rw [show (sibC sib0).length = 20 from rfl]; omega) ?_; intro w5 hA75 hK5)
      have hA75' : Arr w5 g7 45 (sibC { sib0 with d := (x.d.1, 0) }) := hA75; have HI5 := Lib.hid (HI4.out.keep hK5 hg47 hp47); have HB5 := Lib.hid (HB4.out.inkT hK5 hA74 hlt7); have hG5 := hK5.gr_after hG4 hg7w; have hs5 := Nat.le_trans hs4 hK5.size; have HN2 := Lib.hid (inum_any (most := 1099511627776) HI5.out (by have := HXo.out.1.2.2.2; omega) (by omega) (by rw [List.length_append, List.length_append]; omega)); clear hA75 hA74 HI4 HB4 hG4 hs4 hK4 hA7 HIa HBa hG0 hs0 HN1 hK5
      -- its number
      go_upto_region 9 with first
        | (go_at_call 83; refine HN2.out.mono ?_; rintro e w6 ⟨A6, c6, rfl, hI6, hK6⟩; have HI6 := Lib.hid hI6; have hA76 := hK6.arr hA75' hg74; have HB6 := Lib.hid (HB5.out.ink hK6 hg4B); have hG6 := hK6.gr_after hG5 hg4a; have hs6 := Nat.le_trans hs5 hK6.size; clear hI6)
        | (refine wpList_setI hA76 rfl 3 (.tmp 23) (.tmp 21) rfl (by kernel_rfl) 1 .i64 (x.d.2 : Int) rfl rfl (by rw [show (sibC { sib0 with d := (x.d.1, 0) }).length = 20 from rfl]; omega) ?_; intro w7 hA77 hK7)
      have hA77' : Arr w7 g7 45 (sibC { sib0 with d := x.d }) := hA77; have HI7 := Lib.hid (HI6.out.keep hK7 hg47 hp47); have HB7 := Lib.hid (HB6.out.inkT hK7 hA76 hlt7); have hG7 := hK7.gr_after hG6 hg7w; have hs7 := Nat.le_trans hs6 hK7.size; have HBy := Lib.hid (ibytes_any (most := 16384) HI7.out (by omega) (by omega) (by rw [List.length_append]; omega)); clear hA77 hA76 HI6 HB6 hG6 hs6 hK6 hA75' HI5 HB5 hG5 hs5 HN2 hK7
      -- its past
      go_upto_region 10 with first
        | (go_at_call 40; refine HBy.out.mono ?_; rintro e w8 ⟨A8, c8, A9, c9, rfl, hO8, hn8, hI8, hK8⟩; have HI8 := Lib.hid hI8; have hA78 := hK8.arr hA77' hg74; have HB8 := Lib.hid (HB7.out.ink hK8 hg4B); have hG8 := hK8.gr_after hG7 hg4a; have hs8 := Nat.le_trans hs7 hK8.size; have HDr := Lib.hid (dread_any (cX := c8) HXo.out.2.1 (Rd.of_own hO8) hn8); clear hI8 hO8 hn8)
        | (go_at_call 84; refine HDr.out.mono ?_; rintro e w9 ⟨cc, M, mm, cM, rfl, hcc, hOM, hG9⟩; have HOM := Lib.hid hOM; have hccl : cc.upto.length = 16 := (by rw [hcc]; exact HXo.out.2.1.len); have HCc := Lib.hid hcc; have hl17 := ctxC_length hccl M mm cM; have HIc := Lib.hid (infoCtx hccl M mm cM); have hone := ctxC_one cc M mm cM; have hs89 := hG9.size; clear hOM hcc)
        | (refine wpList_new (w := w9) (t := 42) rfl _ _ _ rfl w9.heap.size (ctxC cc M mm cM) rfl rfl rfl (by rw [hl17]; rfl) HIc.out hone ?_; intro w10 hA8 hG10)
      have hG910 := hG9.trans hG10; have hA710 := hA78.gr hG910; have HI10 := Lib.hid (HI8.out.gr hG910); have HB10 := Lib.hid (HB8.out.gr hG910); have hG010 := hG8.trans hG910; have hs10 := Nat.le_trans hs8 hG910.size; have HOM10 : Hid (OwnD w10 B2 M mm cM cc.more) := Lib.hid (own_base2 (OwnD.gr HOM.out hG10) (by omega)); have hr8 : w10.rangeAt w9.heap.size 0 (ctxC cc M mm cM) := Arr.range hA8; generalize w9.heap.size = g8 at hr8 ⊢; clear hA8 hA78 HI8 HB8 hG8 hs8 hK8 hA77' HI7 HB7 hG7 hs7 HBy HDr HOM hG9 hG10 hG910 hs89 hcl0
      go_upto_region 11 with first
        | (refine wpList_load_mid rfl _ _ rfl g8 0 rfl (ctxC cc M mm cM) _ hr8 Tryz.underlying42 rfl HIc.out ?_)
        | (refine wpList_midK (off := 2) hA710 rfl _ _ _ rfl (ctxC cc M mm cM) rfl rfl (by rw [hl17, show (sibC { sib0 with d := x.d }).length = 20 from rfl]; omega) HIc.out hone ?_; intro w11 hA711 hK11)
      have hmm : mm = cc.more.length := HOM10.out.len.symm
      have hA711' : Arr w11 g7 45 (sibC ⟨x.d, cc, M, cM, [], none, 0⟩) := by
        have e : (sibC { sib0 with d := x.d }).take 2 ++ ctxC cc M mm cM ++ (sibC { sib0 with d := x.d }).drop (2 + (ctxC cc M mm cM).length) = sibC ⟨x.d, cc, M, cM, [], none, 0⟩ := by
          rw [hl17, hmm]; unfold sibC; rw [List.append_assoc]; rfl
        rw [e] at hA711; exact hA711
      have HI11 := Lib.hid (HI10.out.keep hK11 hg47 hp47); have HB11 := Lib.hid (HB10.out.inkT hK11 hA710 hlt7); have hG11 := hK11.gr_after hG010 hg7w; have hs11 := Nat.le_trans hs10 hK11.size; have HOM11 : Hid (OwnD w11 B2 M mm cM cc.more) := Lib.hid (hK11.ownT HOM10.out hA710 (by decide)); have HBy := Lib.hid (ibytes_any (most := 16384) HI11.out hbl (by omega) (by omega)); have hl20 : (sibC ⟨x.d, cc, M, cM, [], none, 0⟩).length = 20 := sibC_length (x := ⟨x.d, cc, M, cM, [], none, 0⟩) hccl
      have HSet : Hid (∀ Y cY, (sibC ⟨x.d, cc, M, cM, [], none, 0⟩).set 19 (.slice Y x.body.length cY) = sibC ⟨x.d, cc, M, cM, x.body, Y, cY⟩) := Lib.hid (fun Y cY => by
        unfold sibC; rw [List.set_append_right _ _ (by rw [encD_length]; omega), encD_length, List.set_append_right _ _ (by rw [ctxC_length hccl]; omega), ctxC_length hccl]; rfl)
      have HMm := Lib.hid hmm; clear hA711 hA710 HI10 HB10 hG010 hs10 HOM10 hr8 hK11 hl17 HIc hone hmm
      -- its body
      go_upto_region 12 with first
        | (go_at_call 40; refine HBy.out.mono ?_; rintro e w12 ⟨Y, cY, A13, c13, rfl, hO12, hn12, hI12, hK12⟩; have HI12 := Lib.hid hI12; have hA712 := hK12.arr hA711' hg74; have HB12 := Lib.hid (HB11.out.ink hK12 hg4B); have hG12 := hK12.gr_after hG11 hg4a; have hs12 := Nat.le_trans hs11 hK12.size; have HO12 := Lib.hid hO12; have HN12 := Lib.hid hn12; have HOM12 : Hid (OwnD w12 B2 M mm cM cc.more) := Lib.hid (hK12.own HOM11.out hg4B); clear hI12 hO12 hn12)
        | (refine wpList_setSl hA712 rfl 43 (.tmp 34) (.tmp 33) rfl (by kernel_rfl) 19 rfl rfl (by rw [hl20]; omega) ?_; intro w13 hw13 hA713; rw [HSet.out] at hA713; have hK13 : InK g7 w12 w13 := (by rw [hw13]; exact InK.set _ _); clear hw13)
      have HI13 := Lib.hid (HI12.out.keep hK13 hg47 hp47); have HB13 := Lib.hid (HB12.out.inkT hK13 hA712 hlt7); have hG13 := hK13.gr_after hG12 hg7w; have hs13 := Nat.le_trans hs12 hK13.size; obtain ⟨y, hy⟩ : ∃ y : SibV, y = ⟨x.d, cc, M, cM, x.body, Y, cY⟩ := ⟨_, rfl⟩
      have HSy : Hid (SOwn w13 B2 y) := Lib.hid (by
        have h1 := HXo.out; have hO : OwnD w13 B2 M mm cM cc.more := hK13.ownT HOM12.out hA712 (by decide); rw [HMm.out] at hO; have hb : w13.ownsRow B2 5 1 (.slice Y x.body.length cY) x.body.length (u8s x.body) := hK13.ownT (own_base2 HO12.out hs11) hA712 (by decide); rw [hy]; exact ⟨h1.1, by rw [HCc.out]; exact h1.2.1, by rw [HCc.out]; exact h1.2.2.1, h1.2.2.2, hO, hb, HN12.out⟩)
      have HKy : Hid (keyV y = keyV x) := Lib.hid (by rw [hy, HCc.out]; rfl); have hyl : y.c.upto.length = 16 := by rw [hy]; exact hccl
      rw [← hy] at hA713; have hy20 := sibC_length hyl; have hyo := sibC_one y; have HIy := Lib.hid (infoSib hyl); have hr13 : w13.rangeAt g7 0 (sibC y) := Arr.range hA713; clear hy hA713 hA712 HI12 HB12 hG12 hs12 HO12 HN12 HOM12 hK13 HI11 HB11 hG11 hs11 HOM11 HBy hA711' hl20 HSet hK12; have hGal : Gr w13 (w13.alloc (.cells (sibC y).toArray 45)) := Gr.alloc _ _; have HBa := Lib.hid (HB13.out.gr hGal); have HIa := Lib.hid (HI13.out.gr hGal); have HSya := Lib.hid (HSy.out.gr hGal); have hGwa := hG13.trans hGal; have hsa := Nat.le_trans hs13 hGal.size
      go_upto_region 14 with first
        | (refine wpList_load_mid rfl _ _ rfl g7 0 rfl (sibC y) _ hr13 Tryz.underlying45 rfl HIy.out ?_)
        | (refine wpList_valW rfl (.slice (some ⟨w13.heap.size, 0, none⟩) 1 1) _ (run_buildSib (x := .tmp 41) hy20 rfl) ?_)
        | (at_builtin; go_must (refine wpList_appT rfl (.tmp 40) (.tmp 42) 46 rfl B2 45 iS zS 20 192 Tryz.underlying46 hiS hz0 hz1 hz2 hz3 (by omega) rfl HBa.out.own ⟨w13.heap.size, 0, none⟩ 1 1 (sibC y) rfl (by rw [hy20]) (fun j u h => by rw [add_row, Nat.zero_add]; exact Arr.cell (Arr.newAt rfl rfl) h) hyo (by unfold maxLen; omega) (by omega) hsa ?_; intro A9 c9 w9 ho9 _ hT9; have hT := hT9 sibT2 (fun _ _ _ => by simp [sibT2]); have HO9 := Lib.hid ho9; clear ho9 hT9))
      have HREL : Hid (SRdR L m g4 p4 B2 w (.slice A9 (k + 1) c9) (.bool true) (.int .i64 ((k + 1 : Nat) : Int)) w9) := Lib.hid (by
        have hB9 := hT.below hsa; refine ⟨k + 1, A13, c13, O ++ [⟨y, hyl⟩], A9, c9, hlt, rfl, rfl, rfl, ?_, ⟨?_, fun u hu => ?_⟩, ?_, Below.trans hGwa (hB9.mono hwB), Nat.le_trans hsa hB9.size⟩
        · rw [← HRR.out]; exact HIa.out.below hB9 hg4B hp4B
        · rw [List.flatMap_append, List.flatMap_singleton]; exact HO9.out
        · rcases List.mem_append.1 hu with h | h
          · exact (HBa.out.each u h).tn hT (fun _ _ _ => by simp [sibT2]) (fun _ _ _ => by simp [sibT2])
          · have : u = ⟨y, hyl⟩ := by simpa using h
            rw [this]; exact HSya.out.tn hT (fun _ _ _ => by simp [sibT2]) (fun _ _ _ => by simp [sibT2])
        · rw [HTk.out, List.map_append, List.map_append, HKey.out]; simp [HKy.out])
      clear HBa HIa HSya hGwa hsa hGal hr13 HIy hyo hy20 HKy HSy HI13 HB13 hG13 hs13 HO9 hT; go_wp2_with fail
      exact ⟨by rw [show (k : Int) + 1 = ((k + 1 : Nat) : Int) by omega]; exact HREL.out, by simp [intOf]; omega⟩
    · have hki : ¬ (k : Int) < (m : Int) := by omega
      have hkm : k = m := by omega
      have hI0 := HI.out; rw [List.drop_of_length_le (by rw [← HMl.out]; omega)] at hI0; have HEnd := Lib.hid (iend_any hI0)
      have hkey : (O.map (·.1)).map keyV = L.map keyV := by
        have := HKey.out; rw [List.take_of_length_le (by rw [← HMl.out]; omega)] at this; rw [List.map_map]; exact this
      have hOl : O.length = k := by
        have := congrArg List.length hkey; simp only [List.length_map] at this; rw [this, ← HMl.out, hkm]
      have HSib : Hid (SibsR wr Ao k (O.map (·.1))) := Lib.hid (by
        refine ⟨by rw [List.length_map]; exact hOl, fun i x hx => ?_⟩; rw [List.getElem?_map] at hx; cases hy : O[i]? with
        | none => rw [hy] at hx; cases hx
        | some y =>
          rw [hy] at hx; injection hx with hx
          subst hx; obtain ⟨g, e, _, _, hr⟩ := (RowU.of_own hOl HBun.out.own).at_ hy; exact ⟨⟨g, 0, e, hr⟩, (HBun.out.each y (List.mem_of_getElem? hy)).ok⟩)
      have HFr : Hid (NewS w.heap.size Ao (O.map (·.1))) := Lib.hid (by
        refine ⟨fun ad e => Nat.le_trans hwB (HBun.out.own.lt ad.block (by rw [e]; rfl)).1, fun x hx => ?_⟩; obtain ⟨y, hy, rfl⟩ := List.mem_map.1 hx; have hso := HBun.out.each y hy; exact ⟨fun ad e => Nat.le_trans hwB (World.ownsRow.lt hso.dots ad.block (by rw [e]; rfl)).1, fun ad e => Nat.le_trans hwB (hso.bytes.lt ad.block (by rw [e]; rfl)).1⟩)
      have HCh := Lib.hid (scheck_any (c := co) HSib.out (HG.out.like hkey)); have HK2 := Lib.hid hkey; clear hI0 hkey hOl HBun HI HKey hlt hk hkm
      go_wp2_with first
        | (go_at_call 41; refine HEnd.out.mono ?_; rintro e w8 ⟨rfl, rfl⟩)
        | (go_at_call 59; refine HCh.out.mono ?_; rintro e w8 ⟨rfl, hG8⟩)
      go_ret2
      exact ⟨Ao, k, co, _, rfl, HSib.out.gr hG8, HK2.out, hG.trans hG8, HFr.out⟩
end Go.Proofs.YtjpphldojbfpfaaGreatDoor
