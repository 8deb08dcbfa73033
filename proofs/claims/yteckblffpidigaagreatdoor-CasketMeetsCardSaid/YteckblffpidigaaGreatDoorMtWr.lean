/- The walk of dot.Write. No condition. -/
import Derived.Test.YteckblffpidigaaGreatDoorMtOut
import Derived.Test.YteckblffpidigaaGreatDoorKitT
import Derived.Test.YteckblffpidigaaGreatDoorMtSee
namespace Go.Proofs.YteckblffpidigaaGreatDoor
open Go.RowKit
def encDt (d : DotM) : List UInt8 := hiB 8 d.1 ++ hiB 8 d.2
def encCtx (c : CtxM) : List UInt8 := c.upto.flatMap (hiB 8) ++ (hiB 1 c.more.length ++ c.more.flatMap encDt)
theorem encDt_len (d : DotM) : (encDt d).length = 16 := by rw [encDt, List.length_append, hiB_length, hiB_length]
theorem flatB_len {α : Type} {f : α → List UInt8} {k : Nat} (hk : ∀ x, (f x).length = k) (L : List α) : (L.flatMap f).length = L.length * k := by
  induction L with
  | nil => simp
  | cons x L ih => rw [List.flatMap_cons, List.length_append, ih, hk, List.length_cons, Nat.add_mul]; omega
theorem encCtx_len {c : CtxM} (h : OkC c) : (encCtx c).length = 129 + c.more.length * 16 := by
  rw [encCtx, List.length_append, List.length_append, flatB_len (fun x => hiB_length 8 x), flatB_len encDt_len, hiB_length, h.len]
  omega
/-- An Out amid a chain of calls; the blocks of S stand. -/
def OutSt (B g : Nat) (LL : Nat → List UInt8) (S : Nat → Prop) (s : Nat) (w : World) : Prop := B ≤ w.heap.size ∧ ∃ A c, OutIs w B g A c (LL s) ∧ ∀ k, S k → k < w.heap.size ∧ k ≠ g ∧ ∀ ad, A = some ad → ad.block ≠ k
structure OutG (B : Nat) (S : Nat → Prop) (w w' : World) : Prop where
  below : Below B w w'
  stand : ∀ k, S k → k < w.heap.size → w'.heap[k]? = w.heap[k]?
theorem OutG.refl {B : Nat} {S : Nat → Prop} {w : World} : OutG B S w w := ⟨Below.refl _ _, fun _ _ _ => rfl⟩
theorem OutG.trans {B : Nat} {S : Nat → Prop} {a b c : World} (h : OutG B S a b) (k : OutG B S b c) : OutG B S a c :=
  ⟨h.below.trans k.below, fun i hi hl => (k.stand i hi (Nat.lt_of_lt_of_le hl h.below.size)).trans (h.stand i hi hl)⟩
theorem OutG.of_gr {B : Nat} {S : Nat → Prop} {w w' : World} (h : Gr w w') (hB : B ≤ w.heap.size) : OutG B S w w' := ⟨h.mono hB, fun k _ hl => h.block k hl⟩
theorem OutG.arr {B b : Nat} {S : Nat → Prop} {t : TypeId} {cs : List Value} {w w' : World} (h : OutG B S w w') (hS : S b) (hA : Arr w b t cs) : Arr w' b t cs := by
  have := h.stand b hS hA.lt
  unfold Arr at hA ⊢
  rw [this]
  exact hA
theorem OutSt.gr {B g s : Nat} {LL : Nat → List UInt8} {S : Nat → Prop} {w w' : World} (h : OutSt B g LL S s w) (hG : Gr w w') : OutSt B g LL S s w' := by
  obtain ⟨hB, A, c, hO, hS⟩ := h
  exact ⟨Nat.le_trans hB hG.size, A, c, hO.gr hG, fun k hk => ⟨Nat.lt_of_lt_of_le (hS k hk).1 hG.size, (hS k hk).2⟩⟩
theorem OutSt.put {B g s : Nat} {A : Option Addr} {LL : Nat → List UInt8} {L' : List UInt8} {S : Nat → Prop} {w w' : World} {e : Ending} (hB : B ≤ w.heap.size) (hS : ∀ k, S k → k < w.heap.size ∧ k ≠ g ∧ ∀ ad, A = some ad → ad.block ≠ k) (hL : L' = LL (s + 1)) (h : PutQ B g A L' w e w') : e = .returned (.pointer (some ⟨g, 0, none⟩)) ∧ OutG B S w w' ∧ OutSt B g LL S (s + 1) w' := by
  obtain ⟨A', c', rfl, hO, hK⟩ := h
  subst hL
  refine ⟨rfl, ⟨hK.below, fun k hk _ => ?_⟩, Nat.le_trans hB hK.below.size, A', c', hO, fun k hk => ?_⟩
  · obtain ⟨h1, h2, h3⟩ := hS k hk
    exact (hK.other k h1 h2 h3).1
  · obtain ⟨h1, h2, h3⟩ := hS k hk
    exact ⟨Nat.lt_of_lt_of_le h1 hK.below.size, h2, (hK.other k h1 h2 h3).2⟩
def WrUp (U : List Nat) (g : Nat) (w1 : World) (i : Value) (wr : World) : Prop := ∃ (k : Nat) (A : Option Addr) (c : Nat), k ≤ 16 ∧ i = .int .i64 (k : Int) ∧ OutIs wr w1.heap.size g A c ((U.take k).flatMap (hiB 8)) ∧ Gr w1 wr
def WrMo (P : List UInt8) (L : List DotM) (m g : Nat) (w1 : World) (i : Value) (wr : World) : Prop := ∃ (k : Nat) (A : Option Addr) (c : Nat), k ≤ m ∧ i = .int .i64 (k : Int) ∧ OutIs wr w1.heap.size g A c (P ++ (L.take k).flatMap encDt) ∧ Gr w1 wr
set_option maxRecDepth 100000 in
set_option maxHeartbeats 8000000 in
theorem dwrite_any {c : CtxM} {M : Option Addr} {m cM : Nat} {w : World} (hc : OkC c) (hM : DotsR w M m c.more) :
    Calls Tryz.prog 15 #[.agg (ctxC c M m cM).toArray] w fun e w' => DoneQ (encCtx c) w e w' := by
  have hm32 : m ≤ 32 := by rw [← hM.1]; exact hc.few
  have hml := hM.1
  have hl16 := hc.len
  have hl17 := ctxC_length hl16 M m cM
  have HC := Lib.hid (fun w1 (h : Gr w w1) => check_any (cM := cM) hc (hM.gr h))
  have HI := Lib.hid (infoCtx hl16 M m cM)
  have HI16 := Lib.hid (info16 hl16)
  have HOk := Lib.hid hc
  have HM := Lib.hid hM
  have HMl := Lib.hid hml
  obtain ⟨C, hC⟩ : ∃ C, C = ctxC c M m cM := ⟨_, rfl⟩
  have hA0 : Arr (w.alloc (.cells C.toArray 42)) w.heap.size 42 C := Arr.newAt rfl rfl
  have hG0 : Gr w (w.alloc (.cells C.toArray 42)) := Gr.alloc _ _
  have h16 : C[16]? = some (.slice M m cM) := by rw [hC]; exact ctxC_more hl16 M m cM
  have hrU : ∀ j u, (numsV c.upto)[j]? = some u → C[j]? = some u := fun j u h => by
    rw [hC]
    unfold ctxC
    rw [List.getElem?_append_left (List.getElem?_eq_some_iff.1 h).1]
    exact h
  have HU := Lib.hid hrU
  rw [← hC] at HC HI ⊢
  clear hM hc hC hml hrU
  go_enter Tryz.func15, Tryz.ntmps15
  go_upto_region 1 with fail
  change Code.wp _ _ _ _ (w.alloc (.cells C.toArray 42))
  generalize w.alloc (.cells C.toArray 42) = w0 at hA0 hG0 ⊢
  generalize w.heap.size = g1 at hA0 ⊢
  go_upto_region 5 with first
    | (refine wpList_load_mid rfl _ _ rfl g1 0 rfl C _ (Arr.range hA0) Tryz.underlying42 rfl HI.out ?_)
    | (go_at_call 37; refine (HC.out w0 hG0).mono ?_; rintro e w1 ⟨rfl, hG1⟩)
  have hA5 : Arr (w1.alloc (.cells #[.slice none 0 0, .bool false] 56)) w1.heap.size 56 [.slice none 0 0, .bool false] := Arr.newAt rfl rfl
  have hG5 : Gr w1 (w1.alloc (.cells #[.slice none 0 0, .bool false] 56)) := Gr.alloc _ _
  have HO5 : Hid (OutIs (w1.alloc (.cells #[.slice none 0 0, .bool false] 56)) w1.heap.size w1.heap.size none 0 []) := Lib.hid ⟨hA5, World.ownsRow_nil _ _ _ _, Nat.le_refl _⟩
  have hG15 := hG5
  have hA05 := (hA0.gr hG1).gr hG5
  have hGw1 := hG0.trans hG1
  generalize w1.alloc (.cells #[.slice none 0 0, .bool false] 56) = w2 at HO5 hG15 hA05 ⊢
  obtain ⟨g5, hg5⟩ : ∃ g, g = w1.heap.size := ⟨_, rfl⟩
  have HO5b : Hid (OutIs w2 w1.heap.size g5 none 0 []) := by rw [hg5]; exact HO5
  rw [← hg5]
  have hA01 : Arr w1 g1 42 C := hA0.gr hG1
  have hc16 := hA01.cell h16
  clear hg5 HO5 hA5 hG5 hA0 hG0 hG1
  obtain ⟨V, hV⟩ : ∃ V, V = numsV c.upto := ⟨_, rfl⟩
  have HV := Lib.hid hV
  have hrV : w2.rangeAt g1 0 V := fun j u h => by
    rw [Nat.zero_add]
    exact hA05.cell (HU.out j u (by rw [← hV]; exact h))
  rw [← hV] at HI16
  clear hV HU hA05
  go_upto_region 6 with (refine wpList_load_mid rfl _ _ rfl g1 0 rfl V _ hrV Tryz.underlying40 rfl HI16.out ?_)
  go_loopw [19] (fun i wr => WrUp c.upto g5 w1 i wr) (fun i _ => 16 - (intOf i).toNat)
  case atStart => exact ⟨0, none, 0, by omega, rfl, HO5b.out, hG15⟩
  case round =>
    clear hG15 hrV
    obtain ⟨k, A, cA, hk, rfl, hO, hG⟩ := hrel
    have HO := Lib.hid hO
    have hs : w1.heap.size ≤ wr.heap.size := hG.size
    clear hO
    by_cases hlt : k < 16
    · have hki : (k : Int) < 16 := by omega
      obtain ⟨u, hu⟩ : ∃ u, u = c.upto.getD k 0 := ⟨_, rfl⟩
      have hu1 : u ≤ 1099511627776 := by
        have := upOf_le HOk.out (k + 1)
        unfold upOf at this
        rwa [Nat.add_sub_cancel, ← hu] at this
      have hix : ∀ w, (Instr.index 40 (.agg V.toArray) (.int .i64 (k : Int))).run Tryz.prog w = .ok (.int .i64 (u : Int)) w := fun w => run_indexA (P := Tryz.prog) Tryz.underlying40 Tryz.underlying3 (by kernel_rfl) (by rw [HV.out, hu]; exact numsV_at (by rw [hl16]; exact hlt)) hlt w
      have HTk : Hid ((c.upto.take k).flatMap (hiB 8) ++ hiB 8 u = (c.upto.take (k + 1)).flatMap (hiB 8)) := Lib.hid (by
        have hk2 : c.upto[k]? = some u := by
          rw [hu, List.getD_eq_getElem?_getD, List.getElem?_eq_getElem (by omega)]
          rfl
        rw [take_snoc_ c.upto k u hk2, List.flatMap_append, List.flatMap_singleton])
      have HN := Lib.hid (num_any (x := u) HO.out hs (by omega) (by
        rw [flatB_len (fun x => hiB_length 8 x), List.length_take]
        omega))
      rw [HTk.out] at HN
      clear hu
      go_wp2_with (go_at_call 16; refine HN.out.mono ?_; rintro e w3 ⟨A3, c3, rfl, hO3, hK3⟩)
      exact ⟨⟨k + 1, A3, c3, hlt, by go_num, hO3, Below.trans hG hK3.below⟩, by simp [intOf]; omega⟩
    · have hki : ¬ (k : Int) < 16 := by omega
      have hTk : (c.upto.take k).flatMap (hiB 8) = c.upto.flatMap (hiB 8) := by rw [List.take_of_length_le (by omega)]
      rw [hTk] at HO
      have hul : (c.upto.flatMap (hiB 8)).length = 128 := by rw [flatB_len (fun x => hiB_length 8 x), hl16]
      have HSm := Lib.hid (small_any (x := m) HO.out hs (by omega) (by omega))
      have hc16r := Gr.cell hG hc16
      clear hTk HO hlt hk
      go_upto_region 11 with (go_at_call 14; refine HSm.out.mono ?_; rintro e w3 ⟨A3, c3, rfl, hO3, hK3⟩; have HO3 := Lib.hid hO3; clear hO3)
      have hG3 : Gr w1 w3 := Below.trans hG hK3.below
      have hc163 := Gr.cell hG3 hc16
      obtain ⟨PP, hPP⟩ : ∃ P, P = c.upto.flatMap (hiB 8) ++ hiB 1 m := ⟨_, rfl⟩
      rw [← hPP] at HO3
      have hPl : PP.length = 129 := by rw [hPP, List.length_append, hul, hiB_length]
      have HPP := Lib.hid hPP
      clear hPP hul HSm hc16r hG hs hK3
      go_wp2_with fail
      go_simp
      go_loopw [34] (fun i wr => WrMo PP c.more m g5 w1 i wr) (fun i _ => m - (intOf i).toNat)
      case atStart => exact ⟨0, A3, c3, Nat.zero_le _, rfl, by simpa using HO3.out, hG3⟩
      case round =>
        clear hG3 hc163
        obtain ⟨k, A, cA, hk, rfl, hO, hG⟩ := hrel
        have HO := Lib.hid hO
        have hs : w1.heap.size ≤ wr.heap.size := hG.size
        clear hO
        by_cases hlt : k < m
        · have hki : (k : Int) < (m : Int) := by omega
          obtain ⟨d, hd⟩ : ∃ d, c.more[k]? = some d := ⟨_, List.getElem?_eq_getElem (by rw [HMl.out]; exact hlt)⟩
          obtain ⟨bD, oD, hMe, hr⟩ := (HM.out.gr (hGw1.trans hG)).2 k d hd
          have hdr := (HOk.out.right d (List.mem_of_getElem? hd)).1
          have hd1 : d.1 < 9223372036854775808 := by have := hdr.2.1; omega
          have hd2 : d.2 < 9223372036854775808 := by have := hdr.2.2.2; omega
          have HTk : Hid (c.more.take (k + 1) = c.more.take k ++ [d]) := Lib.hid (take_snoc_ c.more k d hd)
          have hLl : (PP ++ (c.more.take k).flatMap encDt).length ≤ 1000 := by
            rw [List.length_append, hPl, flatB_len encDt_len, List.length_take]
            omega
          subst hMe
          clear hd hdr
          go_upto_region 14 with first
            | (refine wpList_load_mid rfl _ _ rfl bD (oD + k * 2) rfl (encD d) _ hr Tryz.underlying39 rfl (infoDot _) ?_)
            | (refine wpList_new (w := wr) (t := 39) rfl _ _ _ rfl wr.heap.size (encD d) rfl rfl rfl rfl (infoDot _) (encD_one _) ?_; intro w8 hA8 hG8)
          have hs8 : w1.heap.size ≤ w8.heap.size := Nat.le_trans hs hG8.size
          have hG18 : Gr w1 w8 := hG.trans hG8
          obtain ⟨g9, hg9⟩ : ∃ g, g = wr.heap.size := ⟨_, rfl⟩
          rw [← hg9] at hA8
          simp only [← hg9]
          obtain ⟨LL, hLL⟩ : ∃ LL : Nat → List UInt8, LL = fun s => if s = 0 then PP ++ (c.more.take k).flatMap encDt else if s = 1 then (PP ++ (c.more.take k).flatMap encDt) ++ hiB 8 d.1 else ((PP ++ (c.more.take k).flatMap encDt) ++ hiB 8 d.1) ++ hiB 8 d.2 := ⟨_, rfl⟩
          have hL1 : LL 0 ++ hiB 8 d.1 = LL (0 + 1) := by rw [hLL]; rfl
          have hL2 : LL 1 ++ hiB 8 d.2 = LL (1 + 1) := by rw [hLL]; rfl
          have hl0 : (LL 0).length ≤ 1000000 := by rw [hLL]; simp only [if_true]; omega
          have hl1 : (LL 1).length ≤ 1000000 := by rw [← hL1, List.length_append, hiB_length, hLL]; simp only [if_true]; omega
          have HLE : Hid (LL 2 = PP ++ (c.more.take (k + 1)).flatMap encDt) := Lib.hid (by
            rw [hLL, HTk.out, List.flatMap_append, List.flatMap_singleton, encDt]
            simp only [List.append_assoc]
            rfl)
          have HSt : Hid (OutSt w1.heap.size g5 LL (fun b => b = g9) 0 w8.drew) := Lib.hid (OutSt.gr (by
            refine ⟨hs8, A, cA, ?_, fun b hb => ?_⟩
            · have := HO.out.gr hG8
              rw [hLL]
              simpa using this
            · subst hb
              have h1 := HO.out.arr.lt
              have h2 := hA8.lt
              exact ⟨h2, by omega, fun ad e => by have := own_lt HO.out.own ad e; omega⟩) (Gr.drew w8))
          clear hLL HO hG8 hg9 hr
          refine wp_region_chain [3, 6] (OutSt w1.heap.size g5 LL fun b => b = g9) (OutG w1.heap.size fun b => b = g9) (fun _ _ _ => OutG.trans) (by kernel_rfl) [IsV (.pointer (some ⟨g5, 0, none⟩)), IsV (.pointer (some ⟨g9, 0, none⟩)), IsV (.int .i64 (d.1 : Int)), IsV (.pointer (some ⟨g5, 0, none⟩)), IsV (.pointer (some ⟨g9, 1, none⟩)), IsV (.int .i64 (d.2 : Int)), IsV (.pointer (some ⟨g5, 0, none⟩))] (by kernel_rfl) (by decide) (by kernel_rfl) OutG.refl HSt.out ?_ ?_ ?_
          · intro φ hφ v w1 w2 h hg
            simp only [List.mem_cons, List.not_mem_nil, or_false] at hφ
            rcases hφ with rfl | rfl | rfl | rfl | rfl | rfl | rfl
            all_goals exact h
          · refine ⟨?_, ?_, ?_, ?_, ?_, ?_, ?_, trivial⟩
            · intro s a1 w3 hG hS _ hF
              exact stepC_gr rfl (fun _ h => OutG.of_gr h hS.1) (fun _ h => hS.gr h) (s_old rfl (wants0 rfl) (.tmp 5) (.inr rfl) (.pointer (some ⟨g5, 0, none⟩)) (hF.ol 5 (by kernel_rfl)) rfl)
            · intro s a1 w3 hG hS _ hF
              have e9 : a1.eval (.tmp 9) = .pointer (some ⟨g9, 0, none⟩) := hF.ol 9 (by kernel_rfl)
              exact stepC_gr rfl (fun _ h => OutG.of_gr h hS.1) (fun _ h => hS.gr h) (s_is rfl (wants0 rfl) _ rfl (run_fieldR (o := 0) (k := 0) Tryz.underlying39 rfl rfl (by kernel_rfl) e9))
            · intro s a1 w3 hG hS _ hF
              obtain ⟨_, e39, rfl⟩ := hF.dp 1 39 (by kernel_rfl)
              have hA9 := hG.arr rfl (hA8.gr (Gr.drew w8))
              exact stepC_gr rfl (fun _ h => OutG.of_gr h hS.1) (fun _ h => hS.gr h) (s_is rfl (wants0 rfl) _ rfl (run_load1 Tryz.underlying3 e39 (hA9.cell (i := 0) (v := .int .i64 (d.1 : Int)) rfl)))
            · intro s a1 w3 hG hS hw hF
              have h0 := hw 0 rfl
              subst h0
              obtain ⟨hB, A2, c2, hO, hSb⟩ := hS
              obtain ⟨_, e38, rfl⟩ := hF.dp 0 38 (by kernel_rfl)
              obtain ⟨_, e40, rfl⟩ := hF.dp 2 40 (by kernel_rfl)
              refine stepC_call rfl rfl rfl 16 #[.pointer (some ⟨g5, 0, none⟩), .int .i64 (d.1 : Int)] (by simp only [execOp, resolve, invoke, List.map_toArray, List.map_cons, List.map_nil, e38, e40]; go_simp) ((num_any hO hB hd1 hl0).mono fun e w4 hq => ?_)
              obtain ⟨he, hG4, hS4⟩ := OutSt.put hB hSb hL1 hq
              exact ⟨_, he, rfl, hG4, hS4⟩
            · intro s a1 w3 hG hS _ hF
              have e9 : a1.eval (.tmp 9) = .pointer (some ⟨g9, 0, none⟩) := hF.ol 9 (by kernel_rfl)
              exact stepC_gr rfl (fun _ h => OutG.of_gr h hS.1) (fun _ h => hS.gr h) (s_is rfl (wants0 rfl) _ rfl (run_fieldR (o := 1) (k := 0) Tryz.underlying39 rfl rfl (by kernel_rfl) e9))
            · intro s a1 w3 hG hS _ hF
              obtain ⟨_, e42, rfl⟩ := hF.dp 4 42 (by kernel_rfl)
              have hA9 := hG.arr rfl (hA8.gr (Gr.drew w8))
              exact stepC_gr rfl (fun _ h => OutG.of_gr h hS.1) (fun _ h => hS.gr h) (s_is rfl (wants0 rfl) _ rfl (run_load1 Tryz.underlying3 e42 (hA9.cell (i := 1) (v := .int .i64 (d.2 : Int)) rfl)))
            · intro s a1 w3 hG hS hw hF
              have h0 := hw 1 rfl
              subst h0
              obtain ⟨hB, A2, c2, hO, hSb⟩ := hS
              obtain ⟨_, e41, rfl⟩ := hF.dp 3 41 (by kernel_rfl)
              obtain ⟨_, e43, rfl⟩ := hF.dp 5 43 (by kernel_rfl)
              refine stepC_call rfl rfl rfl 16 #[.pointer (some ⟨g5, 0, none⟩), .int .i64 (d.2 : Int)] (by simp only [execOp, resolve, invoke, List.map_toArray, List.map_cons, List.map_nil, e41, e43]; go_simp) ((num_any hO hB hd2 hl1).mono fun e w4 hq => ?_)
              obtain ⟨he, hG4, hS4⟩ := OutSt.put hB hSb hL2 hq
              exact ⟨_, he, rfl, hG4, hS4⟩
          · intro vs w4 hG4 _ hSt4
            obtain ⟨_, A4, c4, hO4, _⟩ := hSt4
            have hGe : Gr w1 w4 := Below.trans (hG18.trans (Gr.drew w8)) hG4.below
            have HREL : Hid (WrMo PP c.more m g5 w1 (.int .i64 ((k + 1 : Nat) : Int)) w4) := Lib.hid ⟨k + 1, A4, c4, hlt, rfl, by rw [← HLE.out]; exact hO4, hGe⟩
            clear hO4 hGe hG4 HLE HSt hL1 hL2 hl0 hl1 hG18 hA8
            simp only [putAll, Nat.zero_add, Nat.reduceAdd]
            go_simp
            go_wp2_with fail
            exact ⟨by rw [show (k : Int) + 1 = ((k + 1 : Nat) : Int) by omega]; exact HREL.out, by simp [intOf]; omega⟩
        · have hki : ¬ (k : Int) < (m : Int) := by omega
          have HE : Hid (PP ++ (c.more.take k).flatMap encDt = encCtx c) := Lib.hid (by
            rw [HPP.out, List.take_of_length_le (by rw [HMl.out]; omega), encCtx, HMl.out]
            simp only [List.append_assoc])
          rw [HE.out] at HO
          have HDn := Lib.hid (done_any HO.out (by rw [encCtx_len HOk.out, HMl.out]; omega))
          clear HO hlt hk
          have hGe := hGw1.trans hG
          go_wp2_with (go_at_call 18; refine HDn.out.mono ?_; rintro e w9 ⟨A9, c9, rfl, hO9, hn9, hG9⟩; have HO9 := Lib.hid hO9; have HN9 := Lib.hid hn9; clear hO9 hn9)
          go_ret2
          exact ⟨A9, c9, rfl, own_base2 HO9.out hGe.size, HN9.out, hGe.trans hG9⟩
end Go.Proofs.YteckblffpidigaaGreatDoor
