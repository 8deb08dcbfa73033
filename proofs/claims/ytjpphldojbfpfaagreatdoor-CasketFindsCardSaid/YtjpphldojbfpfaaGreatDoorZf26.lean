/- Texts of one proof, laid as one: part 26. No condition. -/
import Derived.Lib.MinMax
import Derived.Test.YtjpphldojbfpfaaGreatDoorZf05
import Derived.Test.YtjpphldojbfpfaaGreatDoorZf10
import Derived.Test.YtjpphldojbfpfaaGreatDoorZf11
import Derived.Test.YtjpphldojbfpfaaGreatDoorZf12
import Derived.Test.YtjpphldojbfpfaaGreatDoorZf16
import Derived.Test.YtjpphldojbfpfaaGreatDoorZf17
import Derived.Test.YtjpphldojbfpfaaGreatDoorZf20
namespace Go.Proofs.YtjpphldojbfpfaaGreatDoor
open Go.RowKit
def encDt (d : DotM) : List UInt8 := hiB 8 d.1 ++ hiB 8 d.2
def encCtx (c : CtxM) : List UInt8 := c.upto.flatMap (hiB 8) ++ (hiB 1 c.more.length ++ c.more.flatMap encDt)
theorem encDt_len (d : DotM) : (encDt d).length = 16 := by rw [encDt, List.length_append, hiB_length, hiB_length]
theorem flatB_len {α : Type} {f : α → List UInt8} {k : Nat} (hk : ∀ x, (f x).length = k) (L : List α) : (L.flatMap f).length = L.length * k := by
  induction L with
  | nil => simp
  | cons x L ih => rw [List.flatMap_cons, List.length_append, ih, hk, List.length_cons, Nat.add_mul]; omega
theorem encCtx_len {c : CtxM} (h : OkC c) : (encCtx c).length = 129 + c.more.length * 16 := by
  rw [encCtx, List.length_append, List.length_append, flatB_len (fun x => hiB_length 8 x), flatB_len encDt_len, hiB_length, h.len]; omega
def OutSt (B g : Nat) (LL : Nat → List UInt8) (S : Nat → Prop) (s : Nat) (w : World) : Prop := B ≤ w.heap.size ∧ ∃ A c, OutIs w B g A c (LL s) ∧ ∀ k, S k → k < w.heap.size ∧ k ≠ g ∧ ∀ ad, A = some ad → ad.block ≠ k
structure OutG (B : Nat) (S : Nat → Prop) (w w' : World) : Prop where
  below : Below B w w'
  stand : ∀ k, S k → k < w.heap.size → w'.heap[k]? = w.heap[k]?
theorem OutG.refl {B : Nat} {S : Nat → Prop} {w : World} : OutG B S w w := ⟨Below.refl _ _, fun _ _ _ => rfl⟩
theorem OutG.trans {B : Nat} {S : Nat → Prop} {a b c : World} (h : OutG B S a b) (k : OutG B S b c) : OutG B S a c :=
  ⟨h.below.trans k.below, fun i hi hl => (k.stand i hi (Nat.lt_of_lt_of_le hl h.below.size)).trans (h.stand i hi hl)⟩
theorem OutG.of_gr {B : Nat} {S : Nat → Prop} {w w' : World} (h : Gr w w') (hB : B ≤ w.heap.size) : OutG B S w w' := ⟨h.mono hB, fun k _ hl => h.block k hl⟩
theorem OutG.arr {B b : Nat} {S : Nat → Prop} {t : TypeId} {cs : List Value} {w w' : World} (h : OutG B S w w') (hS : S b) (hA : Arr w b t cs) : Arr w' b t cs := by
  have := h.stand b hS hA.lt; unfold Arr at hA ⊢; rw [this]; exact hA
theorem OutSt.gr {B g s : Nat} {LL : Nat → List UInt8} {S : Nat → Prop} {w w' : World} (h : OutSt B g LL S s w) (hG : Gr w w') : OutSt B g LL S s w' := by
  obtain ⟨hB, A, c, hO, hS⟩ := h; exact ⟨Nat.le_trans hB hG.size, A, c, hO.gr hG, fun k hk => ⟨Nat.lt_of_lt_of_le (hS k hk).1 hG.size, (hS k hk).2⟩⟩
theorem OutSt.put {B g s : Nat} {A : Option Addr} {LL : Nat → List UInt8} {L' : List UInt8} {S : Nat → Prop} {w w' : World} {e : Ending} (hB : B ≤ w.heap.size) (hS : ∀ k, S k → k < w.heap.size ∧ k ≠ g ∧ ∀ ad, A = some ad → ad.block ≠ k) (hL : L' = LL (s + 1)) (h : PutQ B g A L' w e w') : e = .returned (.pointer (some ⟨g, 0, none⟩)) ∧ OutG B S w w' ∧ OutSt B g LL S (s + 1) w' := by
  obtain ⟨A', c', rfl, hO, hK⟩ := h; subst hL; refine ⟨rfl, ⟨hK.below, fun k hk _ => ?_⟩, Nat.le_trans hB hK.below.size, A', c', hO, fun k hk => ?_⟩
  · obtain ⟨h1, h2, h3⟩ := hS k hk; exact (hK.other k h1 h2 h3).1
  · obtain ⟨h1, h2, h3⟩ := hS k hk; exact ⟨Nat.lt_of_lt_of_le h1 hK.below.size, h2, (hK.other k h1 h2 h3).2⟩
def WrUp (U : List Nat) (g : Nat) (w1 : World) (i : Value) (wr : World) : Prop := ∃ (k : Nat) (A : Option Addr) (c : Nat), k ≤ 16 ∧ i = .int .i64 (k : Int) ∧ OutIs wr w1.heap.size g A c ((U.take k).flatMap (hiB 8)) ∧ Gr w1 wr
def WrMo (P : List UInt8) (L : List DotM) (m g : Nat) (w1 : World) (i : Value) (wr : World) : Prop := ∃ (k : Nat) (A : Option Addr) (c : Nat), k ≤ m ∧ i = .int .i64 (k : Int) ∧ OutIs wr w1.heap.size g A c (P ++ (L.take k).flatMap encDt) ∧ Gr w1 wr
set_option maxRecDepth 100000 in
set_option maxHeartbeats 8000000 in
theorem dwrite_any {c : CtxM} {M : Option Addr} {m cM : Nat} {w : World} (hc : OkC c) (hM : DotsR w M m c.more) :
    Calls Tryz.prog 97 #[.agg (ctxC c M m cM).toArray] w fun e w' => DoneQ (encCtx c) w e w' := by
  have hm32 : m ≤ 32 := by rw [← hM.1]; exact hc.few
  have hml := hM.1; have hl16 := hc.len; have hl17 := ctxC_length hl16 M m cM; have HC := Lib.hid (fun w1 (h : Gr w w1) => check_any (cM := cM) hc (hM.gr h)); have HI := Lib.hid (infoCtx hl16 M m cM); have HI16 := Lib.hid (info16 hl16); have HOk := Lib.hid hc; have HM := Lib.hid hM; have HMl := Lib.hid hml; obtain ⟨C, hC⟩ : ∃ C, C = ctxC c M m cM := ⟨_, rfl⟩; have hA0 : Arr (w.alloc (.cells C.toArray 42)) w.heap.size 42 C := Arr.newAt rfl rfl; have hG0 : Gr w (w.alloc (.cells C.toArray 42)) := Gr.alloc _ _; have h16 : C[16]? = some (.slice M m cM) := by rw [hC]; exact ctxC_more hl16 M m cM
  have hrU : ∀ j u, (numsV c.upto)[j]? = some u → C[j]? = some u := fun j u h => by
    rw [hC]; unfold ctxC; rw [List.getElem?_append_left (List.getElem?_eq_some_iff.1 h).1]; exact h
  have HU := Lib.hid hrU; rw [← hC] at HC HI ⊢; clear hM hc hC hml hrU
  go_enter Tryz.func97, Tryz.ntmps97
  go_upto_region 1 with fail
  change Code.wp _ _ _ _ (w.alloc (.cells C.toArray 42)); generalize w.alloc (.cells C.toArray 42) = w0 at hA0 hG0 ⊢; generalize w.heap.size = g1 at hA0 ⊢
  go_upto_region 5 with first
    | (refine wpList_load_mid rfl _ _ rfl g1 0 rfl C _ (Arr.range hA0) Tryz.underlying42 rfl HI.out ?_)
    | (go_at_call 121; refine (HC.out w0 hG0).mono ?_; rintro e w1 ⟨rfl, hG1⟩)
  have hA5 : Arr (w1.alloc (.cells #[.slice none 0 0, .bool false] 178)) w1.heap.size 178 [.slice none 0 0, .bool false] := Arr.newAt rfl rfl; have hG5 : Gr w1 (w1.alloc (.cells #[.slice none 0 0, .bool false] 178)) := Gr.alloc _ _; have HO5 : Hid (OutIs (w1.alloc (.cells #[.slice none 0 0, .bool false] 178)) w1.heap.size w1.heap.size none 0 []) := Lib.hid ⟨hA5, World.ownsRow_nil _ _ _ _, Nat.le_refl _⟩; have hG15 := hG5; have hA05 := (hA0.gr hG1).gr hG5; have hGw1 := hG0.trans hG1; generalize w1.alloc (.cells #[.slice none 0 0, .bool false] 178) = w2 at HO5 hG15 hA05 ⊢; obtain ⟨g5, hg5⟩ : ∃ g, g = w1.heap.size := ⟨_, rfl⟩; have HO5b : Hid (OutIs w2 w1.heap.size g5 none 0 []) := by rw [hg5]; exact HO5
  rw [← hg5]; have hA01 : Arr w1 g1 42 C := hA0.gr hG1; have hc16 := hA01.cell h16; clear hg5 HO5 hA5 hG5 hA0 hG0 hG1; obtain ⟨V, hV⟩ : ∃ V, V = numsV c.upto := ⟨_, rfl⟩; have HV := Lib.hid hV
  have hrV : w2.rangeAt g1 0 V := fun j u h => by
    rw [Nat.zero_add]; exact hA05.cell (HU.out j u (by rw [← hV]; exact h))
  rw [← hV] at HI16; clear hV HU hA05
  go_upto_region 6 with (refine wpList_load_mid rfl _ _ rfl g1 0 rfl V _ hrV Tryz.underlying39 rfl HI16.out ?_)
  go_loopw [19] (fun i wr => WrUp c.upto g5 w1 i wr) (fun i _ => 16 - (intOf i).toNat)
  case atStart => exact ⟨0, none, 0, by omega, rfl, HO5b.out, hG15⟩
  case round =>
    clear hG15 hrV; obtain ⟨k, A, cA, hk, rfl, hO, hG⟩ := hrel; have HO := Lib.hid hO; have hs : w1.heap.size ≤ wr.heap.size := hG.size; clear hO
    by_cases hlt : k < 16
    · have hki : (k : Int) < 16 := by omega
      obtain ⟨u, hu⟩ : ∃ u, u = c.upto.getD k 0 := ⟨_, rfl⟩
      have hu1 : u ≤ 1099511627776 := by
        have := upOf_le HOk.out (k + 1); unfold upOf at this
        rwa [Nat.add_sub_cancel, ← hu] at this
      have hix : ∀ w, (Instr.index 39 (.agg V.toArray) (.int .i64 (k : Int))).run Tryz.prog w = .ok (.int .i64 (u : Int)) w := fun w => run_indexA (P := Tryz.prog) Tryz.underlying39 Tryz.underlying3 (by kernel_rfl) (by rw [HV.out, hu]; exact numsV_at (by rw [hl16]; exact hlt)) hlt w
      have HTk : Hid ((c.upto.take k).flatMap (hiB 8) ++ hiB 8 u = (c.upto.take (k + 1)).flatMap (hiB 8)) := Lib.hid (by
        have hk2 : c.upto[k]? = some u := by
          rw [hu, List.getD_eq_getElem?_getD, List.getElem?_eq_getElem (by omega)]; rfl
        rw [take_snoc_ c.upto k u hk2, List.flatMap_append, List.flatMap_singleton])
      have HN := Lib.hid (num_any (x := u) HO.out hs (by omega) (by
        rw [flatB_len (fun x => hiB_length 8 x), List.length_take]; omega))
      rw [HTk.out] at HN; clear hu
      go_wp2_with (go_at_call 98; refine HN.out.mono ?_; rintro e w3 ⟨A3, c3, rfl, hO3, hK3⟩)
      exact ⟨⟨k + 1, A3, c3, hlt, by go_num, hO3, Below.trans hG hK3.below⟩, by simp [intOf]; omega⟩
    · have hki : ¬ (k : Int) < 16 := by omega
      have hTk : (c.upto.take k).flatMap (hiB 8) = c.upto.flatMap (hiB 8) := by rw [List.take_of_length_le (by omega)]
      rw [hTk] at HO; have hul : (c.upto.flatMap (hiB 8)).length = 128 := by rw [flatB_len (fun x => hiB_length 8 x), hl16]
      have HSm := Lib.hid (small_any (x := m) HO.out hs (by omega) (by omega)); have hc16r := Gr.cell hG hc16; clear hTk HO hlt hk
      go_upto_region 11 with (go_at_call 96; refine HSm.out.mono ?_; rintro e w3 ⟨A3, c3, rfl, hO3, hK3⟩; have HO3 := Lib.hid hO3; clear hO3)
      have hG3 : Gr w1 w3 := Below.trans hG hK3.below; have hc163 := Gr.cell hG3 hc16; obtain ⟨PP, hPP⟩ : ∃ P, P = c.upto.flatMap (hiB 8) ++ hiB 1 m := ⟨_, rfl⟩; rw [← hPP] at HO3; have hPl : PP.length = 129 := by rw [hPP, List.length_append, hul, hiB_length]
      have HPP := Lib.hid hPP; clear hPP hul HSm hc16r hG hs hK3; go_wp2_with fail
      go_simp
      go_loopw [34] (fun i wr => WrMo PP c.more m g5 w1 i wr) (fun i _ => m - (intOf i).toNat)
      case atStart => exact ⟨0, A3, c3, Nat.zero_le _, rfl, by simpa using HO3.out, hG3⟩
      case round =>
        clear hG3 hc163; obtain ⟨k, A, cA, hk, rfl, hO, hG⟩ := hrel; have HO := Lib.hid hO; have hs : w1.heap.size ≤ wr.heap.size := hG.size; clear hO
        by_cases hlt : k < m
        · have hki : (k : Int) < (m : Int) := by omega
          obtain ⟨d, hd⟩ : ∃ d, c.more[k]? = some d := ⟨_, List.getElem?_eq_getElem (by rw [HMl.out]; exact hlt)⟩; obtain ⟨bD, oD, hMe, hr⟩ := (HM.out.gr (hGw1.trans hG)).2 k d hd; have hdr := (HOk.out.right d (List.mem_of_getElem? hd)).1; have hd1 : d.1 < 9223372036854775808 := by have := hdr.2.1; omega
          have hd2 : d.2 < 9223372036854775808 := by have := hdr.2.2.2; omega
          have HTk : Hid (c.more.take (k + 1) = c.more.take k ++ [d]) := Lib.hid (take_snoc_ c.more k d hd)
          have hLl : (PP ++ (c.more.take k).flatMap encDt).length ≤ 1000 := by
            rw [List.length_append, hPl, flatB_len encDt_len, List.length_take]; omega
          subst hMe; clear hd hdr
          go_upto_region 14 with first
            | (refine wpList_load_mid rfl _ _ rfl bD (oD + k * 2) rfl (encD d) _ hr Tryz.underlying38 rfl (infoDot _) ?_)
            | (refine wpList_new (w := wr) (t := 38) rfl _ _ _ rfl wr.heap.size (encD d) rfl rfl rfl rfl (infoDot _) (encD_one _) ?_; intro w8 hA8 hG8)
          have hs8 : w1.heap.size ≤ w8.heap.size := Nat.le_trans hs hG8.size; have hG18 : Gr w1 w8 := hG.trans hG8; obtain ⟨g9, hg9⟩ : ∃ g, g = wr.heap.size := ⟨_, rfl⟩; rw [← hg9] at hA8; simp only [← hg9]; obtain ⟨LL, hLL⟩ : ∃ LL : Nat → List UInt8, LL = fun s => if s = 0 then PP ++ (c.more.take k).flatMap encDt else if s = 1 then (PP ++ (c.more.take k).flatMap encDt) ++ hiB 8 d.1 else ((PP ++ (c.more.take k).flatMap encDt) ++ hiB 8 d.1) ++ hiB 8 d.2 := ⟨_, rfl⟩
          have hL1 : LL 0 ++ hiB 8 d.1 = LL (0 + 1) := by rw [hLL]; rfl
          have hL2 : LL 1 ++ hiB 8 d.2 = LL (1 + 1) := by rw [hLL]; rfl
          have hl0 : (LL 0).length ≤ 1000000 := by rw [hLL]; simp only [if_true]; omega
          have hl1 : (LL 1).length ≤ 1000000 := by rw [← hL1, List.length_append, hiB_length, hLL]; simp only [if_true]; omega
          have HLE : Hid (LL 2 = PP ++ (c.more.take (k + 1)).flatMap encDt) := Lib.hid (by
            rw [hLL, HTk.out, List.flatMap_append, List.flatMap_singleton, encDt]; simp only [List.append_assoc]; rfl)
          have HSt : Hid (OutSt w1.heap.size g5 LL (fun b => b = g9) 0 w8.drew) := Lib.hid (OutSt.gr (by
            refine ⟨hs8, A, cA, ?_, fun b hb => ?_⟩
            · have := HO.out.gr hG8; rw [hLL]; simpa using this
            · subst hb; have h1 := HO.out.arr.lt; have h2 := hA8.lt; exact ⟨h2, by omega, fun ad e => by have := own_lt HO.out.own ad e; omega⟩) (Gr.drew w8))
          clear hLL HO hG8 hg9 hr; refine wp_region_chain [3, 6] (OutSt w1.heap.size g5 LL fun b => b = g9) (OutG w1.heap.size fun b => b = g9) (fun _ _ _ => OutG.trans) (by kernel_rfl) [IsV (.pointer (some ⟨g5, 0, none⟩)), IsV (.pointer (some ⟨g9, 0, none⟩)), IsV (.int .i64 (d.1 : Int)), IsV (.pointer (some ⟨g5, 0, none⟩)), IsV (.pointer (some ⟨g9, 1, none⟩)), IsV (.int .i64 (d.2 : Int)), IsV (.pointer (some ⟨g5, 0, none⟩))] (by kernel_rfl) (by decide) (by kernel_rfl) OutG.refl HSt.out ?_ ?_ ?_
          · intro φ hφ v w1 w2 h hg; simp only [List.mem_cons, List.not_mem_nil, or_false] at hφ; rcases hφ with rfl | rfl | rfl | rfl | rfl | rfl | rfl
            all_goals exact h
          · refine ⟨?_, ?_, ?_, ?_, ?_, ?_, ?_, trivial⟩
            · intro s a1 w3 hG hS _ hF; exact stepC_gr rfl (fun _ h => OutG.of_gr h hS.1) (fun _ h => hS.gr h) (s_old rfl (wants0 rfl) (.tmp 5) (.inr rfl) (.pointer (some ⟨g5, 0, none⟩)) (hF.ol 5 (by kernel_rfl)) rfl)
            · intro s a1 w3 hG hS _ hF; have e9 : a1.eval (.tmp 9) = .pointer (some ⟨g9, 0, none⟩) := hF.ol 9 (by kernel_rfl); exact stepC_gr rfl (fun _ h => OutG.of_gr h hS.1) (fun _ h => hS.gr h) (s_is rfl (wants0 rfl) _ rfl (run_fieldR (o := 0) (k := 0) Tryz.underlying38 rfl rfl (by kernel_rfl) e9))
            · intro s a1 w3 hG hS _ hF; obtain ⟨_, e39, rfl⟩ := hF.dp 1 39 (by kernel_rfl); have hA9 := hG.arr rfl (hA8.gr (Gr.drew w8)); exact stepC_gr rfl (fun _ h => OutG.of_gr h hS.1) (fun _ h => hS.gr h) (s_is rfl (wants0 rfl) _ rfl (run_load1 Tryz.underlying3 e39 (hA9.cell (i := 0) (v := .int .i64 (d.1 : Int)) rfl)))
            · intro s a1 w3 hG hS hw hF; have h0 := hw 0 rfl; subst h0; obtain ⟨hB, A2, c2, hO, hSb⟩ := hS; obtain ⟨_, e38, rfl⟩ := hF.dp 0 38 (by kernel_rfl); obtain ⟨_, e40, rfl⟩ := hF.dp 2 40 (by kernel_rfl); refine stepC_call rfl rfl rfl 98 #[.pointer (some ⟨g5, 0, none⟩), .int .i64 (d.1 : Int)] (by simp only [execOp, resolve, invoke, List.map_toArray, List.map_cons, List.map_nil, e38, e40]; go_simp) ((num_any hO hB hd1 hl0).mono fun e w4 hq => ?_); obtain ⟨he, hG4, hS4⟩ := OutSt.put hB hSb hL1 hq; exact ⟨_, he, rfl, hG4, hS4⟩
            · intro s a1 w3 hG hS _ hF; have e9 : a1.eval (.tmp 9) = .pointer (some ⟨g9, 0, none⟩) := hF.ol 9 (by kernel_rfl); exact stepC_gr rfl (fun _ h => OutG.of_gr h hS.1) (fun _ h => hS.gr h) (s_is rfl (wants0 rfl) _ rfl (run_fieldR (o := 1) (k := 0) Tryz.underlying38 rfl rfl (by kernel_rfl) e9))
            · intro s a1 w3 hG hS _ hF; obtain ⟨_, e42, rfl⟩ := hF.dp 4 42 (by kernel_rfl); have hA9 := hG.arr rfl (hA8.gr (Gr.drew w8)); exact stepC_gr rfl (fun _ h => OutG.of_gr h hS.1) (fun _ h => hS.gr h) (s_is rfl (wants0 rfl) _ rfl (run_load1 Tryz.underlying3 e42 (hA9.cell (i := 1) (v := .int .i64 (d.2 : Int)) rfl)))
            · intro s a1 w3 hG hS hw hF; have h0 := hw 1 rfl; subst h0; obtain ⟨hB, A2, c2, hO, hSb⟩ := hS; obtain ⟨_, e41, rfl⟩ := hF.dp 3 41 (by kernel_rfl); obtain ⟨_, e43, rfl⟩ := hF.dp 5 43 (by kernel_rfl); refine stepC_call rfl rfl rfl 98 #[.pointer (some ⟨g5, 0, none⟩), .int .i64 (d.2 : Int)] (by simp only [execOp, resolve, invoke, List.map_toArray, List.map_cons, List.map_nil, e41, e43]; go_simp) ((num_any hO hB hd2 hl1).mono fun e w4 hq => ?_); obtain ⟨he, hG4, hS4⟩ := OutSt.put hB hSb hL2 hq; exact ⟨_, he, rfl, hG4, hS4⟩
          · intro vs w4 hG4 _ hSt4; obtain ⟨_, A4, c4, hO4, _⟩ := hSt4; have hGe : Gr w1 w4 := Below.trans (hG18.trans (Gr.drew w8)) hG4.below; have HREL : Hid (WrMo PP c.more m g5 w1 (.int .i64 ((k + 1 : Nat) : Int)) w4) := Lib.hid ⟨k + 1, A4, c4, hlt, rfl, by rw [← HLE.out]; exact hO4, hGe⟩; clear hO4 hGe hG4 HLE HSt hL1 hL2 hl0 hl1 hG18 hA8; simp only [putAll, Nat.zero_add, Nat.reduceAdd]; go_simp; go_wp2_with fail
            exact ⟨by rw [show (k : Int) + 1 = ((k + 1 : Nat) : Int) by omega]; exact HREL.out, by simp [intOf]; omega⟩
        · have hki : ¬ (k : Int) < (m : Int) := by omega
          have HE : Hid (PP ++ (c.more.take k).flatMap encDt = encCtx c) := Lib.hid (by
            rw [HPP.out, List.take_of_length_le (by rw [HMl.out]; omega), encCtx, HMl.out]; simp only [List.append_assoc])
          rw [HE.out] at HO; have HDn := Lib.hid (done_any HO.out (by rw [encCtx_len HOk.out, HMl.out]; omega)); clear HO hlt hk; have hGe := hGw1.trans hG
          go_wp2_with (go_at_call 100; refine HDn.out.mono ?_; rintro e w9 ⟨A9, c9, rfl, hO9, hn9, hG9⟩; have HO9 := Lib.hid hO9; have HN9 := Lib.hid hn9; clear hO9 hn9)
          go_ret2
          exact ⟨A9, c9, rfl, own_base2 HO9.out hGe.size, HN9.out, hGe.trans hG9⟩
end Go.Proofs.YtjpphldojbfpfaaGreatDoor
namespace Go.Proofs.YtjpphldojbfpfaaGreatDoor
end Go.Proofs.YtjpphldojbfpfaaGreatDoor
namespace Go.Proofs.YtjpphldojbfpfaaGreatDoor
open Go.RowKit
section
variable {e : TypeId} {size B : Nat} {A : Option Addr} {n c m : Nat} {xs ys : List Value} {w w' : World}
end
theorem wpList_setI {P : Program} {w : World} {g : Nat} {t : TypeId} {cs : List Value} {ops : Array Oper} {rest : List Oper} {op : Oper} {a : Act} {Q : Exit → Act → World → Prop} (h : Arr w g t cs) (hgd : op.guard = none) (ty : TypeId) (x y : Operand) (ho : op.op = .store ty x y)
    (hT : (P.info? ty).map (·.size) = some 1) (i : Nat) (kd : IntKind) (z : Int) (hx : a.eval x = .pointer (some ⟨g, i, none⟩)) (hy : a.eval y = .int kd z) (hi : i < cs.length)
    (hK : ∀ w2, Arr w2 g t (cs.set i (.int kd z)) → InK g w w2 → wpList P ops Q rest (a.put op.dst undef) w2) : wpList P ops Q (op :: rest) a w := by
  refine wpList_plain hgd fun K hKK => ?_; unfold Oper.wp; obtain ⟨dst, o, tt, ps, af, gd⟩ := op; simp only at ho; subst ho; rw [run_store1 hT hx hy (by rw [h.cell (List.getElem?_eq_getElem hi)]; rfl) (h.frozen i)]; exact hKK _ _ (hK _ (h.set i _) (InK.set _ _))
theorem InK.cells (g o : Nat) (C : List Value) (w : World) : InK g w (w.setCells g o C) := by
  have hb := below_setCells (B := g) (g := g) (Nat.le_refl _) C w o; exact ⟨hb.os, hb.tape, hb.output, hb.size, fun k hk hne => World.heap_setCells_other w g o C hk hne⟩
end Go.Proofs.YtjpphldojbfpfaaGreatDoor
namespace Go.Proofs.YtjpphldojbfpfaaGreatDoor
open Go.RowKit
theorem InIs.keep {w w' : World} {g p b : Nat} {A : Option Addr} {c : Nat} {R : List UInt8} (h : InIs w g p A c R) (hK : InK b w w') (hg : g ≠ b) (hp : p ≠ b) : InIs w' g p A c R :=
  ⟨hK.arr h.arr hg, hK.rd h.rd (fun ad e => by rw [h.blk ad e]; exact hp), h.blk, h.far, h.cap, h.nil⟩
theorem InIs.below {w w' : World} {g p B : Nat} {A : Option Addr} {c : Nat} {R : List UInt8} (h : InIs w g p A c R) (hB : Below B w w') (hg : g < B) (hp : p < B) : InIs w' g p A c R := by
  refine ⟨h.arr.below hB hg, ⟨h.rd.1, fun j u hj => ?_⟩, h.blk, h.far, h.cap, h.nil⟩; obtain ⟨ad, e, hc⟩ := h.rd.2 j u hj; have hb : (ad.add j).block = ad.block := by unfold Addr.add; split <;> rfl
  exact ⟨ad, e, (World.cell?_of_block (hB.block _ (by rw [hb, h.blk ad e]; exact hp))).trans hc⟩
theorem InK.ownN {g B : Nat} {e : TypeId} {size n c : Nat} {A : Option Addr} {xs : List Value} {w w' : World} (h : InK g w w') (ho : w.ownsRow B e size (.slice A n c) n xs) (hg : ∀ ad, A = some ad → ad.block ≠ g) : w'.ownsRow B e size (.slice A n c) n xs := by
  refine ⟨ho.1, ?_⟩; rcases ho.2 with h2 | ⟨b, cap, cur, e1, h1, h2, h3⟩
  · exact .inl h2
  · refine .inr ⟨b, cap, cur, e1, h1, ?_, h3⟩; injection e1 with e1
    rw [h.other b (Array.getElem?_eq_some_iff.1 h2).1 (hg _ e1)]; exact h2
def RdU (c : CtxM) (T : List UInt8) (g2 g4 p4 g5 : Nat) (w : World) (i : Value) (wr : World) : Prop := ∃ (k : Nat) (A : Option Addr) (cA : Nat) (W : List Nat), k ≤ 16 ∧ i = .int .i64 (k : Int) ∧ InIs wr g4 p4 A cA ((c.upto.drop k).flatMap (hiB 8) ++ T) ∧ W.length = 16 ∧ (∀ t, t < 16 → W.getD t 0 = if t < k then c.upto.getD t 0 else 0) ∧ Arr wr g5 42 (ctxC ⟨W, []⟩ none 0 0) ∧ Arr wr g2 42 (ctxC ctx0 none 0 0) ∧ Gr w wr
def RdM (c : CtxM) (m g2 g4 p4 g5 B2 : Nat) (w : World) (i : Value) (wr : World) : Prop := ∃ (k : Nat) (A : Option Addr) (cA : Nat) (M : Option Addr) (cM : Nat), k ≤ m ∧ i = .int .i64 (k : Int) ∧ InIs wr g4 p4 A cA ((c.more.drop k).flatMap encDt) ∧ Arr wr g5 42 (ctxC ⟨c.upto, []⟩ M k cM) ∧ OwnD wr B2 M k cM (c.more.take k) ∧ Arr wr g2 42 (ctxC ctx0 none 0 0) ∧ Gr w wr ∧ B2 ≤ wr.heap.size
theorem getD_ext {l m : List Nat} {n : Nat} (hl : l.length = n) (hm : m.length = n) (h : ∀ t, t < n → l.getD t 0 = m.getD t 0) : l = m := by
  apply List.ext_getElem (by omega)
  intro i h1 h2; have := h i (by omega); rw [List.getD_eq_getElem?_getD, List.getD_eq_getElem?_getD, List.getElem?_eq_getElem h1, List.getElem?_eq_getElem h2] at this; exact this
set_option maxRecDepth 100000 in
set_option maxHeartbeats 8000000 in
theorem dread_any {c : CtxM} {X : Option Addr} {n cX : Nat} {w : World} (hc : OkC c) (hX : Rd w X n (u8s (encCtx c))) (hX0 : X = none → cX = 0) :
    Calls Tryz.prog 84 #[.slice X n cX] w fun e w' => CtxQ (fun c' => c' = c) w e w' := by
  obtain ⟨iD, zD, hiD, hz0, hz1, hz2, hz3⟩ := infoDt_parts; have hnl : (encCtx c).length = n := by simpa using hX.1
  have hlen := encCtx_len hc; have hfew := hc.few; have HOf := Lib.hid (fun w1 (h : Gr w w1) => of_any (h.rd hX) (by omega) (by omega) hnl hX0); have HOk := Lib.hid hc; have hl16 := hc.len; clear hX hX0 hc hnl
  go_enter Tryz.func84, Tryz.ntmps84
  go_upto_region 1 with fail
  change Code.wp _ _ _ _ (w.alloc (.cells (ctxC ctx0 none 0 0).toArray 42)); have hA2 : Arr (w.alloc (.cells (ctxC ctx0 none 0 0).toArray 42)) w.heap.size 42 (ctxC ctx0 none 0 0) := Arr.newAt rfl rfl; have hG0 : Gr w (w.alloc (.cells (ctxC ctx0 none 0 0).toArray 42)) := Gr.alloc _ _; generalize w.alloc (.cells (ctxC ctx0 none 0 0).toArray 42) = w0 at hA2 hG0 ⊢; obtain ⟨g2, hg2⟩ : ∃ g, g = w.heap.size := ⟨_, rfl⟩; rw [← hg2] at hA2 ⊢; have HG2 := Lib.hid hg2; clear hg2; have hl2 := hA2.lt; have hsw0 := hG0.size
  go_upto_region 3 with (go_at_call 36; refine (HOf.out w0 hG0).mono ?_; rintro e w1 ⟨g4, p4, A4, c4, rfl, hg4a, hg4b, hp4a, hp4b, hI4, hG1⟩; have HI4 := Lib.hid hI4; clear hI4)
  change Code.wp _ _ _ _ (w1.alloc (.cells (ctxC ctx0 none 0 0).toArray 42)); have hA5 : Arr (w1.alloc (.cells (ctxC ctx0 none 0 0).toArray 42)) w1.heap.size 42 (ctxC ctx0 none 0 0) := Arr.newAt rfl rfl; have hG5 : Gr w1 (w1.alloc (.cells (ctxC ctx0 none 0 0).toArray 42)) := Gr.alloc _ _
  replace hA2 := hA2.gr (hG1.trans hG5)
  replace hG0 := hG0.trans (hG1.trans hG5)
  have HI5 := Lib.hid (HI4.out.gr hG5); have hs01 := hG1.size; have hne25 : g2 ≠ w1.heap.size := by omega
  have hne24 : g2 ≠ g4 := by omega
  have hne45 : w1.heap.size ≠ g4 := by omega
  have hg4w : w.heap.size ≤ g4 := by omega
  have hne54 : p4 ≠ w1.heap.size := by omega
  have hne24p : p4 ≠ g2 := by omega
  have hg5w : w.heap.size ≤ w1.heap.size := by omega
  generalize w1.alloc (.cells (ctxC ctx0 none 0 0).toArray 42) = w2 at hA2 hA5 hG0 HI5 ⊢; generalize w1.heap.size = g5 at hA5 hne25 hne45 hne54 hg5w ⊢; clear hG1 hG5 hl2 hsw0 hs01 HI4 HOf hg4a hg4b hp4a; go_wp2_with fail
  go_simp; obtain ⟨T, hT⟩ : ∃ T, T = hiB 1 c.more.length ++ c.more.flatMap encDt := ⟨_, rfl⟩; have hTl : T.length ≤ 600 := by rw [hT, List.length_append, hiB_length, flatB_len encDt_len]; omega
  have HE : Hid (encCtx c = (c.upto.drop 0).flatMap (hiB 8) ++ T) := Lib.hid (by rw [hT]; rfl); have HT := Lib.hid hT; clear hT
  go_loopw [10] (fun i wr => RdU c T g2 g4 p4 g5 w i wr) (fun i _ => 16 - (intOf i).toNat)
  case atStart => exact ⟨0, A4, c4, List.replicate 16 0, by omega, rfl, by rw [← HE.out]; exact HI5.out, rfl, fun t ht => by
    rw [if_neg (by omega), List.getD_eq_getElem?_getD, List.getElem?_replicate]; split <;> rfl, hA5, hA2, hG0⟩
  case round =>
    clear hA2 hA5 hG0; obtain ⟨k, A, cA, W, hk, rfl, hI, hWl, hW, hA5, hA2, hG⟩ := hrel; have HI := Lib.hid hI; have HW := Lib.hid hW; have HWl := Lib.hid hWl; clear hI hW
    by_cases hlt : k < 16
    · have hki : (k : Int) < 16 := by omega
      obtain ⟨u, hu⟩ : ∃ u, u = c.upto.getD k 0 := ⟨_, rfl⟩
      have hk2 : c.upto[k]? = some u := by
        rw [hu, List.getD_eq_getElem?_getD, List.getElem?_eq_getElem (by omega)]; rfl
      have hu1 : u ≤ 1099511627776 := HOk.out.small u (List.mem_of_getElem? hk2)
      have hdr : c.upto.drop k = u :: c.upto.drop (k + 1) := by
        have hkl : k < c.upto.length := by omega
        rw [List.drop_eq_getElem_cons hkl]; congr 1
        rw [List.getElem?_eq_getElem hkl] at hk2; exact Option.some.inj hk2
      have hrest : (c.upto.drop k).flatMap (hiB 8) ++ T = hiB 8 u ++ ((c.upto.drop (k + 1)).flatMap (hiB 8) ++ T) := by rw [hdr, List.flatMap_cons, List.append_assoc]
      have hI2 := HI.out; rw [hrest] at hI2
      have HN := Lib.hid (inum_any (most := 1099511627776) hI2 hu1 (by omega) (by
        rw [List.length_append, flatB_len (fun x => hiB_length 8 x), List.length_drop]; omega))
      have hl17 : (ctxC ⟨W, []⟩ none 0 0).length = 17 := ctxC_length (c := ⟨W, []⟩) hWl none 0 0; have HSet : Hid ((ctxC ⟨W, []⟩ none 0 0).set k (.int .i64 (u : Int)) = ctxC ⟨W.set k u, []⟩ none 0 0) := Lib.hid (ctxC_setUp (c := ⟨W, []⟩) hWl none 0 0 u (k := k + 1) ⟨by omega, by omega⟩)
      have HW2 : Hid ((W.set k u).length = 16 ∧ ∀ t, t < 16 → (W.set k u).getD t 0 = if t < k + 1 then c.upto.getD t 0 else 0) := Lib.hid ⟨by rw [List.length_set]; exact HWl.out, fun t ht => by
        rw [getD_set (by rw [HWl.out]; exact hlt), HW.out t ht]
        by_cases e : t = k
        · rw [e, if_pos rfl, if_pos (by omega), hu]
        · rw [if_neg e]
          by_cases e2 : t < k
          · rw [if_pos e2, if_pos (by omega)]
          · rw [if_neg e2, if_neg (by omega)]⟩
      clear hu hk2 hdr hrest hI2 hWl
      go_wp2_with first
        | (go_at_call 83; refine HN.out.mono ?_; rintro e w3 ⟨A3, c3, rfl, hI3, hK3⟩; have HI3 := Lib.hid hI3; have hA53 := hK3.arr hA5 hne45; have hA23 := hK3.arr hA2 hne24; have hG3 := hK3.gr_after hG hg4w; clear hI3)
        | (refine wpList_setI hA53 rfl 3 (.tmp 17) (.tmp 15) rfl (by kernel_rfl) k .i64 (u : Int) rfl rfl (by omega) ?_; intro w9 hA9 hK9; rw [HSet.out] at hA9)
      have hI9 : InIs w9 g4 p4 A3 c3 ((c.upto.drop (k + 1)).flatMap (hiB 8) ++ T) := HI3.out.keep hK9 (fun e => hne45 e.symm) hne54; exact ⟨⟨k + 1, A3, c3, W.set k u, hlt, by go_num, hI9, HW2.out.1, HW2.out.2, hA9, hK9.arr hA23 hne25, hK9.gr_after hG3 hg5w⟩, by simp [intOf]; omega⟩
    · have hki : ¬ (k : Int) < 16 := by omega
      have hWe : W = c.upto := getD_ext HWl.out hl16 (fun t ht => by rw [HW.out t ht, if_pos (by omega)]); subst hWe; have hrest : (c.upto.drop k).flatMap (hiB 8) ++ T = hiB 1 c.more.length ++ c.more.flatMap encDt := by rw [List.drop_of_length_le (by omega), HT.out]; rfl
      rw [hrest] at HI; have HSm := Lib.hid (ismall_any (most := 32) HI.out hfew (by omega) (by rw [flatB_len encDt_len]; omega)); have HOk2 := HOk; obtain ⟨m, hm⟩ : ∃ m, m = c.more.length := ⟨_, rfl⟩; rw [← hm] at HSm; have HMl := Lib.hid hm; have hm32 : m ≤ 32 := by omega
      clear hrest HI HW HWl hlt hk hm
      go_upto_region 9 with (go_at_call 37; refine HSm.out.mono ?_; rintro e w3 ⟨A3, c3, rfl, hI3, hK3⟩; have HI3 := Lib.hid hI3; have hA53 := hK3.arr hA5 hne45; have hA23 := hK3.arr hA2 hne24; have hG3 := hK3.gr_after hG hg4w; clear hI3)
      obtain ⟨B2, hB2⟩ : ∃ B, B = w3.heap.size := ⟨_, rfl⟩; have hg5B : g5 < B2 := by rw [hB2]; exact hA53.lt
      have hg2B : g2 < B2 := by rw [hB2]; exact hA23.lt
      have hg4B : g4 < B2 := by rw [hB2]; exact HI3.out.arr.lt
      have hp4B : p4 < B2 := by omega
      have hwB : w.heap.size ≤ B2 := by rw [hB2]; exact hG3.size
      have hB3 : B2 ≤ w3.heap.size := Nat.le_of_eq hB2; clear hB2 hA5 hA2 hG hK3 HSm
      go_loopw [21] (fun i wr => RdM c m g2 g4 p4 g5 B2 w i wr) (fun i _ => m - (intOf i).toNat)
      case atStart => exact ⟨0, A3, c3, none, 0, Nat.zero_le _, rfl, HI3.out, hA53, OwnD.nil _ _, hA23, hG3, hB3⟩
      case round =>
        clear hA53 hA23 hG3 hB3; obtain ⟨k, A, cA, M, cM, hk, rfl, hI, hA5, hown, hA2, hG, hBs⟩ := hrel; have HI := Lib.hid hI; have HOwn := Lib.hid hown; clear hI hown
        by_cases hlt : k < m
        · have hki : (k : Int) < (m : Int) := by omega
          obtain ⟨d, hd⟩ : ∃ d, c.more[k]? = some d := ⟨_, List.getElem?_eq_getElem (by rw [← HMl.out]; exact hlt)⟩; have hdr := (HOk.out.right d (List.mem_of_getElem? hd)).1
          have hdrop : c.more.drop k = d :: c.more.drop (k + 1) := by
            have hkl : k < c.more.length := by rw [← HMl.out]; exact hlt
            rw [List.drop_eq_getElem_cons hkl]; congr 1
            rw [List.getElem?_eq_getElem hkl] at hd; exact Option.some.inj hd
          have hrest : (c.more.drop k).flatMap encDt = hiB 8 d.1 ++ (hiB 8 d.2 ++ (c.more.drop (k + 1)).flatMap encDt) := by rw [hdrop, List.flatMap_cons, encDt, List.append_assoc]
          have hrl : ((c.more.drop (k + 1)).flatMap encDt).length ≤ 600 := by rw [flatB_len encDt_len, List.length_drop, ← HMl.out]; omega
          have hI2 := HI.out; rw [hrest] at hI2; have HN1 := Lib.hid (inum_any (most := 1099511627776) hI2 (by have := hdr.2.1; omega) (by omega) (by rw [List.length_append, hiB_length]; omega)); have HN2 : Hid (∀ (w4 : World) (A4 : Option Addr) (c4 : Nat), InIs w4 g4 p4 A4 c4 (hiB 8 d.2 ++ (c.more.drop (k + 1)).flatMap encDt) → Calls Tryz.prog 83 #[.pointer (some ⟨g4, 0, none⟩), .int .i64 ((1099511627776 : Nat) : Int)] w4 fun e w' => ∃ A' c', e = .returned (.int .i64 (d.2 : Int)) ∧ InIs w' g4 p4 A' c' ((c.more.drop (k + 1)).flatMap encDt) ∧ InK g4 w4 w') := Lib.hid (fun w4 A4 c4 h => inum_any (most := 1099511627776) h hdr.2.2.2 (by omega) (by omega)); have HTk : Hid (c.more.take (k + 1) = c.more.take k ++ [d]) := Lib.hid (take_snoc_ c.more k d hd); clear hd hdr hdrop hrest hI2 HI; have mk1 : True := trivial
          go_upto_region 11 with first
            | (go_at_call 83; refine HN1.out.mono ?_; rintro e w4 ⟨A4, c4, rfl, hI4, hK4⟩; have HI4 := Lib.hid hI4; have hA54 := hK4.arr hA5 hne45; have hA24 := hK4.arr hA2 hne24; have hG4 := hK4.gr_after hG hg4w; have hO4 := hK4.own HOwn.out hg4B; have hs4 := Nat.le_trans hBs hK4.size; clear hI4)
            | (refine wpList_new (w := w4) (t := 38) rfl _ _ _ rfl w4.heap.size (encD (d.1, 0)) rfl rfl rfl rfl (infoDot _) (encD_one _) ?_; intro w5 hA7 hG5)
          obtain ⟨g7, hg7⟩ : ∃ g, g = w4.heap.size := ⟨_, rfl⟩; rw [← hg7] at hA7; simp only [← hg7]; have hg7B : B2 ≤ g7 := by omega
          have hlt7 : ∀ ad, M = some ad → ad.block < g7 := by rw [hg7]; exact own_lt hO4
          have HI5 := Lib.hid (HI4.out.gr hG5); have hA55 := hA54.gr hG5; have hA25 := hA24.gr hG5; have hG05 := hG4.trans hG5; have HO5 := Lib.hid (Gr.own hG5 hO4); have hs5 := Nat.le_trans hs4 hG5.size; have hlA := hA7.lt; clear hg7 HI4 hA54 hA24 hG4 hO4 hs4 hK4 hA5 hA2 hG HOwn hBs hG5 mk1 HN1
          go_upto_region 12 with first
            | (go_at_call 83; refine (HN2.out w5 A4 c4 HI5.out).mono ?_; rintro e w6 ⟨A6, c6, rfl, hI6, hK6⟩; have HI6 := Lib.hid hI6; have hA76 := hK6.arr hA7 (by omega); have hA56 := hK6.arr hA55 hne45; have hA26 := hK6.arr hA25 hne24; have hG6 := hK6.gr_after hG05 hg4w; have HO6 := Lib.hid (hK6.own HO5.out hg4B); have hs6 := Nat.le_trans hs5 hK6.size; clear hI6)
            | (refine wpList_setI hA76 rfl 3 (.tmp 28) (.tmp 27) rfl (by kernel_rfl) 1 .i64 (d.2 : Int) rfl rfl (by simp [encD]) ?_; intro w8 hA8 hK8)
          have hA8' : Arr w8 g7 38 (encD d) := hA8; have hA58 := hK8.arr hA56 (by omega); have hA28 := hK8.arr hA26 (by omega); have HI8 := Lib.hid (HI6.out.keep hK8 (by omega) (by omega)); have hG8 := hK8.gr_after hG6 (by omega); have hO8 : OwnD w8 B2 M k cM (c.more.take k) := hK8.ownN HO6.out (fun ad e => by have := hlt7 ad e; omega); have hs8 := Nat.le_trans hs6 hK8.size; have hl17 : (ctxC ⟨c.upto, []⟩ M k cM).length = 17 := ctxC_length (c := ⟨c.upto, []⟩) hl16 M k cM; have hc16 := hA58.cell (ctxC_more (c := ⟨c.upto, []⟩) hl16 M k cM); have HSet : Hid (∀ M' q', (ctxC ⟨c.upto, []⟩ M k cM).set 16 (.slice M' (k + 1) q') = ctxC ⟨c.upto, []⟩ M' (k + 1) q') := Lib.hid (fun M' q' => ctxC_setMore (c := ⟨c.upto, []⟩) hl16 M M' k cM (k + 1) q' []); have HO8 := Lib.hid hO8; clear hA8 hA56 hA26 HI6 hG6 HO6 hs6 hK8 hA76 hA7 HI5 hA55 hA25 hG05 HO5 hs5 hO8 HN2 hlt7; have HO9 : Hid (OwnD (w8.alloc (.cells (encD d).toArray 38)) B2 M k cM (c.more.take k)) := Lib.hid (OwnD.gr HO8.out (Gr.alloc _ _)); have hA59 := hA58.gr (Gr.alloc w8 (.cells (encD d).toArray 38)); have hA29 := hA28.gr (Gr.alloc w8 (.cells (encD d).toArray 38)); have HI9 := Lib.hid (HI8.out.gr (Gr.alloc w8 (.cells (encD d).toArray 38))); have hG9 := hG8.trans (Gr.alloc w8 (.cells (encD d).toArray 38)); have hs9 : B2 ≤ (w8.alloc (.cells (encD d).toArray 38)).heap.size := Nat.le_trans hs8 (Gr.alloc w8 (.cells (encD d).toArray 38)).size; have HC9 : Hid (CellsR (w8.alloc (.cells (encD d).toArray 38)) (some ⟨w8.heap.size, 0, none⟩) (encD d)) := Lib.hid (fun j u h => ⟨_, rfl, newCells w8 _ _ j u h⟩)
          go_wp2_with first
            | (refine wpList_load_mid rfl _ _ rfl g7 0 rfl (encD d) _ (Arr.range hA8') Tryz.underlying38 rfl (infoDot d) ?_)
            | (refine wpList_valW rfl (.slice (some ⟨w8.heap.size, 0, none⟩) 1 1) _ (run_buildD (x := .tmp 31) rfl) ?_)
            | (at_builtin; go_must (refine wpList_appK _ rfl (.tmp 30) (.tmp 32) 40 rfl B2 38 iD zD 2 16 Tryz.underlying40 hiD hz0 hz1 hz2 hz3 (by omega) (.slice M k cM) k _ rfl HO9.out (some ⟨w8.heap.size, 0, none⟩) 1 1 (encD d) rfl rfl HC9.out (encD_one d) (by omega) (by unfold maxLen; omega) hs9 ?_; intro v6 w10 ho10 hB10; obtain ⟨M6, q6, rfl⟩ := own_slice ho10; have HO10 := Lib.hid ho10; have hA510 := hA59.below hB10 hg5B; have hA210 := hA29.below hB10 hg2B; have HI10 := Lib.hid (HI9.out.below hB10 hg4B hp4B); have hG10 := Below.trans hG9 (hB10.mono hwB); have hs10 := Nat.le_trans hs9 hB10.size; clear ho10))
            | (refine wpList_setSl hA510 rfl 40 (.tmp 34) (.tmp 33) rfl (by kernel_rfl) 16 rfl rfl (by rw [hl17]; omega) ?_; intro w11 hw11 hA11; rw [HSet.out] at hA11; have hK11 : InK g5 w10 w11 := (by rw [hw11]; exact InK.set _ _); clear hw11)
          have HO11 := hK11.own HO10.out hg5B
          exact ⟨⟨k + 1, A6, c6, M6, q6, hlt, by go_num, HI10.out.keep hK11 (fun e => hne45 e.symm) hne54, hA11, by
            unfold OwnD; rw [HTk.out, flatD_snoc]; exact HO11, hK11.arr hA210 hne25, hK11.gr_after hG10 hg5w, Nat.le_trans hs10 hK11.size⟩, by simp [intOf]; omega⟩
        · have hki : ¬ (k : Int) < (m : Int) := by omega
          have hkm : k = m := by omega
          have hdr0 : (c.more.drop k).flatMap encDt = [] := by rw [List.drop_of_length_le (by rw [← HMl.out]; omega)]; rfl
          rw [hdr0] at HI; have hkl : k = c.more.length := by rw [hkm]; exact HMl.out
          have hO9 : OwnD wr B2 M c.more.length cM c.more := by
            have := HOwn.out; rw [List.take_of_length_le (by omega)] at this
            rwa [hkl] at this
          have hA59 : Arr wr g5 42 (ctxC c M c.more.length cM) := by
            have := hA5; rw [hkl] at this; exact this
          have HEnd := Lib.hid (iend_any HI.out); have HCh := Lib.hid (check_any (cM := cM) HOk.out hO9.dots); have HIc := Lib.hid (infoCtx hl16 M c.more.length cM); have hl17 := ctxC_length hl16 M c.more.length cM; have hc1 := ctxC_one c M c.more.length cM; have HO9 := Lib.hid hO9; have hg2w : w.heap.size ≤ g2 := Nat.le_of_eq HG2.out.symm; clear HI HOwn hA5 hlt hk hkm hkl hdr0 hO9; have mk1 : True := trivial
          go_wp2_with first
            | (go_at_call 41; refine HEnd.out.mono ?_; rintro e w8 ⟨rfl, rfl⟩)
            | (go_at_call 121; refine HCh.out.mono ?_; rintro e w8 ⟨rfl, hG8⟩; have hA58 := hA59.gr hG8; have hA28 := hA2.gr hG8; have HO8 := Lib.hid (OwnD.gr HO9.out hG8); have hGe := hG.trans hG8)
            | (clear mk1; refine wpList_loadT rfl 42 (.tmp 5) rfl g5 0 (by kernel_rfl) (ctxC c M c.more.length cM) (Arr.range hA59) Tryz.underlying42 rfl HIc.out ?_)
            | (refine wpList_load_mid rfl _ _ rfl g5 0 rfl (ctxC c M c.more.length cM) _ (Arr.range hA58) Tryz.underlying42 rfl HIc.out ?_)
            | (refine wpList_put hA28 rfl _ _ _ rfl (ctxC c M c.more.length cM) rfl rfl (by rw [hl17]; rfl) HIc.out hc1 ?_; intro w9 hA9 hB9 hoth)
          refine bodyPost_ret (results_cell_tmp rfl _ _ g2 _ _ _ _ rfl hA9 Tryz.underlying42 rfl (by have := HIc.out; simpa using this)) rfl ?_; exact ⟨c, M, c.more.length, cM, rfl, rfl, own_keepT (own_base2 HO8.out hwB) hA28 (by decide) hoth, Below.trans hGe (hB9.mono hg2w)⟩
end Go.Proofs.YtjpphldojbfpfaaGreatDoor
