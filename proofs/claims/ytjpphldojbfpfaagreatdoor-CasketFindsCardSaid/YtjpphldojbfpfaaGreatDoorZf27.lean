/- Texts of one proof, laid as one: part 27. No condition. -/
import Derived.Test.YtjpphldojbfpfaaGreatDoorZf12
import Derived.Test.YtjpphldojbfpfaaGreatDoorZf26
namespace Go.Proofs.YtjpphldojbfpfaaGreatDoor
open Go.RowKit
def encSib (x : SibV) : List UInt8 := ((hiB 8 x.d.1 ++ hiB 8 x.d.2) ++ outBs (encCtx x.c)) ++ outBs x.body
def encSibs (L : List SibV) : List UInt8 := hiB 1 L.length ++ L.flatMap encSib
theorem outBs_len (l : List UInt8) : (outBs l).length = 4 + l.length := by rw [outBs, List.length_append, hiB_length]
theorem encSib_len {x : SibV} (h : OkC x.c) (hb : x.body.length ≤ 16384) : (encSib x).length ≤ 17100 := by
  rw [encSib, List.length_append, List.length_append, List.length_append, hiB_length, hiB_length, outBs_len, outBs_len, encCtx_len h]; have := h.few; omega
theorem encSibs_len {L : List SibV} (h : ∀ x ∈ L, OkC x.c ∧ x.body.length ≤ 16384) : (L.flatMap encSib).length ≤ L.length * 17100 := by
  induction L with
  | nil => simp
  | cons x L ih =>
    have h1 := encSib_len (h x List.mem_cons_self).1 (h x List.mem_cons_self).2; have h2 := ih fun y hy => h y (List.mem_cons_of_mem _ hy); rw [List.flatMap_cons, List.length_append, List.length_cons]; omega
def SWrR (L : List SibV) (P : List UInt8) (n g : Nat) (w1 : World) (i : Value) (wr : World) : Prop := ∃ (k : Nat) (A : Option Addr) (c : Nat), k ≤ n ∧ i = .int .i64 (k : Int) ∧ OutIs wr w1.heap.size g A c (P ++ (L.take k).flatMap encSib) ∧ Gr w1 wr
theorem sib_at19 {x : SibV} (h : x.c.upto.length = 16) : (sibC x)[19]? = some (.slice x.Y x.body.length x.cY) := by
  unfold sibC; rw [List.getElem?_append_right (by rw [encD_length]; omega), encD_length, List.getElem?_append_right (by rw [ctxC_length h]; omega), ctxC_length h]; rfl
theorem rd_out {B m : Nat} {S : Nat → Prop} {X : Option Addr} {xs : List Value} {w w' : World} (hG : OutG B S w w') (hS : ∀ ad, X = some ad → S ad.block) (hr : Rd w X m xs) : Rd w' X m xs := by
  refine ⟨hr.1, fun j u hj => ?_⟩; obtain ⟨ad, e, hc⟩ := hr.2 j u hj; have hb : (ad.add j).block = ad.block := by unfold Addr.add; split <;> rfl
  have hlt : ad.block < w.heap.size := by
    rcases Nat.lt_or_ge ad.block w.heap.size with h' | h'
    · exact h'
    · simp [World.cell?, hb, Array.getElem?_eq_none h'] at hc
  exact ⟨ad, e, (World.cell?_of_block (by rw [hb]; exact hG.stand _ (hS ad e) hlt)).trans hc⟩
theorem own_far6 {w : World} {B q c : Nat} {e : TypeId} {size : Nat} {A : Option Addr} {xs : List Value} (h : w.ownsRow B e size (.slice A q c) q xs) : ∀ ad, A = some ad → B ≤ ad.block := by
  intro ad e1; rcases h.2 with ⟨e2, _⟩ | ⟨g, cap, cur, e2, h1, _⟩
  · injection e2 with e2
    rw [e1] at e2; cases e2
  · injection e2 with e2
    rw [e1] at e2; injection e2 with e2
    subst e2; exact h1
set_option maxRecDepth 100000 in
set_option maxHeartbeats 8000000 in
theorem swrite_any {L : List SibV} {A : Option Addr} {n c : Nat} {w : World} (hL : SibsR w A n L) (hg : GoodL L) (hn : n ≤ 32) :
    Calls Tryz.prog 46 #[.slice A n c] w fun e w' => DoneQ (encSibs L) w e w' := by
  have HL := Lib.hid hL; have HLen := Lib.hid hL.1; have HC := Lib.hid (fun w1 (h : Gr w w1) => scheck_any (c := c) (hL.gr h) hg); have HOk : Hid (∀ x ∈ L, OkC x.c ∧ x.body.length ≤ 16384) := Lib.hid (fun x hx => ⟨(hL.ok x hx).ctx, (hL.ok x hx).small⟩); clear hL hg
  go_enter Tryz.func46, Tryz.ntmps46
  go_upto_region 4 with (go_at_call 59; refine (HC.out w (Gr.refl _)).mono ?_; rintro e w1 ⟨rfl, hG1⟩)
  have hA5 : Arr (w1.alloc (.cells #[.slice none 0 0, .bool false] 178)) w1.heap.size 178 [.slice none 0 0, .bool false] := Arr.newAt rfl rfl; have hG5 : Gr w1 (w1.alloc (.cells #[.slice none 0 0, .bool false] 178)) := Gr.alloc _ _; have HO5 : Hid (OutIs (w1.alloc (.cells #[.slice none 0 0, .bool false] 178)) w1.heap.size w1.heap.size none 0 []) := Lib.hid ⟨hA5, World.ownsRow_nil _ _ _ _, Nat.le_refl _⟩; have hG15 := hG5; have HSm := Lib.hid (small_any (x := n) HO5.out hG5.size (by omega) (by simp)); obtain ⟨g5, hg5⟩ : ∃ g, g = w1.heap.size := ⟨_, rfl⟩; have HSm2 : Hid (Calls Tryz.prog 96 #[.pointer (some ⟨g5, 0, none⟩), .int .i64 (n : Int)] (w1.alloc (.cells #[.slice none 0 0, .bool false] 178)) fun e w' => PutQ w1.heap.size g5 none ([] ++ hiB 1 n) (w1.alloc (.cells #[.slice none 0 0, .bool false] 178)) e w') := by rw [hg5]; exact HSm
  have HG5 := Lib.hid hg5; clear HSm HO5 hA5 hG5 hg5; go_wp2_with fail
  rw [← HG5.out]; refine HSm2.out.mono ?_; rintro e w3 ⟨A3, c3, rfl, hO3, hK3⟩; have hG3 : Gr w1 w3 := Below.trans hG15 hK3.below; obtain ⟨PP, hPP⟩ : ∃ P, P = [] ++ hiB 1 n := ⟨_, rfl⟩; rw [← hPP] at hO3; have hPl : PP.length = 1 := by rw [hPP, List.nil_append, hiB_length]
  have HPP := Lib.hid hPP; have HO3 := Lib.hid hO3; clear HSm2 hPP hO3 hG15 hK3; generalize w1.alloc (.cells #[.slice none 0 0, .bool false] 178) = w2; go_wp2_with fail
  go_simp
  go_loopw [22] (fun i wr => SWrR L PP n g5 w1 i wr) (fun i _ => n - (intOf i).toNat)
  case atStart => exact ⟨0, A3, c3, Nat.zero_le _, rfl, by simpa using HO3.out, hG3⟩
  case round =>
    clear hG3; obtain ⟨k, Ao, co, hk, rfl, hO, hG⟩ := hrel; have HO := Lib.hid hO; have hs : w1.heap.size ≤ wr.heap.size := hG.size; clear hO
    by_cases hlt : k < n
    · have hki : (k : Int) < (n : Int) := by omega
      have hGw := hG1.trans hG; obtain ⟨x, hx⟩ : ∃ x, L[k]? = some x := ⟨_, List.getElem?_eq_getElem (by rw [HLen.out]; exact hlt)⟩; obtain ⟨⟨bA, oA, rfl, hr⟩, hsx⟩ := (HL.out.gr hGw).2 k x hx; have HTk : Hid (L.take (k + 1) = L.take k ++ [x]) := Lib.hid (take_snoc_ L k x hx); have HI := Lib.hid (infoSib hsx.ctx.len); have HIc := Lib.hid (infoCtx hsx.ctx.len x.M x.c.more.length x.cM); have hone := sibC_one x; have hx20 := sibC_length hsx.ctx.len; have HSx := Lib.hid (HL.out.ok x (List.mem_of_getElem? hx))
      have hLl : (PP ++ (L.take k).flatMap encSib).length ≤ 600000 := by
        have h1 := encSibs_len (L := L.take k) (fun y hy => HOk.out y (List.mem_of_mem_take hy)); rw [List.length_take] at h1; rw [List.length_append, hPl]; have h2 : min k L.length * 17100 ≤ 32 * 17100 := Nat.mul_le_mul_right _ (by omega); omega
      have hd1 : x.d.1 < 9223372036854775808 := by have := hsx.right.2.1; omega
      have hd2 : x.d.2 < 9223372036854775808 := by have := hsx.right.2.2.2; omega
      clear hx hsx
      go_upto_region 8 with first
        | (refine wpList_load_mid rfl _ _ rfl bA (oA + k * 20) rfl (sibC x) _ hr Tryz.underlying45 rfl HI.out ?_)
        | (refine wpList_new (w := wr) (t := 45) rfl _ _ _ rfl wr.heap.size (sibC x) rfl rfl rfl (by rw [hx20]; rfl) HI.out hone ?_; intro w8 hA8 hG8)
      have hGw8 := hGw.trans hG8; have HDw := Lib.hid (dwrite_any (cM := x.cM) HSx.out.ctx (HSx.out.dots.gr hGw8)); have hO8 := HO.out.gr hG8; have hlt8 := own_lt HO.out.own; have hg58 := HO.out.arr.lt; obtain ⟨g7, hg7⟩ : ∃ g, g = wr.heap.size := ⟨_, rfl⟩; rw [← hg7] at hA8 hlt8 hg58; simp only [← hg7]; have hS8 : SibAt w8 g7 0 x := SibAt.of HSx.out.ctx.len (Arr.range hA8); have hs8 : w1.heap.size ≤ w8.heap.size := Nat.le_trans hs hG8.size; have hG18 : Gr w1 w8 := hG.trans hG8; have hr2 : w8.rangeAt g7 2 (ctxC x.c x.M x.c.more.length x.cM) := hS8.ctx; have HO8 := Lib.hid hO8; clear hg7 hr hG8 hone HO hs hG hS8 hO8
      go_upto_region 11 with first
        | (refine wpList_load_mid rfl _ _ rfl g7 2 rfl (ctxC x.c x.M x.c.more.length x.cM) _ hr2 Tryz.underlying42 rfl HIc.out ?_)
        | (go_at_call 97; refine HDw.out.mono ?_; rintro e w9 ⟨A9, c9, rfl, hO9, hn9, hG9⟩; have HP9 := Lib.hid hO9; clear hO9)
      have hEl := encCtx_len HSx.out.ctx; have hEf := HSx.out.ctx.few; generalize hE : encCtx x.c = E at HP9 hEl; have HE := Lib.hid hE; clear hE HDw hr2; obtain ⟨LL, hLL⟩ : ∃ LL : Nat → List UInt8, LL = fun s => if s = 0 then PP ++ (L.take k).flatMap encSib else if s = 1 then (PP ++ (L.take k).flatMap encSib) ++ hiB 8 x.d.1 else if s = 2 then ((PP ++ (L.take k).flatMap encSib) ++ hiB 8 x.d.1) ++ hiB 8 x.d.2 else if s = 3 then (((PP ++ (L.take k).flatMap encSib) ++ hiB 8 x.d.1) ++ hiB 8 x.d.2) ++ outBs E else ((((PP ++ (L.take k).flatMap encSib) ++ hiB 8 x.d.1) ++ hiB 8 x.d.2) ++ outBs E) ++ outBs x.body := ⟨_, rfl⟩
      have hL1 : LL 0 ++ hiB 8 x.d.1 = LL (0 + 1) := by rw [hLL]; rfl
      have hL2 : LL 1 ++ hiB 8 x.d.2 = LL (1 + 1) := by rw [hLL]; rfl
      have hL3 : LL 2 ++ outBs E = LL (2 + 1) := by rw [hLL]; rfl
      have hL4 : LL 3 ++ outBs x.body = LL (3 + 1) := by rw [hLL]; rfl
      have hl0 : (LL 0).length ≤ 600000 := by rw [hLL]; simp only [if_true]; exact hLl
      have hl1 : (LL 1).length ≤ 600008 := by rw [← hL1, List.length_append, hiB_length]; omega
      have hl2 : (LL 2).length ≤ 600016 := by rw [← hL2, List.length_append, hiB_length]; omega
      have hl3 : (LL 3).length ≤ 601000 := by rw [← hL3, List.length_append, outBs_len]; omega
      have HLE : Hid (LL 4 = PP ++ (L.take (k + 1)).flatMap encSib) := Lib.hid (by
        rw [hLL, HTk.out, List.flatMap_append, List.flatMap_singleton, encSib, HE.out]; simp only [List.append_assoc]; rfl)
      have hS79 : g7 < w9.heap.size := (hA8.gr hG9).lt; obtain ⟨S, hS⟩ : ∃ S : Nat → Prop, S = fun b => b = g7 ∨ ∃ ad, A9 = some ad ∧ b = ad.block := ⟨_, rfl⟩; have hSg : S g7 := by rw [hS]; exact .inl rfl
      have hSp : ∀ ad, A9 = some ad → S ad.block := fun ad e => by rw [hS]; exact .inr ⟨ad, e, rfl⟩
      have HSt : Hid (OutSt w1.heap.size g5 LL S 0 w9.drew) := Lib.hid (OutSt.gr (by
        refine ⟨Nat.le_trans hs8 hG9.size, Ao, co, ?_, fun b hb => ?_⟩
        · have := HO8.out.gr hG9; rw [hLL]; simpa using this
        · rw [hS] at hb; have h8 := hA8.lt; rcases hb with rfl | ⟨ad, e, rfl⟩
          · exact ⟨hS79, by omega, fun ad e => by have := hlt8 ad e; omega⟩
          · have h1 := own_lt HP9.out ad e; have h2 := own_far6 HP9.out ad e; exact ⟨h1, by omega, fun ad2 e2 => by have := hlt8 ad2 e2; omega⟩) (Gr.drew w9))
      have HA9 : Hid (Arr w9.drew g7 45 (sibC x)) := Lib.hid ((hA8.gr hG9).gr (Gr.drew w9)); have HP9d : Hid (Rd w9.drew A9 E.length (u8s E)) := Lib.hid (Rd.of_own (Gr.own (Gr.drew w9) HP9.out)); have hG19 : Gr w1 w9 := hG18.trans hG9; have h19 : (sibC x)[19]? = some (.slice x.Y x.body.length x.cY) := sib_at19 HSx.out.ctx.len; clear hS hLL HO8 hA8 HP9 hlt8; refine wp_region_chain [4, 8, 10, 13] (OutSt w1.heap.size g5 LL S) (OutG w1.heap.size S) (fun _ _ _ => OutG.trans) (by kernel_rfl) [IsV (.pointer (some ⟨g5, 0, none⟩)), IsV (.pointer (some ⟨g7, 0, none⟩)), IsV (.pointer (some ⟨g7, 0, none⟩)), IsV (.int .i64 (x.d.1 : Int)), IsV (.pointer (some ⟨g5, 0, none⟩)), IsV (.pointer (some ⟨g7, 0, none⟩)), IsV (.pointer (some ⟨g7, 1, none⟩)), IsV (.int .i64 (x.d.2 : Int)), IsV (.pointer (some ⟨g5, 0, none⟩)), IsV (.slice A9 E.length c9), IsV (.pointer (some ⟨g5, 0, none⟩)), IsV (.pointer (some ⟨g7, 19, none⟩)), IsV (.slice x.Y x.body.length x.cY), IsV (.pointer (some ⟨g5, 0, none⟩))] (by kernel_rfl) (by decide) (by kernel_rfl) OutG.refl HSt.out ?_ ?_ ?_
      · intro φ hφ v w1 w2 h hg; simp only [List.mem_cons, List.not_mem_nil, or_false] at hφ; rcases hφ with rfl | rfl | rfl | rfl | rfl | rfl | rfl | rfl | rfl | rfl | rfl | rfl | rfl | rfl
        all_goals exact h
      · refine ⟨?_, ?_, ?_, ?_, ?_, ?_, ?_, ?_, ?_, ?_, ?_, ?_, ?_, ?_, trivial⟩
        · intro s a1 w3 hG hS _ hF; exact stepC_gr rfl (fun _ h => OutG.of_gr h hS.1) (fun _ h => hS.gr h) (s_old rfl (wants0 rfl) (.tmp 5) (.inr rfl) (.pointer (some ⟨g5, 0, none⟩)) (hF.ol 5 (by kernel_rfl)) rfl)
        · intro s a1 w3 hG hS _ hF; have e7 : a1.eval (.tmp 7) = .pointer (some ⟨g7, 0, none⟩) := hF.ol 7 (by kernel_rfl); exact stepC_gr rfl (fun _ h => OutG.of_gr h hS.1) (fun _ h => hS.gr h) (s_is rfl (wants0 rfl) _ rfl (run_fieldR (o := 0) (k := 1) Tryz.underlying45 rfl rfl (by kernel_rfl) e7))
        · intro s a1 w3 hG hS _ hF; obtain ⟨_, e36, rfl⟩ := hF.dp 1 36 (by kernel_rfl); exact stepC_gr rfl (fun _ h => OutG.of_gr h hS.1) (fun _ h => hS.gr h) (s_is rfl (wants0 rfl) _ rfl (run_fieldR (o := 0) (k := 0) Tryz.underlying38 rfl rfl (by kernel_rfl) e36))
        · intro s a1 w3 hG hS _ hF; obtain ⟨_, e37, rfl⟩ := hF.dp 2 37 (by kernel_rfl); have hA9 := hG.arr hSg HA9.out; exact stepC_gr rfl (fun _ h => OutG.of_gr h hS.1) (fun _ h => hS.gr h) (s_is rfl (wants0 rfl) _ rfl (run_load1 Tryz.underlying3 e37 (hA9.cell (i := 0) (v := .int .i64 (x.d.1 : Int)) rfl)))
        · intro s a1 w3 hG hS hw hF; have h0 := hw 0 rfl; subst h0; obtain ⟨hB, A2, c2, hO, hSb⟩ := hS; obtain ⟨_, e35, rfl⟩ := hF.dp 0 35 (by kernel_rfl); obtain ⟨_, e38, rfl⟩ := hF.dp 3 38 (by kernel_rfl); refine stepC_call rfl rfl rfl 98 #[.pointer (some ⟨g5, 0, none⟩), .int .i64 (x.d.1 : Int)] (by simp only [execOp, resolve, invoke, List.map_toArray, List.map_cons, List.map_nil, e35, e38]; go_simp) ((num_any hO hB hd1 (by omega)).mono fun e w4 hq => ?_); obtain ⟨he, hG4, hS4⟩ := OutSt.put hB hSb hL1 hq; exact ⟨_, he, rfl, hG4, hS4⟩
        · intro s a1 w3 hG hS _ hF; have e7 : a1.eval (.tmp 7) = .pointer (some ⟨g7, 0, none⟩) := hF.ol 7 (by kernel_rfl); exact stepC_gr rfl (fun _ h => OutG.of_gr h hS.1) (fun _ h => hS.gr h) (s_is rfl (wants0 rfl) _ rfl (run_fieldR (o := 0) (k := 1) Tryz.underlying45 rfl rfl (by kernel_rfl) e7))
        · intro s a1 w3 hG hS _ hF; obtain ⟨_, e40, rfl⟩ := hF.dp 5 40 (by kernel_rfl); exact stepC_gr rfl (fun _ h => OutG.of_gr h hS.1) (fun _ h => hS.gr h) (s_is rfl (wants0 rfl) _ rfl (run_fieldR (o := 1) (k := 0) Tryz.underlying38 rfl rfl (by kernel_rfl) e40))
        · intro s a1 w3 hG hS _ hF; obtain ⟨_, e41, rfl⟩ := hF.dp 6 41 (by kernel_rfl); have hA9 := hG.arr hSg HA9.out; exact stepC_gr rfl (fun _ h => OutG.of_gr h hS.1) (fun _ h => hS.gr h) (s_is rfl (wants0 rfl) _ rfl (run_load1 Tryz.underlying3 e41 (hA9.cell (i := 1) (v := .int .i64 (x.d.2 : Int)) rfl)))
        · intro s a1 w3 hG hS hw hF; have h0 := hw 1 rfl; subst h0; obtain ⟨hB, A2, c2, hO, hSb⟩ := hS; obtain ⟨_, e39, rfl⟩ := hF.dp 4 39 (by kernel_rfl); obtain ⟨_, e42, rfl⟩ := hF.dp 7 42 (by kernel_rfl); refine stepC_call rfl rfl rfl 98 #[.pointer (some ⟨g5, 0, none⟩), .int .i64 (x.d.2 : Int)] (by simp only [execOp, resolve, invoke, List.map_toArray, List.map_cons, List.map_nil, e39, e42]; go_simp) ((num_any hO hB hd2 (by omega)).mono fun e w4 hq => ?_); obtain ⟨he, hG4, hS4⟩ := OutSt.put hB hSb hL2 hq; exact ⟨_, he, rfl, hG4, hS4⟩
        · intro s a1 w3 hG hS _ hF; exact stepC_gr rfl (fun _ h => OutG.of_gr h hS.1) (fun _ h => hS.gr h) (s_old rfl (wants0 rfl) (.tmp 8) (.inr rfl) (.slice A9 E.length c9) (hF.ol 8 (by kernel_rfl)) rfl)
        · intro s a1 w3 hG hS hw hF; have h0 := hw 2 rfl; subst h0; obtain ⟨hB, A2, c2, hO, hSb⟩ := hS; obtain ⟨_, e43, rfl⟩ := hF.dp 8 43 (by kernel_rfl); obtain ⟨_, e44, rfl⟩ := hF.dp 9 44 (by kernel_rfl); refine stepC_call rfl rfl rfl 99 #[.pointer (some ⟨g5, 0, none⟩), .slice A9 E.length c9] (by simp only [execOp, resolve, invoke, List.map_toArray, List.map_cons, List.map_nil, e43, e44]; go_simp) ((bytes_any (M := E) hO hB (by omega) rfl (by omega) (rd_out hG hSp HP9d.out) (fun h0 ad e => hSb _ (hSp ad e))).mono fun e w4 hq => ?_); obtain ⟨he, hG4, hS4⟩ := OutSt.put hB hSb hL3 hq; exact ⟨_, he, rfl, hG4, hS4⟩
        · intro s a1 w3 hG hS _ hF; have e7 : a1.eval (.tmp 7) = .pointer (some ⟨g7, 0, none⟩) := hF.ol 7 (by kernel_rfl); exact stepC_gr rfl (fun _ h => OutG.of_gr h hS.1) (fun _ h => hS.gr h) (s_is rfl (wants0 rfl) _ rfl (run_fieldR (o := 19) (k := 0) Tryz.underlying45 rfl rfl (by kernel_rfl) e7))
        · intro s a1 w3 hG hS _ hF; obtain ⟨_, e46, rfl⟩ := hF.dp 11 46 (by kernel_rfl); have hA9 := hG.arr hSg HA9.out; exact stepC_gr rfl (fun _ h => OutG.of_gr h hS.1) (fun _ h => hS.gr h) (s_is rfl (wants0 rfl) _ rfl (run_load1B (.inr (.inr (.inr (.inl ⟨_, Tryz.underlying43⟩)))) e46 (hA9.cell (i := 19) h19)))
        · intro s a1 w3 hG hS hw hF; have h0 := hw 3 rfl; subst h0; obtain ⟨hB, A2, c2, hO, hSb⟩ := hS; obtain ⟨_, e45, rfl⟩ := hF.dp 10 45 (by kernel_rfl); obtain ⟨_, e47, rfl⟩ := hF.dp 12 47 (by kernel_rfl); have hbr0 : Rd w1 x.Y x.body.length (u8s x.body) := hG1.rd HSx.out.bytes; have hbr : Rd w3 x.Y x.body.length (u8s x.body) := Gr.rd (Below.trans (hG19.trans (Gr.drew w9)) hG.below) hbr0; refine stepC_call rfl rfl rfl 99 #[.pointer (some ⟨g5, 0, none⟩), .slice x.Y x.body.length x.cY] (by simp only [execOp, resolve, invoke, List.map_toArray, List.map_cons, List.map_nil, e45, e47]; go_simp) ((bytes_any (M := x.body) hO hB (by omega) rfl (by have := HSx.out.small; omega) hbr (ApartO.old hbr0 (Nat.le_refl _) hB hO.at_ hO.base)).mono fun e w4 hq => ?_); obtain ⟨he, hG4, hS4⟩ := OutSt.put hB hSb hL4 hq; exact ⟨_, he, rfl, hG4, hS4⟩
      · intro vs w4 hG4 _ hSt4; obtain ⟨_, A4, c4, hO4, _⟩ := hSt4; have hGe : Gr w1 w4 := Below.trans (hG19.trans (Gr.drew w9)) hG4.below; have HREL : Hid (SWrR L PP n g5 w1 (.int .i64 ((k + 1 : Nat) : Int)) w4) := Lib.hid ⟨k + 1, A4, c4, hlt, rfl, by rw [← HLE.out]; exact hO4, hGe⟩; clear hO4 hGe hG4 HLE HSt hL1 hL2 hL3 hL4 hl0 hl1 hl2 hl3 hG18 hG19 HA9 HP9d hEl h19; simp only [putAll, Nat.zero_add, Nat.reduceAdd]; go_simp; go_wp2_with fail
        exact ⟨by rw [show (k : Int) + 1 = ((k + 1 : Nat) : Int) by omega]; exact HREL.out, by simp [intOf]; omega⟩
    · have hki : ¬ (k : Int) < (n : Int) := by omega
      have HE : Hid (PP ++ (L.take k).flatMap encSib = encSibs L) := Lib.hid (by
        rw [HPP.out, List.take_of_length_le (by rw [HLen.out]; omega), encSibs, HLen.out, List.nil_append])
      have hEl : (encSibs L).length ≤ 1000000 := by
        have h1 := encSibs_len HOk.out; rw [HLen.out] at h1; rw [encSibs, List.length_append, hiB_length]; omega
      rw [HE.out] at HO; have HDn := Lib.hid (done_any HO.out hEl); have hGe := hG1.trans hG; clear HO hlt hk hEl
      go_wp2_with (go_at_call 100; refine HDn.out.mono ?_; rintro e w9 ⟨A9, c9, rfl, hO9, hn9, hG9⟩; have HO9 := Lib.hid hO9; have HN9 := Lib.hid hn9; clear hO9 hn9)
      go_ret2
      exact ⟨A9, c9, rfl, own_base2 HO9.out hGe.size, HN9.out, hGe.trans hG9⟩
end Go.Proofs.YtjpphldojbfpfaaGreatDoor
