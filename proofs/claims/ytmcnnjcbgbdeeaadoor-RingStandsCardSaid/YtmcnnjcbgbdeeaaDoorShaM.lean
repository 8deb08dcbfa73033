/- The walk of sha2.mix. No condition. -/
import Derived.Test.YtmcnnjcbgbdeeaaDoorShaS
import Derived.Test.YtmcnnjcbgbdeeaaDoorKitA
namespace Go.Proofs.YtmcnnjcbgbdeeaaDoor
open Go.RowKit
theorem info8 (l : List UInt32) (h : l.length = 8) : (Tryd.prog.info? 73).map (·.size) = some (u32s l).length := by simp only [u32s_length, h]; kernel_rfl
def addAt (h v : List UInt32) : Nat → List UInt32
  | 0 => h
  | k + 1 => (addAt h v k).set k ((addAt h v k).getD k 0 + v.getD k 0)
@[simp] theorem addAt_length (h v : List UInt32) (k : Nat) : (addAt h v k).length = h.length := by
  induction k with
  | zero => rfl
  | succ k ih => rw [addAt, List.length_set, ih]
theorem addAt_all {h v : List UInt32} (hh : h.length = 8) (hv : v.length = 8) : addAt h v 8 = addU h v := by
  obtain ⟨a, b, c, d, e, f, g, i, rfl⟩ := eightU hh
  obtain ⟨a', b', c', d', e', f', g', i', rfl⟩ := eightU hv
  rfl
theorem add32_mod (a b : UInt32) : ((a.toNat : Int) + (b.toNat : Int)) % 4294967296 = ((a + b).toNat : Int) := by rw [UInt32.toNat_add]; omega
set_option maxRecDepth 100000 in
set_option maxHeartbeats 8000000 in
theorem mix2_any (h : List UInt32) (hh : h.length = 8) (A : Option Addr) (c : Nat) (b : List UInt8) (hc : 64 ≤ c) (w : World) (hr : Rd w A 64 (u8s b)) (gw : Glob w) :
    Calls Tryd.prog 32 #[.agg (u32s h).toArray, .slice A 64 c] w fun e w' => e = .returned (.agg (u32s (mixU h b)).toArray) ∧ Below w.heap.size w w' := by
  have hs := fun w hr => schedule_any A c b hc w hr
  obtain ⟨S, hS⟩ : ∃ S, S = schedU b := ⟨_, rfl⟩
  have hSl : S.length = 64 := by rw [hS]; simp
  have hmix : mixU h b = addU h (rndU h S 64) := by rw [hS]; rfl
  rw [← hS] at hs
  have HSC := Lib.hid hs
  clear hS hs
  go_enter Tryd.func32, Tryd.ntmps32
  go_wp2_with fail
  generalize hW : (w.alloc _).alloc _ = W
  obtain ⟨g2, hg2⟩ : ∃ g, g = w.heap.size := ⟨_, rfl⟩
  obtain ⟨g4, hg4⟩ : ∃ g, g = w.heap.size + 1 := ⟨_, rfl⟩
  have hM : Mem g2 w W [(g4, 73, u32s (List.replicate 8 0)), (g2, 73, u32s h)] := by
    have h := ((Mem.nil w).new (t := 73) (C := (u32s h).toArray) (cs := u32s h) (Nat.le_refl _) rfl).new (t := 73) (C := (u32s (List.replicate 8 0)).toArray) (cs := u32s (List.replicate 8 0)) (Nat.le_refl _) (by simp)
    rw [asz] at h
    rw [← hW, hg2, hg4]
    exact h
  have hB0 : g2 ≤ w.heap.size := by omega
  simp only [← hg4]
  simp only [← hg2]
  have HG := Lib.hid hg2
  have hrW := hr.below (HG.out ▸ hM.below)
  have HMX := Lib.hid hmix
  clear hW hg2 hg4 hr hmix
  go_wp2_with first
    | (go_at_call 45; refine (HSC.out _ hrW).mono ?_; rintro e w1 ⟨rfl, hB1⟩; replace hM := hM.gr hB0 hB1; clear hB1 hrW)
    | (refine wpList_newM hM hB0 rfl 86 (.tmp 5) (.tmp 12) rfl _ (u32s S) rfl rfl rfl (by simp only [u32s_length, hSl]; rfl) (info64 S hSl) (u32s_oneCell _) ?_; intro w3 hM3 _; clear hM)
    | (refine wpList_load_mid rfl 73 (.tmp 2) rfl g2 0 rfl (u32s h) _ (hM3.at_ 2 rfl).range Tryd.underlying73 rfl (info8 _ hh) ?_)
    | (refine wpList_newM hM3 hB0 rfl 73 (.tmp 6) (.tmp 13) rfl _ (u32s h) rfl rfl rfl (by simp only [u32s_length, hh]; rfl) (info8 h hh) (u32s_oneCell _) ?_; intro w4 hM _; clear hM3)
  generalize w1.heap.size = g5 at hM ⊢
  generalize w3.heap.size = g6 at hM ⊢
  obtain ⟨V, hV⟩ : ∃ V : Nat → List UInt32, V = rndU h S := ⟨_, rfl⟩
  have HVL : Hid (∀ r, (V r).length = 8) := by intro r; rw [hV]; exact rndU_length S hh r
  have HVS : Hid (∀ r, roundU (V r) (keysL.getD r 0) (S.getD r 0) = V (r + 1)) := by intro r; rw [hV]; rfl
  have HVE : Hid (∀ r, r = 64 → mixU h b = addU h (V r)) := by intro r hr; rw [hr, hV]; exact HMX.out
  have hV0 : u32s h = u32s (V 0) := by rw [hV]; rfl
  have hM : Mem g2 w w4 [(g6, 73, u32s (V 0)), (g5, 86, u32s S), (g4, 73, u32s (List.replicate 8 0)), (g2, 73, u32s h)] := by rw [← hV0]; exact hM
  clear hV hV0 HMX
  go_loopw [14] (fun i wr => ∃ r : Nat, r ≤ 64 ∧ i = .int .i64 r ∧ Mem g2 w wr [(g6, 73, u32s (V r)), (g5, 86, u32s S), (g4, 73, u32s (List.replicate 8 0)), (g2, 73, u32s h)]) (fun i _ => 64 - (intOf i).toNat)
  case atStart => exact ⟨0, by omega, rfl, hM⟩
  case round =>
    clear hM
    obtain ⟨r, hr64, rfl, hM⟩ := hrel
    by_cases hlt : r < 64
    · obtain ⟨a, b, c, d, e, f, g, i, hv⟩ := eightU (HVL.out r)
      obtain ⟨ww, hww⟩ : ∃ x, x = S.getD r 0 := ⟨_, rfl⟩
      obtain ⟨kk, hkk⟩ : ∃ x, x = keysL.getD r 0 := ⟨_, rfl⟩
      have ck := (gw.below (HG.out ▸ hM.below)).key hlt
      rw [← hkk] at ck
      have c5 := (hM.at_ 1 rfl).u32 (a := r) (by omega)
      rw [← hww] at c5
      rw [hv] at hM
      obtain ⟨x, hx⟩ : ∃ x, x = i + trn e 6 11 25 + (e &&& f ^^^ ~~~e &&& g) + kk + ww := ⟨_, rfl⟩
      obtain ⟨y, hy⟩ : ∃ y, y = trn a 2 13 22 + (a &&& b ^^^ a &&& c ^^^ b &&& c) := ⟨_, rfl⟩
      have hnext : V (r + 1) = [x + y, a, b, c, d + x, e, f, g] := by
        rw [← HVS.out r, hv, ← hkk, ← hww, hx, hy]; rfl
      have HX := Lib.hid hx
      have HY := Lib.hid hy
      have HNX := Lib.hid hnext
      have q0 := (hM.at_ 0 rfl).cell (i := 0) rfl
      have q1 := (hM.at_ 0 rfl).cell (i := 1) rfl
      have q2 := (hM.at_ 0 rfl).cell (i := 2) rfl
      have q4 := (hM.at_ 0 rfl).cell (i := 4) rfl
      have q5 := (hM.at_ 0 rfl).cell (i := 5) rfl
      have q6 := (hM.at_ 0 rfl).cell (i := 6) rfl
      have q7 := (hM.at_ 0 rfl).cell (i := 7) rfl
      clear hv hww hkk hx hy hnext
      go_wp2_with fail
      refine wp_region_ssaL (by kernel_rfl) [IsV (.pointer (some ⟨g6, 7, none⟩)), IsV (.int .u32 ((i).toNat : Int)), IsV (.pointer (some ⟨g6, 4, none⟩)), IsV (.int .u32 ((e).toNat : Int)), IsV (.int .u32 ((trn e 6 11 25).toNat : Int)), IsV (.int .u32 ((i + (trn e 6 11 25)).toNat : Int)), IsV (.pointer (some ⟨g6, 4, none⟩)), IsV (.int .u32 ((e).toNat : Int)), IsV (.pointer (some ⟨g6, 5, none⟩)), IsV (.int .u32 ((f).toNat : Int)), IsV (.int .u32 ((e &&& f).toNat : Int)), IsV (.pointer (some ⟨g6, 4, none⟩)), IsV (.int .u32 ((e).toNat : Int)), IsV (.int .u32 ((~~~e).toNat : Int)), IsV (.pointer (some ⟨g6, 6, none⟩)), IsV (.int .u32 ((g).toNat : Int)), IsV (.int .u32 (((~~~e) &&& g).toNat : Int)), IsV (.int .u32 (((e &&& f) ^^^ ((~~~e) &&& g)).toNat : Int)), IsV (.int .u32 (((i + (trn e 6 11 25)) + ((e &&& f) ^^^ ((~~~e) &&& g))).toNat : Int)), IsV (.int .i64 ((r : Nat) : Int)), IsV (.pointer (some ⟨1, r, none⟩)), IsV (.int .u32 ((kk).toNat : Int)), IsV (.int .u32 ((((i + (trn e 6 11 25)) + ((e &&& f) ^^^ ((~~~e) &&& g))) + kk).toNat : Int)), IsV (.int .i64 ((r : Nat) : Int)), IsV (.pointer (some ⟨g5, r, none⟩)), IsV (.int .u32 ((ww).toNat : Int)), IsV (.int .u32 (((((i + (trn e 6 11 25)) + ((e &&& f) ^^^ ((~~~e) &&& g))) + kk) + ww).toNat : Int)), IsV (.int .u32 (((((i + (trn e 6 11 25)) + ((e &&& f) ^^^ ((~~~e) &&& g))) + kk) + ww).toNat : Int))] (by kernel_rfl) ?_ ?_ ?_
      · intro φ hφ v w1 w2 h hg
        simp only [List.mem_cons, List.not_mem_nil, or_false] at hφ
        rcases hφ with rfl | rfl | rfl | rfl | rfl | rfl | rfl | rfl | rfl | rfl | rfl | rfl | rfl | rfl | rfl | rfl | rfl | rfl | rfl | rfl | rfl | rfl | rfl | rfl | rfl | rfl | rfl | rfl
        all_goals first | exact h | exact RdV.gr h hg
      · refine ⟨?_, ?_, ?_, ?_, ?_, ?_, ?_, ?_, ?_, ?_, ?_, ?_, ?_, ?_, ?_, ?_, ?_, ?_, ?_, ?_, ?_, ?_, ?_, ?_, ?_, ?_, ?_, ?_, trivial⟩
        · intro a1 w1 hG hF
          have e6 : a1.eval (.tmp 6) = .pointer (some ⟨g6, 0, none⟩) := hF.ol 6 (by kernel_rfl)
          exact s_is rfl (wants0 rfl) _ rfl (run_idx (i := 7) Tryd.underlying73 (by kernel_rfl) e6 rfl (by omega))
        · intro a1 w1 hG hF
          obtain ⟨_, e17, rfl⟩ := hF.dp 0 17 (by kernel_rfl)
          exact s_is rfl (wants0 rfl) _ rfl (run_load1 Tryd.underlying72 e17 (Gr.cell ((Gr.drew wr).trans hG) q7))
        · intro a1 w1 hG hF
          have e6 : a1.eval (.tmp 6) = .pointer (some ⟨g6, 0, none⟩) := hF.ol 6 (by kernel_rfl)
          exact s_is rfl (wants0 rfl) _ rfl (run_idx (i := 4) Tryd.underlying73 (by kernel_rfl) e6 rfl (by omega))
        · intro a1 w1 hG hF
          obtain ⟨_, e19, rfl⟩ := hF.dp 2 19 (by kernel_rfl)
          exact s_is rfl (wants0 rfl) _ rfl (run_load1 Tryd.underlying72 e19 (Gr.cell ((Gr.drew wr).trans hG) q4))
        · intro a1 w1 hG hF
          obtain ⟨_, e20, rfl⟩ := hF.dp 3 20 (by kernel_rfl)
          exact s_call rfl (wants0 rfl) _ rfl _ _ (by simp only [execOp, resolve, invoke, List.map_toArray, List.map_cons, List.map_nil, e20]; go_simp) ((turned_any e 6 11 25 (by omega) (by omega) (by omega) w1).mono fun e w2 ⟨he, hw⟩ => ⟨_, he, rfl, hw ▸ Gr.refl _⟩)
        · intro a1 w1 hG hF
          obtain ⟨_, e18, rfl⟩ := hF.dp 1 18 (by kernel_rfl)
          obtain ⟨_, e21, rfl⟩ := hF.dp 4 21 (by kernel_rfl)
          exact s_is rfl (wants0 rfl) _ rfl (run_add32 (a := i) (b := trn e 6 11 25) e18 e21)
        · intro a1 w1 hG hF
          have e6 : a1.eval (.tmp 6) = .pointer (some ⟨g6, 0, none⟩) := hF.ol 6 (by kernel_rfl)
          exact s_is rfl (wants0 rfl) _ rfl (run_idx (i := 4) Tryd.underlying73 (by kernel_rfl) e6 rfl (by omega))
        · intro a1 w1 hG hF
          obtain ⟨_, e23, rfl⟩ := hF.dp 6 23 (by kernel_rfl)
          exact s_is rfl (wants0 rfl) _ rfl (run_load1 Tryd.underlying72 e23 (Gr.cell ((Gr.drew wr).trans hG) q4))
        · intro a1 w1 hG hF
          have e6 : a1.eval (.tmp 6) = .pointer (some ⟨g6, 0, none⟩) := hF.ol 6 (by kernel_rfl)
          exact s_is rfl (wants0 rfl) _ rfl (run_idx (i := 5) Tryd.underlying73 (by kernel_rfl) e6 rfl (by omega))
        · intro a1 w1 hG hF
          obtain ⟨_, e25, rfl⟩ := hF.dp 8 25 (by kernel_rfl)
          exact s_is rfl (wants0 rfl) _ rfl (run_load1 Tryd.underlying72 e25 (Gr.cell ((Gr.drew wr).trans hG) q5))
        · intro a1 w1 hG hF
          obtain ⟨_, e24, rfl⟩ := hF.dp 7 24 (by kernel_rfl)
          obtain ⟨_, e26, rfl⟩ := hF.dp 9 26 (by kernel_rfl)
          exact s_is rfl (wants0 rfl) _ rfl (run_and32 (a := e) (b := f) e24 e26)
        · intro a1 w1 hG hF
          have e6 : a1.eval (.tmp 6) = .pointer (some ⟨g6, 0, none⟩) := hF.ol 6 (by kernel_rfl)
          exact s_is rfl (wants0 rfl) _ rfl (run_idx (i := 4) Tryd.underlying73 (by kernel_rfl) e6 rfl (by omega))
        · intro a1 w1 hG hF
          obtain ⟨_, e28, rfl⟩ := hF.dp 11 28 (by kernel_rfl)
          exact s_is rfl (wants0 rfl) _ rfl (run_load1 Tryd.underlying72 e28 (Gr.cell ((Gr.drew wr).trans hG) q4))
        · intro a1 w1 hG hF
          obtain ⟨_, e29, rfl⟩ := hF.dp 12 29 (by kernel_rfl)
          exact s_is rfl (wants0 rfl) _ rfl (run_not32 e29)
        · intro a1 w1 hG hF
          have e6 : a1.eval (.tmp 6) = .pointer (some ⟨g6, 0, none⟩) := hF.ol 6 (by kernel_rfl)
          exact s_is rfl (wants0 rfl) _ rfl (run_idx (i := 6) Tryd.underlying73 (by kernel_rfl) e6 rfl (by omega))
        · intro a1 w1 hG hF
          obtain ⟨_, e31, rfl⟩ := hF.dp 14 31 (by kernel_rfl)
          exact s_is rfl (wants0 rfl) _ rfl (run_load1 Tryd.underlying72 e31 (Gr.cell ((Gr.drew wr).trans hG) q6))
        · intro a1 w1 hG hF
          obtain ⟨_, e30, rfl⟩ := hF.dp 13 30 (by kernel_rfl)
          obtain ⟨_, e32, rfl⟩ := hF.dp 15 32 (by kernel_rfl)
          exact s_is rfl (wants0 rfl) _ rfl (run_and32 (a := ~~~e) (b := g) e30 e32)
        · intro a1 w1 hG hF
          obtain ⟨_, e27, rfl⟩ := hF.dp 10 27 (by kernel_rfl)
          obtain ⟨_, e33, rfl⟩ := hF.dp 16 33 (by kernel_rfl)
          exact s_is rfl (wants0 rfl) _ rfl (run_xor32 (a := e &&& f) (b := (~~~e) &&& g) e27 e33)
        · intro a1 w1 hG hF
          obtain ⟨_, e22, rfl⟩ := hF.dp 5 22 (by kernel_rfl)
          obtain ⟨_, e34, rfl⟩ := hF.dp 17 34 (by kernel_rfl)
          exact s_is rfl (wants0 rfl) _ rfl (run_add32 (a := i + (trn e 6 11 25)) (b := (e &&& f) ^^^ ((~~~e) &&& g)) e22 e34)
        · intro a1 w1 hG hF
          exact s_old rfl (wants0 rfl) (.tmp 7) (.inr rfl) (.int .i64 ((r : Nat) : Int)) (hF.ol 7 (by kernel_rfl)) rfl
        · intro a1 w1 hG hF
          obtain ⟨_, e36, rfl⟩ := hF.dp 19 36 (by kernel_rfl)
          exact s_is rfl (wants0 rfl) _ rfl (run_idx (i := r) Tryd.underlying86 (by kernel_rfl) rfl e36 (by omega))
        · intro a1 w1 hG hF
          obtain ⟨_, e37, rfl⟩ := hF.dp 20 37 (by kernel_rfl)
          exact s_is rfl (wants0 rfl) _ rfl (run_load1 Tryd.underlying72 e37 (Gr.cell ((Gr.drew wr).trans hG) ck))
        · intro a1 w1 hG hF
          obtain ⟨_, e35, rfl⟩ := hF.dp 18 35 (by kernel_rfl)
          obtain ⟨_, e38, rfl⟩ := hF.dp 21 38 (by kernel_rfl)
          exact s_is rfl (wants0 rfl) _ rfl (run_add32 (a := (i + (trn e 6 11 25)) + ((e &&& f) ^^^ ((~~~e) &&& g))) (b := kk) e35 e38)
        · intro a1 w1 hG hF
          exact s_old rfl (wants0 rfl) (.tmp 7) (.inr rfl) (.int .i64 ((r : Nat) : Int)) (hF.ol 7 (by kernel_rfl)) rfl
        · intro a1 w1 hG hF
          have e5 : a1.eval (.tmp 5) = .pointer (some ⟨g5, 0, none⟩) := hF.ol 5 (by kernel_rfl)
          obtain ⟨_, e40, rfl⟩ := hF.dp 23 40 (by kernel_rfl)
          exact s_is rfl (wants0 rfl) _ rfl (run_idx (i := r) Tryd.underlying86 (by kernel_rfl) e5 e40 (by omega))
        · intro a1 w1 hG hF
          obtain ⟨_, e41, rfl⟩ := hF.dp 24 41 (by kernel_rfl)
          exact s_is rfl (wants0 rfl) _ rfl (run_load1 Tryd.underlying72 e41 (Gr.cell ((Gr.drew wr).trans hG) c5))
        · intro a1 w1 hG hF
          obtain ⟨_, e39, rfl⟩ := hF.dp 22 39 (by kernel_rfl)
          obtain ⟨_, e42, rfl⟩ := hF.dp 25 42 (by kernel_rfl)
          exact s_is rfl (wants0 rfl) _ rfl (run_add32 (a := ((i + (trn e 6 11 25)) + ((e &&& f) ^^^ ((~~~e) &&& g))) + kk) (b := ww) e39 e42)
        · intro a1 w1 hG hF
          exact s_same rfl (wants0 rfl) (.tmp 43) (.inl rfl) (hF.dp 26 43 (by kernel_rfl))
      · intro vs w1 hG hf
        have z8 : vs 27 = .int .u32 (((((i + (trn e 6 11 25)) + ((e &&& f) ^^^ ((~~~e) &&& g))) + kk) + ww).toNat : Int) := hf.2.2.2.2.2.2.2.2.2.2.2.2.2.2.2.2.2.2.2.2.2.2.2.2.2.2.2.1
        clear hf
        rw [← HX.out] at z8
        simp only [putAll, Nat.zero_add, Nat.reduceAdd, z8]
        replace hM := hM.gr hB0 ((Gr.drew wr).trans hG)
        clear z8 ck c5 q0 q1 q2 q4 q5 q6 q7 hG
        have q0 := (hM.at_ 0 rfl).cell (i := 0) rfl
        have q1 := (hM.at_ 0 rfl).cell (i := 1) rfl
        have q2 := (hM.at_ 0 rfl).cell (i := 2) rfl
        generalize w1 = wx at hM q0 q1 q2 ⊢
        go_simp
        go_wp2_with fail
        refine wp_region_ssaL (by kernel_rfl) [IsV (.pointer (some ⟨g6, 0, none⟩)), IsV (.int .u32 ((a).toNat : Int)), IsV (.int .u32 ((trn a 2 13 22).toNat : Int)), IsV (.pointer (some ⟨g6, 0, none⟩)), IsV (.int .u32 ((a).toNat : Int)), IsV (.pointer (some ⟨g6, 1, none⟩)), IsV (.int .u32 ((b).toNat : Int)), IsV (.int .u32 ((a &&& b).toNat : Int)), IsV (.pointer (some ⟨g6, 0, none⟩)), IsV (.int .u32 ((a).toNat : Int)), IsV (.pointer (some ⟨g6, 2, none⟩)), IsV (.int .u32 ((c).toNat : Int)), IsV (.int .u32 ((a &&& c).toNat : Int)), IsV (.int .u32 (((a &&& b) ^^^ (a &&& c)).toNat : Int)), IsV (.pointer (some ⟨g6, 1, none⟩)), IsV (.int .u32 ((b).toNat : Int)), IsV (.pointer (some ⟨g6, 2, none⟩)), IsV (.int .u32 ((c).toNat : Int)), IsV (.int .u32 ((b &&& c).toNat : Int)), IsV (.int .u32 ((((a &&& b) ^^^ (a &&& c)) ^^^ (b &&& c)).toNat : Int)), IsV (.int .u32 (((trn a 2 13 22) + (((a &&& b) ^^^ (a &&& c)) ^^^ (b &&& c))).toNat : Int)), IsV (.int .u32 (((trn a 2 13 22) + (((a &&& b) ^^^ (a &&& c)) ^^^ (b &&& c))).toNat : Int))] (by kernel_rfl) ?_ ?_ ?_
        · intro φ hφ v w1 w2 h hg
          simp only [List.mem_cons, List.not_mem_nil, or_false] at hφ
          rcases hφ with rfl | rfl | rfl | rfl | rfl | rfl | rfl | rfl | rfl | rfl | rfl | rfl | rfl | rfl | rfl | rfl | rfl | rfl | rfl | rfl | rfl | rfl
          all_goals first | exact h | exact RdV.gr h hg
        · refine ⟨?_, ?_, ?_, ?_, ?_, ?_, ?_, ?_, ?_, ?_, ?_, ?_, ?_, ?_, ?_, ?_, ?_, ?_, ?_, ?_, ?_, ?_, trivial⟩
          · intro a1 w1 hG hF
            have e6 : a1.eval (.tmp 6) = .pointer (some ⟨g6, 0, none⟩) := hF.ol 6 (by kernel_rfl)
            exact s_is rfl (wants0 rfl) _ rfl (run_idx (i := 0) Tryd.underlying73 (by kernel_rfl) e6 rfl (by omega))
          · intro a1 w1 hG hF
            obtain ⟨_, e44, rfl⟩ := hF.dp 0 44 (by kernel_rfl)
            exact s_is rfl (wants0 rfl) _ rfl (run_load1 Tryd.underlying72 e44 (Gr.cell ((Gr.drew wx).trans hG) q0))
          · intro a1 w1 hG hF
            obtain ⟨_, e45, rfl⟩ := hF.dp 1 45 (by kernel_rfl)
            exact s_call rfl (wants0 rfl) _ rfl _ _ (by simp only [execOp, resolve, invoke, List.map_toArray, List.map_cons, List.map_nil, e45]; go_simp) ((turned_any a 2 13 22 (by omega) (by omega) (by omega) w1).mono fun e w2 ⟨he, hw⟩ => ⟨_, he, rfl, hw ▸ Gr.refl _⟩)
          · intro a1 w1 hG hF
            have e6 : a1.eval (.tmp 6) = .pointer (some ⟨g6, 0, none⟩) := hF.ol 6 (by kernel_rfl)
            exact s_is rfl (wants0 rfl) _ rfl (run_idx (i := 0) Tryd.underlying73 (by kernel_rfl) e6 rfl (by omega))
          · intro a1 w1 hG hF
            obtain ⟨_, e47, rfl⟩ := hF.dp 3 47 (by kernel_rfl)
            exact s_is rfl (wants0 rfl) _ rfl (run_load1 Tryd.underlying72 e47 (Gr.cell ((Gr.drew wx).trans hG) q0))
          · intro a1 w1 hG hF
            have e6 : a1.eval (.tmp 6) = .pointer (some ⟨g6, 0, none⟩) := hF.ol 6 (by kernel_rfl)
            exact s_is rfl (wants0 rfl) _ rfl (run_idx (i := 1) Tryd.underlying73 (by kernel_rfl) e6 rfl (by omega))
          · intro a1 w1 hG hF
            obtain ⟨_, e49, rfl⟩ := hF.dp 5 49 (by kernel_rfl)
            exact s_is rfl (wants0 rfl) _ rfl (run_load1 Tryd.underlying72 e49 (Gr.cell ((Gr.drew wx).trans hG) q1))
          · intro a1 w1 hG hF
            obtain ⟨_, e48, rfl⟩ := hF.dp 4 48 (by kernel_rfl)
            obtain ⟨_, e50, rfl⟩ := hF.dp 6 50 (by kernel_rfl)
            exact s_is rfl (wants0 rfl) _ rfl (run_and32 (a := a) (b := b) e48 e50)
          · intro a1 w1 hG hF
            have e6 : a1.eval (.tmp 6) = .pointer (some ⟨g6, 0, none⟩) := hF.ol 6 (by kernel_rfl)
            exact s_is rfl (wants0 rfl) _ rfl (run_idx (i := 0) Tryd.underlying73 (by kernel_rfl) e6 rfl (by omega))
          · intro a1 w1 hG hF
            obtain ⟨_, e52, rfl⟩ := hF.dp 8 52 (by kernel_rfl)
            exact s_is rfl (wants0 rfl) _ rfl (run_load1 Tryd.underlying72 e52 (Gr.cell ((Gr.drew wx).trans hG) q0))
          · intro a1 w1 hG hF
            have e6 : a1.eval (.tmp 6) = .pointer (some ⟨g6, 0, none⟩) := hF.ol 6 (by kernel_rfl)
            exact s_is rfl (wants0 rfl) _ rfl (run_idx (i := 2) Tryd.underlying73 (by kernel_rfl) e6 rfl (by omega))
          · intro a1 w1 hG hF
            obtain ⟨_, e54, rfl⟩ := hF.dp 10 54 (by kernel_rfl)
            exact s_is rfl (wants0 rfl) _ rfl (run_load1 Tryd.underlying72 e54 (Gr.cell ((Gr.drew wx).trans hG) q2))
          · intro a1 w1 hG hF
            obtain ⟨_, e53, rfl⟩ := hF.dp 9 53 (by kernel_rfl)
            obtain ⟨_, e55, rfl⟩ := hF.dp 11 55 (by kernel_rfl)
            exact s_is rfl (wants0 rfl) _ rfl (run_and32 (a := a) (b := c) e53 e55)
          · intro a1 w1 hG hF
            obtain ⟨_, e51, rfl⟩ := hF.dp 7 51 (by kernel_rfl)
            obtain ⟨_, e56, rfl⟩ := hF.dp 12 56 (by kernel_rfl)
            exact s_is rfl (wants0 rfl) _ rfl (run_xor32 (a := a &&& b) (b := a &&& c) e51 e56)
          · intro a1 w1 hG hF
            have e6 : a1.eval (.tmp 6) = .pointer (some ⟨g6, 0, none⟩) := hF.ol 6 (by kernel_rfl)
            exact s_is rfl (wants0 rfl) _ rfl (run_idx (i := 1) Tryd.underlying73 (by kernel_rfl) e6 rfl (by omega))
          · intro a1 w1 hG hF
            obtain ⟨_, e58, rfl⟩ := hF.dp 14 58 (by kernel_rfl)
            exact s_is rfl (wants0 rfl) _ rfl (run_load1 Tryd.underlying72 e58 (Gr.cell ((Gr.drew wx).trans hG) q1))
          · intro a1 w1 hG hF
            have e6 : a1.eval (.tmp 6) = .pointer (some ⟨g6, 0, none⟩) := hF.ol 6 (by kernel_rfl)
            exact s_is rfl (wants0 rfl) _ rfl (run_idx (i := 2) Tryd.underlying73 (by kernel_rfl) e6 rfl (by omega))
          · intro a1 w1 hG hF
            obtain ⟨_, e60, rfl⟩ := hF.dp 16 60 (by kernel_rfl)
            exact s_is rfl (wants0 rfl) _ rfl (run_load1 Tryd.underlying72 e60 (Gr.cell ((Gr.drew wx).trans hG) q2))
          · intro a1 w1 hG hF
            obtain ⟨_, e59, rfl⟩ := hF.dp 15 59 (by kernel_rfl)
            obtain ⟨_, e61, rfl⟩ := hF.dp 17 61 (by kernel_rfl)
            exact s_is rfl (wants0 rfl) _ rfl (run_and32 (a := b) (b := c) e59 e61)
          · intro a1 w1 hG hF
            obtain ⟨_, e57, rfl⟩ := hF.dp 13 57 (by kernel_rfl)
            obtain ⟨_, e62, rfl⟩ := hF.dp 18 62 (by kernel_rfl)
            exact s_is rfl (wants0 rfl) _ rfl (run_xor32 (a := (a &&& b) ^^^ (a &&& c)) (b := b &&& c) e57 e62)
          · intro a1 w1 hG hF
            obtain ⟨_, e46, rfl⟩ := hF.dp 2 46 (by kernel_rfl)
            obtain ⟨_, e63, rfl⟩ := hF.dp 19 63 (by kernel_rfl)
            exact s_is rfl (wants0 rfl) _ rfl (run_add32 (a := trn a 2 13 22) (b := ((a &&& b) ^^^ (a &&& c)) ^^^ (b &&& c)) e46 e63)
          · intro a1 w1 hG hF
            exact s_same rfl (wants0 rfl) (.tmp 64) (.inl rfl) (hF.dp 20 64 (by kernel_rfl))
        · intro vs w1 hG hf
          have z9 : vs 21 = .int .u32 (((trn a 2 13 22) + (((a &&& b) ^^^ (a &&& c)) ^^^ (b &&& c))).toNat : Int) := hf.2.2.2.2.2.2.2.2.2.2.2.2.2.2.2.2.2.2.2.2.2.1
          clear hf
          rw [← HY.out] at z9
          simp only [putAll, Nat.zero_add, Nat.reduceAdd, z9]
          replace hM := hM.gr hB0 ((Gr.drew wx).trans hG)
          clear z9 q0 q1 q2 hG
          generalize w1 = wy at hM ⊢
          go_simp
          go_wp2_with fail
          refine wp_region_cut (by kernel_rfl) [IsV (.slice (some ⟨g6, 1, none⟩) 7 7), IsV (.slice (some ⟨g6, 0, none⟩) 7 8)] 2 (by decide) (by kernel_rfl) (by kernel_rfl) (by kernel_rfl) ?_ ?_ ?_
          · intro φ hφ v w1 w2 h hg
            simp only [List.mem_cons, List.not_mem_nil, or_false] at hφ
            rcases hφ with rfl | rfl
            all_goals first | exact h | exact RdV.gr h hg
          · refine ⟨?_, ?_, trivial⟩
            · intro a1 w1 hG hF
              have e6 : a1.eval (.tmp 6) = .pointer (some ⟨g6, 0, none⟩) := hF.ol 6 (by kernel_rfl)
              exact s_is rfl (wants0 rfl) _ rfl (by simp only [execOp, e6, show a1.eval (.const (.int .i64 1)) = .int .i64 1 from rfl, Option.map, Sem.run_bind, run_acut_l (P := Tryd.prog) Tryd.underlying73 (by kernel_rfl) g6 1 (by omega) 1 rfl, Result.andThen_ok, Sem.run_pure])
            · intro a1 w1 hG hF
              have e6 : a1.eval (.tmp 6) = .pointer (some ⟨g6, 0, none⟩) := hF.ol 6 (by kernel_rfl)
              exact s_is rfl (wants0 rfl) _ rfl (by simp only [execOp, e6, show a1.eval (.const (.int .i64 7)) = .int .i64 7 from rfl, Option.map, Sem.run_bind, run_acut_h (P := Tryd.prog) Tryd.underlying73 (by kernel_rfl) g6 7 (by omega) 7 rfl, Result.andThen_ok, Sem.run_pure])
          · intro vs w1 hG hf
            have z65 : vs 0 = .slice (some ⟨g6, 1, none⟩) 7 7 := hf.1
            have z66 : vs 1 = .slice (some ⟨g6, 0, none⟩) 7 8 := hf.2.1
            clear hf
            simp only [List.take_succ_cons, List.take_zero, List.drop_succ_cons, List.drop_zero, putAll, Nat.zero_add, z65, z66]
            replace hM := hM.gr hB0 ((Gr.drew wy).trans hG)
            have hrd := (hM.at_ 0 rfl).rd 0 7 (by simp)
            refine wpList_copyA (hM.at_ 0 rfl) rfl (.tmp 65) (.tmp 66) 89 89 rfl 72 Tryd.underlying89 (by kernel_rfl) 1 7 7 (by kernel_rfl) (some ⟨g6, 0, none⟩) 7 8 (by kernel_rfl) (u32s [a, b, c, d, e, f, g]) hrd (u32s_oneCell _) (by omega) (by simp) ?_
            intro w2 hA2 hb2 ho2
            have hM2 := hM.put 0 rfl (cs' := u32s [a, a, b, c, d, e, f, g]) hA2 hb2 ho2
            simp only [List.set] at hM2
            have p0 : w2.cell? ⟨g6, 0, none⟩ = some (.int .u32 (a.toNat : Int)) := (hM2.at_ 0 rfl).cell (i := 0) rfl
            have p4 : w2.cell? ⟨g6, 4, none⟩ = some (.int .u32 (d.toNat : Int)) := (hM2.at_ 0 rfl).cell (i := 4) rfl
            have f0 := (hM2.at_ 0 rfl).frozen 0
            have f4 := (hM2.at_ 0 rfl).frozen 4
            have hM3 := (hM2.set 0 rfl 0 (.int .u32 ((x + y).toNat : Int))).set 0 rfl 4 (.int .u32 ((d + x).toNat : Int))
            rw [u32s_set, u32s_set] at hM3
            simp only [List.set] at hM3
            rw [← HNX.out, ← add32_mod x y, ← add32_mod d x] at hM3
            clear hM hrd hA2 hb2 ho2 hM2
            unfold wpList
            go_simp
            go_wp2_with fail
            exact ⟨⟨r + 1, by omega, by go_num, hM3⟩, by simp [intOf]; omega⟩
    · obtain rfl : r = 64 := by omega
      have hEe := HVE.out 64 rfl
      obtain ⟨v, hv⟩ : ∃ v, v = V 64 := ⟨_, rfl⟩
      have hvl : v.length = 8 := by rw [hv]; exact HVL.out 64
      rw [← hv] at hM hEe
      obtain ⟨D, hD⟩ : ∃ D : Nat → List UInt32, D = addAt h v := ⟨_, rfl⟩
      have HDL : Hid (∀ r, (D r).length = 8) := by intro r; rw [hD, addAt_length, hh]
      have HDS : Hid (∀ r, (D r).set r ((D r).getD r 0 + v.getD r 0) = D (r + 1)) := by intro r; rw [hD]; rfl
      have HDE : Hid (∀ r, r = 8 → mixU h b = D r) := by intro r hr; rw [hr, hEe, hD, addAt_all hh hvl]
      have hD0 : u32s h = u32s (D 0) := by rw [hD]; rfl
      rw [hD0] at hM
      clear hv hEe hD hD0 HVE HVS HVL hlt hr64
      simp only [show ((64 : Nat) : Int) = 64 from rfl]
      go_wp2_with fail
      go_loopw [78] (fun i wr => ∃ r : Nat, r ≤ 8 ∧ i = .int .i64 r ∧ Mem g2 w wr [(g6, 73, u32s v), (g5, 86, u32s S), (g4, 73, u32s (List.replicate 8 0)), (g2, 73, u32s (D r))]) (fun i _ => 8 - (intOf i).toNat)
      case atStart => exact ⟨0, by omega, rfl, hM⟩
      case round =>
        clear hM
        obtain ⟨r, hr8, rfl, hM⟩ := hrel
        by_cases hlt : r < 8
        · obtain ⟨hx, hhx⟩ : ∃ x, x = (D r).getD r 0 := ⟨_, rfl⟩
          obtain ⟨vx, hvx⟩ : ∃ x, x = v.getD r 0 := ⟨_, rfl⟩
          have c2 := (hM.at_ 3 rfl).u32 (a := r) (by rw [HDL.out]; omega)
          have c6 := (hM.at_ 0 rfl).u32 (a := r) (by omega)
          rw [← hhx] at c2
          rw [← hvx] at c6
          have hDs := HDS.out r
          rw [← hhx, ← hvx] at hDs
          have HDs := Lib.hid hDs
          clear hhx hvx hDs
          go_wp2_with fail
          refine wp_region_st (by kernel_rfl) [IsV (.int .i64 ((r : Nat) : Int)), IsV (.pointer (some ⟨g2, r, none⟩)), IsV (.int .u32 ((hx).toNat : Int)), IsV (.int .i64 ((r : Nat) : Int)), IsV (.pointer (some ⟨g6, r, none⟩)), IsV (.int .u32 ((vx).toNat : Int)), IsV (.int .u32 ((hx + vx).toNat : Int)), IsV (.pointer (some ⟨g2, r, none⟩))] 8 _ rfl rfl rfl (by kernel_rfl) (by kernel_rfl) ?_ (⟨g2, r, none⟩ : Addr) (.int .u32 ((hx + vx).toNat : Int)) ?_ ?_ ?_
          · intro φ hφ
            simp only [List.mem_cons, List.not_mem_nil, or_false] at hφ
            rcases hφ with rfl | rfl | rfl | rfl | rfl | rfl | rfl | rfl <;> exact ⟨_, rfl⟩
          · refine ⟨?_, ?_, ?_, ?_, ?_, ?_, ?_, ?_, trivial⟩
            · intro a1 w1 hG hF
              exact d_old rfl (wants0 rfl) (.tmp 10) (.inr rfl) (.int .i64 ((r : Nat) : Int)) (hF.ol 10 (by kernel_rfl)) rfl
            · intro a1 w1 hG hF
              have e2 : a1.eval (.tmp 2) = .pointer (some ⟨g2, 0, none⟩) := hF.ol 2 (by kernel_rfl)
              obtain ⟨_, e81, rfl⟩ := hF.dp 0 81 (by kernel_rfl)
              exact d_is rfl (wants0 rfl) _ rfl (run_idx (i := r) Tryd.underlying73 (by kernel_rfl) e2 e81 (by omega))
            · intro a1 w1 hG hF
              obtain ⟨_, e82, rfl⟩ := hF.dp 1 82 (by kernel_rfl)
              exact d_is rfl (wants0 rfl) _ rfl (run_load1 Tryd.underlying72 e82 ((hG.cell _).trans c2))
            · intro a1 w1 hG hF
              exact d_old rfl (wants0 rfl) (.tmp 10) (.inr rfl) (.int .i64 ((r : Nat) : Int)) (hF.ol 10 (by kernel_rfl)) rfl
            · intro a1 w1 hG hF
              have e6 : a1.eval (.tmp 6) = .pointer (some ⟨g6, 0, none⟩) := hF.ol 6 (by kernel_rfl)
              obtain ⟨_, e84, rfl⟩ := hF.dp 3 84 (by kernel_rfl)
              exact d_is rfl (wants0 rfl) _ rfl (run_idx (i := r) Tryd.underlying73 (by kernel_rfl) e6 e84 (by omega))
            · intro a1 w1 hG hF
              obtain ⟨_, e85, rfl⟩ := hF.dp 4 85 (by kernel_rfl)
              exact d_is rfl (wants0 rfl) _ rfl (run_load1 Tryd.underlying72 e85 ((hG.cell _).trans c6))
            · intro a1 w1 hG hF
              obtain ⟨_, e83, rfl⟩ := hF.dp 2 83 (by kernel_rfl)
              obtain ⟨_, e86, rfl⟩ := hF.dp 5 86 (by kernel_rfl)
              exact d_is rfl (wants0 rfl) _ rfl (run_add32 (a := hx) (b := vx) e83 e86)
            · intro a1 w1 hG hF
              have e2 : a1.eval (.tmp 2) = .pointer (some ⟨g2, 0, none⟩) := hF.ol 2 (by kernel_rfl)
              obtain ⟨_, e81, rfl⟩ := hF.dp 0 81 (by kernel_rfl)
              exact d_is rfl (wants0 rfl) _ rfl (run_idx (i := r) Tryd.underlying73 (by kernel_rfl) e2 e81 (by omega))
          · intro a1 w1 hG hF
            obtain ⟨_, e88, rfl⟩ := hF.dp 7 88 (by kernel_rfl)
            obtain ⟨_, e87, rfl⟩ := hF.dp 6 87 (by kernel_rfl)
            exact ⟨wants0 rfl, run_store1 (by kernel_rfl) e88 e87 (by rw [hG.cell]; exact (Option.isSome_iff_exists.2 ⟨_, c2⟩)) (by rw [hG.frozen]; exact (hM.at_ 3 rfl).frozen _)⟩
          intro vs k0 hf
          clear hf
          simp only [putAll, Nat.zero_add, Nat.reduceAdd]
          have hM' := (hM.dr ⟨k0, rfl⟩).set 3 rfl r (.int .u32 ((hx + vx).toNat : Int))
          rw [u32s_set, HDs.out] at hM'
          simp only [List.set] at hM'
          generalize ((World.drewN _ k0).setCell _ _) = W1 at hM' ⊢
          clear hM c2 c6
          go_simp
          go_wp2_with fail
          go_roundw
          case rel => exact ⟨r + 1, by omega, by go_num, hM'⟩
          case measure => simp [intOf]; omega
        · obtain rfl : r = 8 := by omega
          have hGe := HDE.out 8 rfl
          obtain ⟨q, hq⟩ : ∃ q, q = D 8 := ⟨_, rfl⟩
          have hql : q.length = 8 := by rw [hq]; exact HDL.out 8
          rw [← hq] at hM hGe
          have HGE2 := Lib.hid hGe
          clear hq hGe HDE HDS HDL hlt hr8
          simp only [show ((8 : Nat) : Int) = 8 from rfl]
          go_wp2_with first
            | (refine wpList_load_mid rfl 73 (.tmp 2) rfl g2 0 rfl (u32s q) _ (hM.at_ 3 rfl).range Tryd.underlying73 rfl (info8 _ hql) ?_)
            | (refine wpList_putM hM 2 rfl rfl 73 (.tmp 4) (.tmp 90) rfl (u32s q) rfl rfl (by simp [hql]) (info8 _ hql) (u32s_oneCell _) ?_; intro w7 hM7 _)
          simp only [List.set] at hM7
          refine bodyPost_ret (results_cell_row rfl _ _ g4 _ _ _ _ rfl (hM7.at_ 2 rfl) Tryd.underlying73 rfl (by have := info8 _ hql; simpa using this)) rfl ?_
          rw [HGE2.out]
          exact ⟨rfl, by have := hM7.below; rw [HG.out] at this; exact this⟩
end Go.Proofs.YtmcnnjcbgbdeeaaDoor

