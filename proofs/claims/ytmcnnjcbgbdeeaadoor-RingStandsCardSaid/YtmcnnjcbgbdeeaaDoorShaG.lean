/- The two tables of sha2 lie in memory as the text lays them; words turned. No condition. -/
import Derived.Test.YtmcnnjcbgbdeeaaDoorKitA
import Derived.Test.YtmcnnjcbgbdeeaaDoorShaP
import Derived.Test.YtmcnnjcbgbdeeaaDoorMem
import Derived.Test.YtmcnnjcbgbdeeaaDoorIdx
namespace Go.Proofs.YtmcnnjcbgbdeeaaDoor
open Go.RowKit
structure Glob (w : World) : Prop where
  start : w.rangeAt 0 0 (u32s startL)
  keys : w.rangeAt 1 0 (u32s keysL)
theorem Gr.range {w w' : World} (h : Gr w w') {b o : Nat} {cs : List Value} (hr : w.rangeAt b o cs) : w'.rangeAt b o cs := fun j v hv => h.cell (hr j v hv)
theorem Glob.gr {w w' : World} (h : Gr w w') (g : Glob w) : Glob w' := ⟨h.range g.start, h.range g.keys⟩
theorem Glob.below {w w' : World} (h : Below w.heap.size w w') (g : Glob w) : Glob w' := Glob.gr h g
theorem Glob.drew {w : World} (g : Glob w) : Glob w.drew := ⟨g.start, g.keys⟩
theorem Glob.key {w : World} (g : Glob w) {k : Nat} (hk : k < 64) : w.cell? ⟨1, k, none⟩ = some (.int .u32 ((keysL.getD k 0).toNat : Int)) := by
  have := g.keys k (.int .u32 ((keysL.getD k 0).toNat : Int)) (by
    have hl : keysL.length = 64 := rfl
    rw [u32s, List.getElem?_map, List.getD_eq_getElem?_getD, List.getElem?_eq_getElem (by omega)]
    rfl)
  simpa using this
set_option maxRecDepth 100000 in
set_option maxHeartbeats 1000000 in
theorem turned_any (x : UInt32) (a b c : Nat) (ha : a ≤ 32) (hb : b ≤ 32) (hc : c ≤ 32) (w : World) :
    Calls Tryd.prog 46 #[.int .u32 x.toNat, .int .i64 a, .int .i64 b, .int .i64 c] w fun e w' => e = .returned (.int .u32 (trn x a b c).toNat) ∧ w = w' := by
  go_enter Tryd.func46, Tryd.ntmps46
  go_wp2_with (go_at_call 62; refine (left_any _ _ _).mono ?_; rintro e w1 ⟨rfl, rfl⟩)
  go_ret
  refine ⟨?_, rfl⟩
  rw [xor32, xor32]
  rfl
set_option maxRecDepth 100000 in
set_option maxHeartbeats 1000000 in
theorem moved_any (x : UInt32) (a b c : Nat) (ha : a ≤ 32) (hb : b ≤ 32) (hc : c < 32) (w : World) :
    Calls Tryd.prog 61 #[.int .u32 x.toNat, .int .i64 a, .int .i64 b, .int .i64 c] w fun e w' => e = .returned (.int .u32 (mvd x a b c).toNat) ∧ Below w.heap.size w w' := by
  go_enter Tryd.func61, Tryd.ntmps61
  go_wp2_with fail
  refine wp_region_ssaL (by kernel_rfl) [IsV (.int .u32 ((x).toNat : Int)), IsV (.int .i64 ((a : Nat) : Int)), IsV (.int .i64 (-(a : Int))), IsV (.int .u32 ((rr x a).toNat : Int)), IsV (.int .u32 ((x).toNat : Int)), IsV (.int .i64 ((b : Nat) : Int)), IsV (.int .i64 (-(b : Int))), IsV (.int .u32 ((rr x b).toNat : Int)), IsV (.int .u32 (((rr x a) ^^^ (rr x b)).toNat : Int)), IsV (.int .u32 ((x).toNat : Int)), IsV (.int .i64 ((c : Nat) : Int)), IsV (.int .u32 ((x >>> UInt32.ofNat c).toNat : Int)), IsV (.int .u32 ((((rr x a) ^^^ (rr x b)) ^^^ (x >>> UInt32.ofNat c)).toNat : Int)), IsV (.int .u32 ((((rr x a) ^^^ (rr x b)) ^^^ (x >>> UInt32.ofNat c)).toNat : Int))] (by kernel_rfl) ?_ ?_ ?_
  · intro φ hφ v w1 w2 h hg
    simp only [List.mem_cons, List.not_mem_nil, or_false] at hφ
    rcases hφ with rfl | rfl | rfl | rfl | rfl | rfl | rfl | rfl | rfl | rfl | rfl | rfl | rfl | rfl
    all_goals first | exact h | exact RdV.gr h hg
  · refine ⟨?_, ?_, ?_, ?_, ?_, ?_, ?_, ?_, ?_, ?_, ?_, ?_, ?_, ?_, trivial⟩
    · intro a1 w1 hG hF
      exact s_old rfl (wants0 rfl) (.tmp 0) (.inr rfl) (.int .u32 ((x).toNat : Int)) (hF.ol 0 (by kernel_rfl)) rfl
    · intro a1 w1 hG hF
      exact s_old rfl (wants0 rfl) (.tmp 1) (.inr rfl) (.int .i64 ((a : Nat) : Int)) (hF.ol 1 (by kernel_rfl)) rfl
    · intro a1 w1 hG hF
      obtain ⟨_, e10, rfl⟩ := hF.dp 1 10 (by kernel_rfl)
      exact s_is rfl (wants0 rfl) _ rfl (run_negN e10 (by omega))
    · intro a1 w1 hG hF
      obtain ⟨_, e9, rfl⟩ := hF.dp 0 9 (by kernel_rfl)
      obtain ⟨_, e11, rfl⟩ := hF.dp 2 11 (by kernel_rfl)
      exact s_call rfl (wants0 rfl) _ rfl _ _ (by simp only [execOp, resolve, invoke, List.map_toArray, List.map_cons, List.map_nil, e9, e11]; go_simp) ((left_any x (-(a : Int)) w1).mono fun e w2 ⟨he, hw⟩ => ⟨_, he, rfl, hw ▸ Gr.refl _⟩)
    · intro a1 w1 hG hF
      exact s_old rfl (wants0 rfl) (.tmp 0) (.inr rfl) (.int .u32 ((x).toNat : Int)) (hF.ol 0 (by kernel_rfl)) rfl
    · intro a1 w1 hG hF
      exact s_old rfl (wants0 rfl) (.tmp 2) (.inr rfl) (.int .i64 ((b : Nat) : Int)) (hF.ol 2 (by kernel_rfl)) rfl
    · intro a1 w1 hG hF
      obtain ⟨_, e14, rfl⟩ := hF.dp 5 14 (by kernel_rfl)
      exact s_is rfl (wants0 rfl) _ rfl (run_negN e14 (by omega))
    · intro a1 w1 hG hF
      obtain ⟨_, e13, rfl⟩ := hF.dp 4 13 (by kernel_rfl)
      obtain ⟨_, e15, rfl⟩ := hF.dp 6 15 (by kernel_rfl)
      exact s_call rfl (wants0 rfl) _ rfl _ _ (by simp only [execOp, resolve, invoke, List.map_toArray, List.map_cons, List.map_nil, e13, e15]; go_simp) ((left_any x (-(b : Int)) w1).mono fun e w2 ⟨he, hw⟩ => ⟨_, he, rfl, hw ▸ Gr.refl _⟩)
    · intro a1 w1 hG hF
      obtain ⟨_, e12, rfl⟩ := hF.dp 3 12 (by kernel_rfl)
      obtain ⟨_, e16, rfl⟩ := hF.dp 7 16 (by kernel_rfl)
      exact s_is rfl (wants0 rfl) _ rfl (run_xor32 (a := rr x a) (b := rr x b) e12 e16)
    · intro a1 w1 hG hF
      exact s_old rfl (wants0 rfl) (.tmp 0) (.inr rfl) (.int .u32 ((x).toNat : Int)) (hF.ol 0 (by kernel_rfl)) rfl
    · intro a1 w1 hG hF
      exact s_old rfl (wants0 rfl) (.tmp 3) (.inr rfl) (.int .i64 ((c : Nat) : Int)) (hF.ol 3 (by kernel_rfl)) rfl
    · intro a1 w1 hG hF
      obtain ⟨_, e18, rfl⟩ := hF.dp 9 18 (by kernel_rfl)
      obtain ⟨_, e19, rfl⟩ := hF.dp 10 19 (by kernel_rfl)
      exact s_is rfl (wants0 rfl) _ rfl (run_shr32 (a := x) (k := c) e18 e19 (by omega))
    · intro a1 w1 hG hF
      obtain ⟨_, e17, rfl⟩ := hF.dp 8 17 (by kernel_rfl)
      obtain ⟨_, e20, rfl⟩ := hF.dp 11 20 (by kernel_rfl)
      exact s_is rfl (wants0 rfl) _ rfl (run_xor32 (a := (rr x a) ^^^ (rr x b)) (b := x >>> UInt32.ofNat c) e17 e20)
    · intro a1 w1 hG hF
      exact s_same rfl (wants0 rfl) (.tmp 21) (.inl rfl) (hF.dp 12 21 (by kernel_rfl))
  · intro vs w1 hG hf
    have z8 : vs 13 = .int .u32 ((((rr x a) ^^^ (rr x b)) ^^^ (x >>> UInt32.ofNat c)).toNat : Int) := hf.2.2.2.2.2.2.2.2.2.2.2.2.2.1
    clear hf
    replace z8 : vs 13 = .int .u32 ((mvd x a b c).toNat : Int) := z8
    simp only [putAll, Nat.zero_add, Nat.reduceAdd, z8]
    clear z8
    go_simp
    go_wp2_with fail
    go_ret
    exact ⟨rfl, (Gr.drew w).trans hG⟩
end Go.Proofs.YtmcnnjcbgbdeeaaDoor

