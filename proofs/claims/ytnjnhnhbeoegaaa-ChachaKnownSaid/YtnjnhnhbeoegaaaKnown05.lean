/- The walk of the law ChachaKnown. No condition. -/
import Derived.Test.YtnjnhnhbeoegaaaBlocks05
namespace Go.Proofs.Ytnjnhnhbeoegaaa
open Go.RowKit
def keyN : Nat → List UInt8
  | 0 => List.replicate 32 0
  | k + 1 => (keyN k).set k (UInt8.ofNat k)
@[simp] theorem keyN_length (k : Nat) : (keyN k).length = 32 := by
  induction k with
  | zero => rfl
  | succ k ih => rw [keyN, List.length_set, ih]
def nonceK : List UInt8 := [0, 0, 0, 9, 0, 0, 0, 74, 0, 0, 0, 0]
def wantK : List UInt8 := [0x10, 0xf1, 0xe7, 0xe4, 0xd1, 0x3b, 0x59, 0x15, 0x50, 0x0f, 0xdd, 0x1f, 0xa3, 0x20, 0x71, 0xc4]
set_option maxRecDepth 10000 in
theorem known_is : (blockL (keyN 32) 1 nonceK).take 16 = wantK := by decide +kernel
theorem known_at (i : Nat) (hi : i < 16) : (blockL (keyN 32) 1 nonceK)[i]? = wantK[i]? := by
  rw [← known_is, List.getElem?_take, if_pos hi]
theorem u8s_set (l : List UInt8) (i : Nat) (x : UInt8) : (u8s l).set i (.int .u8 (x.toNat : Int)) = u8s (l.set i x) := by simp [u8s, List.map_set]
theorem u8s_at {l : List UInt8} {i : Nat} {x : UInt8} (h : l[i]? = some x) : (u8s l)[i]? = some (.int .u8 (x.toNat : Int)) := by simp [u8s, h]
theorem nonceK_lit : (u8s nonceK).toArray = #[.int .u8 0, .int .u8 0, .int .u8 0, .int .u8 9, .int .u8 0, .int .u8 0, .int .u8 0, .int .u8 74, .int .u8 0, .int .u8 0, .int .u8 0, .int .u8 0] := by kernel_rfl
theorem run_idxS {P : Program} {ev : Operand → Value} {d : Option Tmp} {t T : TypeId} {s : String} {af : Array Edge} {gd : Option (Nat × Bool)} {w : World} {x y : Operand} {g n c i : Nat} {e : TypeId} (hT : P.underlying T = some (.slice e)) (hsz : (P.info? e).map (·.size) = some 1) (h1 : ev x = .slice (some ⟨g, 0, none⟩) n c) (h2 : ev y = .int .i64 i) (hi : i < n) :
    (execOp ev ⟨d, .indexAddr T x y, t, s, af, gd⟩).run P w = .ok (.value (.pointer (some ⟨g, i, none⟩))) w := by
  simp only [execOp, h1, h2]
  go_simp
  simp [run_size1 hsz]
set_option maxRecDepth 100000 in
set_option maxHeartbeats 4000000 in
theorem law_known (z : Int) (w : World) :
    Calls Try.prog 4 #[.int .i64 z] w fun e w' => e = .returned (.bool true) ∧ Below w.heap.size w w' := by
  obtain ⟨b, hb⟩ : ∃ b, b = blockL (keyN 32) 1 nonceK := ⟨_, rfl⟩
  have hc1 := fun w => block_any (keyN 32) (by simp) 1 nonceK rfl w
  have hlb : b.length = 64 := by rw [hb]; simp
  have hbw : ∀ i, i < 16 → b[i]? = wantK[i]? := fun i h => by rw [hb]; exact known_at i h
  rw [← hb] at hc1
  simp only [nonceK_lit, toNat_u32_1] at hc1
  clear hb
  go_enter Try.func4, Try.ntmps4
  go_wp2_with fail
  generalize hW : w.alloc _ = W
  have hs : Arr W w.heap.size 22 (u8s (keyN 0)) := by rw [← hW]; exact Arr.newAt rfl (by kernel_rfl)
  have hB : Below w.heap.size w W := by rw [← hW]; exact (Below.refl _ _).alloc (Nat.le_refl _) _
  clear hW
  go_loopw [4] (fun i wr => ∃ r : Nat, r ≤ 32 ∧ i = .int .i64 r ∧ Arr wr w.heap.size 22 (u8s (keyN r)) ∧ Below w.heap.size w wr) (fun i _ => 32 - (intOf i).toNat)
  case atStart => exact ⟨0, by omega, rfl, hs, hB⟩
  case round =>
    obtain ⟨r, hr8, rfl, hs, hB⟩ := hrel
    by_cases hlt : r < 32
    · have c1 := hs.cell (i := r) (v := _) (u8s_at (List.getElem?_eq_getElem (by simp [hlt])))
      have f1 := hs.frozen r
      have e1 : (r : Int) % 256 = ((UInt8.ofNat r).toNat : Int) := by rw [UInt8.toNat_ofNat']; omega
      go_wp2_with fail
      go_roundw
      case rel =>
        have hs' := hs.set r (.int .u8 ((UInt8.ofNat r).toNat : Int))
        rw [u8s_set, show ((UInt8.ofNat r).toNat : Int) = r from by rw [UInt8.toNat_ofNat']; omega] at hs'
        exact ⟨r + 1, by omega, by go_num, hs', hB.trans (below_setCell (Nat.le_refl _))⟩
      case measure => simp [intOf]; omega
    · obtain rfl : r = 32 := by omega
      have H22 := info22 (keyN 32) (by simp)
      generalize keyN 32 = K at hc1 hs H22 ⊢
      simp only [show ((32 : Nat) : Int) = 32 from rfl]
      go_wp2_with first
        | (refine wpList_load_mid rfl 22 (.tmp 3) rfl w.heap.size 0 rfl (u8s K) _ hs.range Try.underlying22 rfl H22 ?_)
        | (go_at_call 7; refine (hc1 _).mono ?_; rintro e w1 ⟨rfl, hB1⟩; have hB2 := hB.trans (hB1.mono hB.size); clear hB1)
        | (refine wpList_new rfl 25 (.tmp 5) (.tmp 18) rfl _ (u8s b) rfl rfl rfl (by simp only [u8s_length, hlb]; rfl) (info25 b hlb) (u8s_oneCell b) ?_; intro w3 h7 hG3)
      obtain ⟨i, hi16, he⟩ : ∃ i : Nat, i < 16 ∧ wrap64 ((IntKind.u64.wrap z).tmod 16) = i := by
        have e1 : (IntKind.u64.wrap z).tmod 16 = (((z % 18446744073709551616) % 16).toNat : Nat) := by
          rw [IntKind.wrap_u64, Int.tmod_eq_emod_of_nonneg (by omega)]; omega
        refine ⟨((z % 18446744073709551616) % 16).toNat, by omega, ?_⟩
        rw [e1]
        exact IntWalk.wrap64_in _ (by omega)
      simp only [he]
      have hw6 : Arr (w3.alloc (.cells (u8s wantK).toArray 5)) w3.heap.size 5 (u8s wantK) := Arr.newAt rfl rfl
      have h7 := h7.alloc (.cells (u8s wantK).toArray 5)
      have hB3 : Below w.heap.size w (w3.alloc (.cells (u8s wantK).toArray 5)) := (hB2.trans (hG3.mono hB2.size)).alloc (by have := hB2.size; have := hG3.size; omega) _
      have hlit : (u8s wantK).toArray = #[.int .u8 16, .int .u8 241, .int .u8 231, .int .u8 228, .int .u8 209, .int .u8 59, .int .u8 89, .int .u8 21, .int .u8 80, .int .u8 15, .int .u8 221, .int .u8 31, .int .u8 163, .int .u8 32, .int .u8 113, .int .u8 196] := by kernel_rfl
      simp only [← hlit]
      clear hlit hs H22 hB2 hG3 hc1
      generalize w3.alloc _ = W0 at hw6 h7 hB3 ⊢
      generalize w3.heap.size = g6 at hw6 ⊢
      generalize w1.heap.size = g5 at h7 ⊢
      obtain ⟨y, hy⟩ : ∃ y, wantK[i]? = some y := ⟨_, List.getElem?_eq_getElem (by exact hi16)⟩
      have hby := (hbw i hi16).trans hy
      refine wp_region_ssaL (by kernel_rfl) [IsV (.bool true), IsV (.bool true), IsV (.int .i64 (i : Nat)), IsV (.pointer (some ⟨g5, i, none⟩)), IsV (.int .u8 (y.toNat : Nat)), IsV (.slice (some ⟨g6, 0, none⟩) 16 16), IsV (.int .i64 (i : Nat)), IsV (.pointer (some ⟨g6, i, none⟩)), IsV (.int .u8 (y.toNat : Nat)), IsV (.bool true), IsV (.bool true), IsV (.bool true)] (by kernel_rfl) ?_ ?_ ?_
      · intro φ hφ v w1 w2 h hg
        simp only [List.mem_cons, List.not_mem_nil, or_false] at hφ
        rcases hφ with rfl | rfl | rfl | rfl | rfl | rfl | rfl | rfl | rfl | rfl | rfl | rfl
        all_goals first | exact h | exact RdV.gr h hg
      · refine ⟨?_, ?_, ?_, ?_, ?_, ?_, ?_, ?_, ?_, ?_, ?_, ?_, trivial⟩
        · intro a1 w1 hG hF
          exact s_call rfl (wants0 rfl) _ rfl _ _ (by simp only [execOp, resolve, invoke, List.map_toArray, List.map_nil]; go_simp) ((streams_any w1).mono fun e w2 ⟨he, hb⟩ => ⟨_, he, rfl, hb⟩)
        · intro a1 w1 hG hF
          exact s_same rfl (wants0 rfl) (.tmp 24) (.inr rfl) (hF.dp 0 24 (by kernel_rfl))
        · intro a1 w1 hG hF
          exact s_old rfl (wantsG hF 1 25 true rfl (by kernel_rfl) rfl) (.tmp 7) (.inr rfl) (.int .i64 (i : Nat)) (hF.ol 7 (by kernel_rfl)) rfl
        · intro a1 w1 hG hF
          have e5 : a1.eval (.tmp 5) = .pointer (some ⟨g5, 0, none⟩) := hF.ol 5 (by kernel_rfl)
          obtain ⟨_, e26, rfl⟩ := hF.dp 2 26 (by kernel_rfl)
          exact s_is rfl (wantsG hF 1 25 true rfl (by kernel_rfl) rfl) _ rfl (run_idx Try.underlying25 (by kernel_rfl) e5 e26 (by omega))
        · intro a1 w1 hG hF
          obtain ⟨_, e27, rfl⟩ := hF.dp 3 27 (by kernel_rfl)
          exact s_is rfl (wantsG hF 1 25 true rfl (by kernel_rfl) rfl) _ rfl (run_load1 Try.underlying5 e27 ((h7.gr ((Gr.drew W0).trans hG)).cell (u8s_at hby)))
        · intro a1 w1 hG hF
          exact s_old rfl (wantsG hF 1 25 true rfl (by kernel_rfl) rfl) (.tmp 6) (.inr rfl) (.slice (some ⟨g6, 0, none⟩) 16 16) (hF.ol 6 (by kernel_rfl)) rfl
        · intro a1 w1 hG hF
          exact s_old rfl (wantsG hF 1 25 true rfl (by kernel_rfl) rfl) (.tmp 7) (.inr rfl) (.int .i64 (i : Nat)) (hF.ol 7 (by kernel_rfl)) rfl
        · intro a1 w1 hG hF
          obtain ⟨_, e29, rfl⟩ := hF.dp 5 29 (by kernel_rfl)
          obtain ⟨_, e30, rfl⟩ := hF.dp 6 30 (by kernel_rfl)
          exact s_is rfl (wantsG hF 1 25 true rfl (by kernel_rfl) rfl) _ rfl (run_idxS Try.underlying28 (by kernel_rfl) e29 e30 (by omega))
        · intro a1 w1 hG hF
          obtain ⟨_, e31, rfl⟩ := hF.dp 7 31 (by kernel_rfl)
          exact s_is rfl (wantsG hF 1 25 true rfl (by kernel_rfl) rfl) _ rfl (run_load1 Try.underlying5 e31 ((hw6.gr ((Gr.drew W0).trans hG)).cell (u8s_at hy)))
        · intro a1 w1 hG hF
          obtain ⟨_, e28, rfl⟩ := hF.dp 4 28 (by kernel_rfl)
          obtain ⟨_, e32, rfl⟩ := hF.dp 8 32 (by kernel_rfl)
          exact s_is rfl (wantsG hF 1 25 true rfl (by kernel_rfl) rfl) _ rfl (by simp only [execOp, e28, e32]; go_simp)
        · intro a1 w1 hG hF
          obtain ⟨_, e25, rfl⟩ := hF.dp 1 25 (by kernel_rfl)
          obtain ⟨_, e33, rfl⟩ := hF.dp 9 33 (by kernel_rfl)
          exact s_pick rfl (wants0 rfl) (.tmp 25) (.tmp 33) _ rfl e25 _ e33 rfl
        · intro a1 w1 hG hF
          exact s_same rfl (wants0 rfl) (.tmp 34) (.inl rfl) (hF.dp 10 34 (by kernel_rfl))
      · intro vs w1 hG hf
        have z2 : vs 11 = .bool true := hf.2.2.2.2.2.2.2.2.2.2.2.1
        clear hf
        simp only [putAll, Nat.zero_add, Nat.reduceAdd, z2]
        clear z2
        go_simp
        go_wp2_with fail
        go_ret
        exact ⟨rfl, hB3.trans (((Gr.drew W0).trans hG).mono hB3.size)⟩
end Go.Proofs.Ytnjnhnhbeoegaaa

