/- The walk of chacha.Stream. No condition. -/
import Derived.Test.YthffodfnnjejnaaBlocks05
import Derived.Test.YthffodfnnjejnaaKitA
namespace Go.Proofs.Ythffodfnnjejnaa
open Go.RowKit
def streamAt (K : List UInt8) (c : UInt32) (N b : List UInt8) : Nat → List UInt8
  | 0 => []
  | k + 1 => streamAt K c N b k ++ mixL (blockL K (c + UInt32.ofNat k) N) (b.drop (64 * k))
def streamL (K : List UInt8) (c : UInt32) (N b : List UInt8) : List UInt8 := streamAt K c N b ((b.length + 63) / 64)
theorem mixL_length (a b : List UInt8) : (mixL a b).length = min a.length b.length := by simp [mixL]
theorem streamAt_length (K : List UInt8) (c : UInt32) (N b : List UInt8) (k : Nat) : (streamAt K c N b k).length = min (64 * k) b.length := by
  induction k with
  | zero => simp [streamAt]
  | succ k ih => rw [streamAt, List.length_append, ih, mixL_length, blockL_length, List.length_drop]; omega
theorem streamL_length (K : List UInt8) (c : UInt32) (N b : List UInt8) : (streamL K c N b).length = b.length := by
  rw [streamL, streamAt_length]; omega
theorem run_cutRd {P : Program} {T e : TypeId} (hT : P.underlying T = some (.slice e)) (hsz : (P.info? e).map (·.size) = some 1) {A : Option Addr} {n c r : Nat} (h1 : 64 * r ≤ n) (w : World) :
    (Instr.sliceAt T (.slice A n c) (some (.int .i64 (64 * (r : Int)))) none none).run P w = .ok (.slice (if c = 64 * r then A else A.map (·.add (64 * r))) (n - 64 * r) (c - 64 * r)) w := by
  have e1 : P.elem T = e := by simp [Program.elem, hT]
  rw [run_sliceAt_slice w T _ _ _ _ (by rw [e1]; exact hT), run_slice_l w T _ _ _ (by rw [e1]; exact hT) _ _ (by omega) (by omega), e1]
  simp only [run_size1 hsz, Result.andThen_ok, sliced, Nat.mul_one]
  have e2 : (64 * (r : Int)).toNat = 64 * r := by omega
  rw [e2]
theorem own_base {w : World} {b b' : Nat} {e : TypeId} {size n : Nat} {v : Value} {xs : List Value} (h : w.ownsRow b e size v n xs) (hb : b' ≤ b) : w.ownsRow b' e size v n xs :=
  ⟨h.1, h.2.imp id fun ⟨g, cap, cur, h1, h2, h3⟩ => ⟨g, cap, cur, h1, Nat.le_trans hb h2, h3⟩⟩
set_option maxHeartbeats 4000000 in
theorem stream_any (K : List UInt8) (hK : K.length = 32) (c0 : UInt32) (N : List UInt8) (hN : N.length = 12) (A : Option Addr) (n c : Nat) (b : List UInt8) (hn : n ≤ 1000000) (hnc : n ≤ c) (w : World) (hr : Rd w A n (u8s b)) :
    Calls Try.prog 13 #[.agg (u8s K).toArray, .int .u32 c0.toNat, .agg (u8s N).toArray, .slice A n c] w fun e w' => ∃ v, e = .returned v ∧
      w'.ownsRow w.heap.size 5 1 v n (u8s (streamL K c0 N b)) ∧ Below w.heap.size w w' := by
  have hl : b.length = n := by simpa using hr.1
  obtain ⟨i0, hi0, hz0, hz1, hz2⟩ := info_parts Try.info5
  go_enter Try.func13, Try.ntmps13
  go_wp2_with fail
  have h4 : Arr ((w.alloc (.cells (u8s K).toArray 22)).alloc (.cells (u8s N).toArray 23)) w.heap.size 22 (u8s K) := (Arr.newAt rfl rfl).alloc _
  have h6 : Arr ((w.alloc (.cells (u8s K).toArray 22)).alloc (.cells (u8s N).toArray 23)) (w.heap.size + 1) 23 (u8s N) := Arr.newAt (asz _ _) rfl
  have hb : Below w.heap.size w ((w.alloc (.cells (u8s K).toArray 22)).alloc (.cells (u8s N).toArray 23)) := ((Below.refl _ _).alloc (Nat.le_refl _) _).alloc (by rw [asz]; omega) _
  have hzW : ((w.alloc (.cells (u8s K).toArray 22)).alloc (.cells (u8s N).toArray 23)).heap.size = w.heap.size + 2 := by simp only [asz]
  have hrW := hr.below hb
  generalize ((w.alloc (.cells (u8s K).toArray 22)).alloc (.cells (u8s N).toArray 23)) = W at h4 h6 hb hzW hrW ⊢
  obtain ⟨B, hB⟩ : ∃ B, B = w.heap.size + 2 := ⟨_, rfl⟩
  rw [← hB] at hzW
  have l4 : w.heap.size < B := by omega
  have l6 : w.heap.size + 1 < B := by omega
  clear hr hB
  go_loopw [1, 9, 10] (fun cv v i wr => ∃ r : Nat, 64 * r ≤ n + 63 ∧ i = .int .i64 (64 * (r : Int)) ∧ cv = .int .u32 ((c0 + UInt32.ofNat r).toNat : Int) ∧ wr.ownsRow B 5 1 v (min (64 * r) n) (u8s (streamAt K c0 N b r)) ∧ Below B W wr) (fun _ _ i _ => n + 63 - (intOf i).toNat)
  case atStart => exact ⟨0, by omega, rfl, by simp, by simpa [streamAt] using World.ownsRow_nil _ _ _ _, Below.refl _ _⟩
  case round =>
    obtain ⟨r, hr64, rfl, rfl, hown, hbw⟩ := hrel
    by_cases hlt : 64 * r < n
    · rw [show min (64 * r) n = 64 * r by omega] at hown
      have h4 := h4.below hbw l4
      have h6 := h6.below hbw l6
      have hrd := hrW.below (hzW ▸ hbw)
      obtain ⟨x, hx⟩ : ∃ x, x = c0 + UInt32.ofNat r := ⟨_, rfl⟩
      obtain ⟨k, hk⟩ : ∃ k, k = blockL K x N := ⟨_, rfl⟩
      have hlk : k.length = 64 := by rw [hk]; simp
      have hc1 := fun w => block_any K hK x N hN w
      rw [← hk] at hc1
      rw [← hx]
      have HX := Lib.hid hx
      have HK := Lib.hid hk
      clear hx hk
      go_wp2_with first
        | (refine wpList_load_mid rfl 22 (.tmp 4) rfl w.heap.size 0 rfl (u8s K) _ h4.range Try.underlying22 rfl (info22 K hK) ?_)
        | (refine wpList_load_mid rfl 23 (.tmp 6) rfl (w.heap.size + 1) 0 rfl (u8s N) _ h6.range Try.underlying23 rfl (info24 N hN) ?_)
        | (go_at_call 18; refine (hc1 _).mono ?_; rintro e w1 ⟨rfl, hB1⟩)
        | (refine wpList_new rfl 47 (.tmp 11) (.tmp 21) rfl _ (u8s k) rfl rfl rfl (by simp only [u8s_length, hlk]; rfl) (info25 k hlk) (u8s_oneCell k) ?_; intro w3 h11 hG3)
      have hG := Gr.trans hB1 hG3
      have hown0 := Gr.own hG hown
      have hrd0 := hG.rd hrd
      have hbw0 : Below B W w3 := hbw.trans (hG.mono (by have := hbw.size; omega))
      have hn64 : 64 * r ≤ n := by omega
      have hrc := hrd0.cut (k := 64 * r) (cap := c) hn64 hnc
      rw [u8s_drop] at hrc
      have hr11 := h11.rdAll hlk
      have hST : Hid (u8s (streamAt K c0 N b (r + 1)) = u8s (streamAt K c0 N b r) ++ u8s (mixL k (b.drop (64 * r)))) := by show _ = _; rw [HK.out, HX.out, ← u8s_append]; rfl
      have hXN : Hid (((x.toNat : Int) + 1) % 4294967296 = ((c0 + UInt32.ofNat (r + 1)).toNat : Int)) := by
        show _ = _
        rw [HX.out, UInt32.toNat_add, UInt32.toNat_add, UInt32.toNat_ofNat', UInt32.toNat_ofNat']
        omega
      clear hB1 hG3 hG hrd hown hbw hrd0
      generalize w1.heap.size = g11 at h11 hr11 ⊢
      generalize w3 = W0 at h11 hr11 hown0 hrc hbw0 ⊢
      go_simp
      refine wp_region_append (by kernel_rfl) [IsV (u9), IsV (.slice (some ⟨g11, 0, none⟩) 64 64), IsV (.slice A n c), IsV (.int .i64 (64 * (r : Int))), IsV (.slice (if c = 64 * r then A else A.map (·.add (64 * r))) (n - 64 * r) (c - 64 * r)), RdV (min 64 (n - 64 * r)) (mixL k (b.drop (64 * r)))] 6 _ _ 28 9 rfl rfl rfl rfl rfl rfl (.inl rfl) (by kernel_rfl) (by kernel_rfl) (by kernel_rfl) (.tmp 22) (.tmp 27) 26 rfl rfl B 5 i0 (.int .u8 0) 1 Try.underlying26 hi0 hz0 hz1 hz2 rfl u9 (64 * r) _ hown0 (by have := hbw0.size; omega) (min 64 (n - 64 * r)) (u8s (mixL k (b.drop (64 * r)))) (u8s_oneCell _) (by omega) (by unfold maxLen; omega) ?_ ?_ ?_ ?_
      · intro φ hφ v w1 w2 h hg
        simp only [List.mem_cons, List.not_mem_nil, or_false] at hφ
        rcases hφ with rfl | rfl | rfl | rfl | rfl | rfl
        all_goals first | exact h | exact RdV.gr h hg
      · refine ⟨?_, ?_, ?_, ?_, ?_, ?_, trivial⟩
        · intro a1 w1 hG hF
          exact s_old rfl (wants0 rfl) (.tmp 9) (.inr rfl) (u9) (hF.ol 9 (by kernel_rfl)) rfl
        · intro a1 w1 hG hF
          have e11 : a1.eval (.tmp 11) = .pointer (some ⟨g11, 0, none⟩) := hF.ol 11 (by kernel_rfl)
          exact s_is rfl (wants0 rfl) _ rfl (by simp only [execOp, e11, Option.map, Sem.run_bind, run_cutAll (P := Try.prog) Try.underlying47 (by kernel_rfl), Result.andThen_ok, Sem.run_pure])
        · intro a1 w1 hG hF
          exact s_old rfl (wants0 rfl) (.tmp 3) (.inr rfl) (.slice A n c) (hF.ol 3 (by kernel_rfl)) rfl
        · intro a1 w1 hG hF
          exact s_old rfl (wants0 rfl) (.tmp 10) (.inr rfl) (.int .i64 (64 * (r : Int))) (hF.ol 10 (by kernel_rfl)) rfl
        · intro a1 w1 hG hF
          obtain ⟨_, e24, rfl⟩ := hF.dp 2 24 (by kernel_rfl)
          obtain ⟨_, e25, rfl⟩ := hF.dp 3 25 (by kernel_rfl)
          exact s_is rfl (wants0 rfl) _ rfl (by simp only [execOp, e24, e25, Option.map, Sem.run_bind, run_cutRd (P := Try.prog) Try.underlying26 (by kernel_rfl) hn64, Result.andThen_ok, Sem.run_pure])
        · intro a1 w1 hG hF
          obtain ⟨_, e23, rfl⟩ := hF.dp 1 23 (by kernel_rfl)
          obtain ⟨_, e26, rfl⟩ := hF.dp 4 26 (by kernel_rfl)
          exact s_call rfl (wants0 rfl) _ rfl _ _ (by simp only [execOp, resolve, invoke, List.map_toArray, List.map_cons, List.map_nil, e23, e26]; go_simp) ((mix_any _ _ _ 64 _ (c - 64 * r) _ _ (by omega) w1 (Gr.rd ((Gr.drew W0).trans hG) hr11) (Gr.rd ((Gr.drew W0).trans hG) hrc)).mono fun e w2 ⟨v, he, ho, hb⟩ => ⟨_, he, RdV.own ho, hb⟩)
      · intro a1 w1 hG hF
        obtain ⟨_, e22, rfl⟩ := hF.dp 0 22 (by kernel_rfl)
        obtain ⟨_, e27, A27, c27, rfl, hc27, r27⟩ := hF.dp 5 27 (by kernel_rfl)
        exact ⟨e22, _, _, e27, r27⟩
      · intro vs v9 w1 hO9 hB9
        simp only [List.take_succ_cons, List.take_zero, putAll, Nat.zero_add, Nat.reduceAdd]
        clear hown0 hrc hr11 h11
        go_simp
        go_wp2_with fail
        go_roundw
        case rel =>
          refine ⟨r + 1, by omega, by go_num, by rw [hXN.out], ?_, hbw0.trans hB9⟩
          rw [hST.out, show min (64 * (r + 1)) n = 64 * r + min 64 (n - 64 * r) by omega]
          exact hO9
        case measure => simp [intOf]; omega
    · have hfin : streamAt K c0 N b r = streamL K c0 N b := by
        rw [streamL]; congr 1; omega
      rw [hfin, show min (64 * r) n = n by omega] at hown
      go_wp2_with fail
      go_ret
      exact ⟨_, rfl, own_base hown (by omega), hb.trans (hbw.mono (by omega))⟩
end Go.Proofs.Ythffodfnnjejnaa

