/- The helper tags() is true. No condition. -/
import Derived.Lib.SlBytesConst
import Derived.Test.YtacodfeflmbheaaPolTag
namespace Go.Proofs.Ytacodfeflmbheaa
open Go.RowKit
theorem Arr.rdAll {w : World} {g : Nat} {t : TypeId} {l : List UInt8} (h : Arr w g t (u8s l)) {n : Nat} (hn : l.length = n) : Rd w (some ⟨g, 0, none⟩) n (u8s l) := by
  subst hn
  have := h.rd 0 l.length (by simp)
  rwa [List.drop_zero, List.take_of_length_le (by simp)] at this
theorem u8s_set (l : List UInt8) (i : Nat) (x : UInt8) : (u8s l).set i (.int .u8 (x.toNat : Int)) = u8s (l.set i x) := by simp [u8s, List.map_set]
theorem u8s_at {l : List UInt8} {i : Nat} {x : UInt8} (h : l[i]? = some x) : (u8s l)[i]? = some (.int .u8 (x.toNat : Int)) := by simp [u8s, h]
theorem rd_marked (w : World) (C : Array Value) (e : TypeId) (fr : Nat × Nat) (n : Nat) (l : List UInt8) (hC : C.toList = u8s l) (hn : l.length = n) : Rd (w.alloc (.cells C e fr)) (some ⟨w.heap.size, 0, none⟩) n (u8s l) := by
  have hs : C.size = n := by rw [← Array.length_toList, hC, u8s_length, hn]
  have hg : (w.alloc (.cells C e fr)).heap[w.heap.size]? = some (.cells C e fr) := by
    show (w.heap.push (.cells C e fr))[w.heap.size]? = _
    simp
  have := Rd.of_row hg 0 n (by omega)
  rwa [hC, List.drop_zero, List.take_of_length_le (by simp [hn])] at this
def keyT : Nat → List UInt8
  | 0 => List.replicate 32 0
  | k + 1 => (keyT k).set (16 + k) (UInt8.ofNat (16 + k))
@[simp] theorem keyT_length (k : Nat) : (keyT k).length = 32 := by
  induction k with
  | zero => rfl
  | succ k ih => rw [keyT, List.length_set, ih]
def abc : List UInt8 := [97, 98, 99]
set_option maxRecDepth 10000 in
theorem tagT_is : tagL (keyT 16) abc = (keyT 16).drop 16 := by decide +kernel
set_option maxRecDepth 100000 in
set_option maxHeartbeats 4000000 in
theorem tags_any (w : World) : Calls Try.prog 10 #[] w fun e w' => e = .returned (.bool true) ∧ Below w.heap.size w w' := by
  have hc1 := fun w A c hnc hr => polyTag_any (keyT 16) (by simp) A 3 c abc hnc w hr
  rw [tagT_is] at hc1
  go_enter Try.func10, Try.ntmps10
  go_wp2_with fail
  generalize hW : w.alloc _ = W
  have hs : Arr W w.heap.size 22 (u8s (keyT 0)) := by rw [← hW]; exact Arr.newAt rfl (by kernel_rfl)
  have hB : Below w.heap.size w W := by rw [← hW]; exact (Below.refl _ _).alloc (Nat.le_refl _) _
  clear hW
  go_loopw [2] (fun i wr => ∃ r : Nat, r ≤ 16 ∧ i = .int .i64 ((16 + r : Nat) : Int) ∧ Arr wr w.heap.size 22 (u8s (keyT r)) ∧ Below w.heap.size w wr) (fun i _ => 32 - (intOf i).toNat)
  case atStart => exact ⟨0, by omega, rfl, hs, hB⟩
  case round =>
    obtain ⟨r, hr8, rfl, hs, hB⟩ := hrel
    obtain ⟨q, hq⟩ : ∃ q, q = 16 + r := ⟨_, rfl⟩
    rw [← hq]
    by_cases hlt : r < 16
    · have hq32 : q < 32 := by omega
      have c1 := hs.cell (i := q) (v := _) (u8s_at (List.getElem?_eq_getElem (by simp; omega)))
      have f1 := hs.frozen q
      have e1 : (q : Int) % 256 = ((UInt8.ofNat q).toNat : Int) := by rw [UInt8.toNat_ofNat']; omega
      have HQ := Lib.hid hq
      clear hq
      go_wp2_with fail
      go_roundw
      case rel =>
        have hs' := hs.set q (.int .u8 ((UInt8.ofNat q).toNat : Int))
        rw [u8s_set, show ((UInt8.ofNat q).toNat : Int) = q from by rw [UInt8.toNat_ofNat']; omega] at hs'
        refine ⟨r + 1, by omega, ?_, ?_, hB.trans (below_setCell (Nat.le_refl _))⟩
        · rw [HQ.out]; congr 1
        · rw [keyT, ← HQ.out]; exact hs'
      case measure => simp [intOf]; omega
    · obtain rfl : r = 16 := by omega
      subst hq
      have hlK : (keyT 16).length = 32 := by simp
      have H22 := info22 (keyT 16) hlK
      have hlD : ((keyT 16).drop 16).length = 16 := by simp
      have H16 := info16 _ hlD
      generalize keyT 16 = K at hc1 hs H22 hlK hlD H16 ⊢
      simp only [show ((16 + 16 : Nat) : Int) = 32 from rfl]
      have hcv := Lib.run_convert_bytes_const (P := Try.prog) wr 23 5 #[.int .u8 97, .int .u8 98, .int .u8 99] 3 3 Try.underlying23 Try.underlying5
      go_wp2_with first
        | (refine wpList_load_mid rfl 22 (.tmp 1) rfl w.heap.size 0 rfl (u8s K) _ hs.range Try.underlying22 rfl H22 ?_)
        | (go_at_call 9; refine (hc1 _ _ _ (by omega) (rd_marked _ _ _ _ 3 abc rfl rfl)).mono ?_; rintro e w1 ⟨rfl, hB1⟩; have hB2 := (hB.alloc hB.size _).trans (hB1.mono (by have := hB.size; simp only [asz]; omega)); have hs2 := Arr.below (hs.alloc _) hB1 (by have := hs.lt; simp only [asz]; omega); clear hB1)
        | (refine wpList_new rfl 24 (.tmp 3) (.tmp 15) rfl _ (u8s (K.drop 16)) rfl rfl rfl (by simp only [u8s_length, hlD]; rfl) H16 (u8s_oneCell _) ?_; intro w3 h7 hG3)
      have hs3 := hs2.gr hG3
      have hB3 := hB2.trans (hG3.mono hB2.size)
      clear hs2 hB2 hG3 hcv hc1 hs hB
      generalize w1.heap.size = g3 at h7 ⊢
      generalize w3 = W0 at hs3 h7 hB3 ⊢
      have hr3 := h7.rdAll hlD
      have hr1 := hs3.rd 16 16 (by simp [hlK])
      rw [u8s_drop, u8s_take, List.take_of_length_le (by simp [hlK])] at hr1
      go_simp
      refine wp_region_ssaL (by kernel_rfl) [IsV (.slice (some ⟨g3, 0, none⟩) 16 16), IsV (.string ⟨(K.drop 16).toArray⟩), IsV (.slice (some ⟨w.heap.size, 16, none⟩) 16 16), IsV (.string ⟨(K.drop 16).toArray⟩), IsV (.bool true), IsV (.bool true)] (by kernel_rfl) ?_ ?_ ?_
      · intro φ hφ v w1 w2 h hg
        simp only [List.mem_cons, List.not_mem_nil, or_false] at hφ
        rcases hφ with rfl | rfl | rfl | rfl | rfl | rfl
        all_goals first | exact h | exact RdV.gr h hg
      · refine ⟨?_, ?_, ?_, ?_, ?_, ?_, trivial⟩
        · intro a1 w1 hG hF
          have e3 : a1.eval (.tmp 3) = .pointer (some ⟨g3, 0, none⟩) := hF.ol 3 (by kernel_rfl)
          exact s_is rfl (wants0 rfl) _ rfl (by simp only [execOp, e3, Option.map, Sem.run_bind, run_cutAll (P := Try.prog) Try.underlying24 (by kernel_rfl), Result.andThen_ok, Sem.run_pure])
        · intro a1 w1 hG hF
          obtain ⟨_, e16, rfl⟩ := hF.dp 0 16 (by kernel_rfl)
          exact s_str rfl (wants0 rfl) _ _ _ (.tmp 16) rfl Try.underlying23 Try.underlying5 Try.underlying9 _ _ _ _ e16 (Gr.rd ((Gr.drew W0).trans hG) hr3) rfl
        · intro a1 w1 hG hF
          have e1 : a1.eval (.tmp 1) = .pointer (some ⟨w.heap.size, 0, none⟩) := hF.ol 1 (by kernel_rfl)
          exact s_is rfl (wants0 rfl) _ rfl (by simp only [execOp, e1, show a1.eval (.const (.int .i64 16)) = .int .i64 16 from rfl, Option.map, Sem.run_bind, run_cutA_l (P := Try.prog) Try.underlying22 (by kernel_rfl) w.heap.size 16 (by omega) 16 rfl, Result.andThen_ok, Sem.run_pure])
        · intro a1 w1 hG hF
          obtain ⟨_, e18, rfl⟩ := hF.dp 2 18 (by kernel_rfl)
          exact s_str rfl (wants0 rfl) _ _ _ (.tmp 18) rfl Try.underlying23 Try.underlying5 Try.underlying9 _ _ _ _ e18 (Gr.rd ((Gr.drew W0).trans hG) hr1) rfl
        · intro a1 w1 hG hF
          obtain ⟨_, e17, rfl⟩ := hF.dp 1 17 (by kernel_rfl)
          obtain ⟨_, e19, rfl⟩ := hF.dp 3 19 (by kernel_rfl)
          exact s_is rfl (wants0 rfl) _ rfl (by simp only [execOp, e17, e19]; go_simp)
        · intro a1 w1 hG hF
          exact s_same rfl (wants0 rfl) (.tmp 20) (.inl rfl) (hF.dp 4 20 (by kernel_rfl))
      · intro vs w1 hG hf
        have z0 : vs 5 = .bool true := hf.2.2.2.2.2.1
        clear hf
        simp only [putAll, Nat.zero_add, Nat.reduceAdd, z0]
        clear z0
        go_simp
        go_wp2_with fail
        go_ret
        exact ⟨rfl, hB3.trans (((Gr.drew W0).trans hG).mono hB3.size)⟩
end Go.Proofs.Ytacodfeflmbheaa

