/- The walks of aead's Seal and of its reference's. No condition. -/
import Derived.Test.YthffodfnnjejnaaRTag
namespace Go.Proofs.Ythffodfnnjejnaa
open Go.RowKit
set_option maxRecDepth 100000 in
set_option maxHeartbeats 4000000 in
theorem seal_any (K : List UInt8) (hK : K.length = 32) (N : List UInt8) (hN : N.length = 12) (A : Option Addr) (n c : Nat) (W : List UInt8) (B : Option Addr) (m d : Nat) (b : List UInt8) (hn : n ≤ 90000) (hm : m ≤ 90000) (hmd : m ≤ d) (w : World) (hr : Rd w A n (u8s W)) (hb : Rd w B m (u8s b)) :
    Calls Try.prog 8 #[.agg (u8s K).toArray, .agg (u8s N).toArray, .slice A n c, .slice B m d] w fun e w' => ∃ v, e = .returned v ∧ w'.ownsRow w.heap.size 5 1 v (m + 16) (u8s (sealL K N W b)) ∧ Below w.heap.size w w' := by
  obtain ⟨i0, hi0, hz0, hz1, hz2⟩ := info_parts Try.info5
  have hbl : b.length = m := by simpa using hb.1
  obtain ⟨C, hC⟩ : ∃ C, C = hideL K N b := ⟨_, rfl⟩
  have hCl : C.length = m := by rw [hC, hideL_length, hbl]
  have HS : Hid (∀ w, Rd w B m (u8s b) → Calls Try.prog 13 #[.agg (u8s K).toArray, .int .u32 1, .agg (u8s N).toArray, .slice B m d] w fun e w' => ∃ v, e = .returned v ∧ w'.ownsRow w.heap.size 5 1 v m (u8s C) ∧ Below w.heap.size w w') := by
    intro w hb
    rw [hC]
    exact stream_any K hK 1 N hN B m d b (by omega) hmd w hb
  obtain ⟨T, hT⟩ : ∃ T, T = aTag K N W C := ⟨_, rfl⟩
  have hTl : T.length = 16 := by rw [hT]; simp
  have HT : Hid (∀ w B d, Rd w A n (u8s W) → Rd w B m (u8s C) → Calls Try.prog 14 #[.agg (u8s K).toArray, .agg (u8s N).toArray, .slice A n c, .slice B m d] w fun e w' => e = .returned (.agg (u8s T).toArray) ∧ Below w.heap.size w w') := by
    intro w B d hr hb
    rw [hT]
    exact aTag_any K hK N hN A n c W B m d C (by omega) (by omega) w hr hb
  have HE : Hid (u8s C ++ u8s T = u8s (sealL K N W b)) := by
    show _ = _
    rw [sealL, ← hC, ← hT, u8s_append]
  clear hT hC
  have iK := info22 K hK
  have iN := info24 N hN
  have h4 : Arr ((w.alloc (.cells (u8s K).toArray 22)).alloc (.cells (u8s N).toArray 23)) w.heap.size 22 (u8s K) := Arr.alloc (Arr.newAt rfl rfl) _
  have h5 : Arr ((w.alloc (.cells (u8s K).toArray 22)).alloc (.cells (u8s N).toArray 23)) (w.heap.size + 1) 23 (u8s N) := Arr.newAt (asz _ _) rfl
  have G0 : Gr w ((w.alloc (.cells (u8s K).toArray 22)).alloc (.cells (u8s N).toArray 23)) := (Gr.alloc _ _).trans (Gr.alloc _ _)
  go_enter Try.func8, Try.ntmps8
  go_upto_region 1 with fail
  generalize (w.alloc (.cells (u8s K).toArray 22)).alloc (.cells (u8s N).toArray 23) = w0 at h4 h5 G0 ⊢
  generalize w.heap.size + 1 = g5 at h5 ⊢
  obtain ⟨g4, hg4⟩ : ∃ g, g = w.heap.size := ⟨_, rfl⟩
  rw [← hg4] at h4
  simp only [← hg4]
  have HG4 := Lib.hid hg4
  clear hg4
  have hr0 := G0.rd hr
  have hb0 := G0.rd hb
  go_wp2_with first
    | (refine wpList_load_mid rfl 22 (.tmp 4) rfl g4 0 rfl (u8s K) _ h4.range Try.underlying22 rfl iK ?_)
    | (refine wpList_load_mid rfl 23 (.tmp 5) rfl g5 0 rfl (u8s N) _ h5.range Try.underlying23 rfl iN ?_)
  refine (HS.out w0 hb0).mono ?_
  rintro e w1 ⟨v1, rfl, ho1, hB1⟩
  obtain ⟨A1, c1, rfl, hc1, _, hr1⟩ := own_form3 ho1
  have h41 := h4.gr hB1
  have h51 := h5.gr hB1
  have hr01 : Rd w1 A n (u8s W) := hr0.below hB1
  have hs1 := hB1.size
  clear h4 h5 hr0 hb0
  go_wp2_with first
    | (refine wpList_load_mid rfl 22 (.tmp 4) rfl g4 0 rfl (u8s K) _ h41.range Try.underlying22 rfl iK ?_)
    | (refine wpList_load_mid rfl 23 (.tmp 5) rfl g5 0 rfl (u8s N) _ h51.range Try.underlying23 rfl iN ?_)
  refine (HT.out w1 A1 c1 hr01 hr1).mono ?_
  rintro e w2 ⟨rfl, hB2⟩
  clear h41 h51 hr01 hr1
  go_upto_region 3 with (refine wpList_new rfl 38 (.tmp 10) (.tmp 19) rfl _ (u8s T) rfl rfl rfl (by simp only [u8s_length, hTl]; rfl) (info16 T hTl) (u8s_oneCell _) ?_; intro w3 h10 hG3)
  have G3 : Gr w1 w3 := Gr.trans hB2 hG3
  have ho3 := Gr.own G3 ho1
  have hB3 : Below w0.heap.size w0 w3 := hB1.trans (Below.mono G3 hs1)
  generalize w2.heap.size = g10 at h10 ⊢
  have hr10 := h10.rdAll hTl
  have hcut := fun w => run_cutAll (P := Try.prog) Try.underlying38 (by kernel_rfl) g10 w
  clear hB2 hG3 G3 ho1 hB1 h10 HT HS
  go_wp2_with (at_builtin; go_must (refine wpList_app _ rfl (.tmp 20) (.tmp 21) 26 rfl w0.heap.size 5 i0 (.int .u8 0) 1 Try.underlying26 hi0 hz0 hz1 hz2 rfl (.slice A1 m c1) m _ rfl ho3 (some ⟨g10, 0, none⟩) 16 16 _ rfl hr10 (u8s_oneCell _) (by omega) (by unfold maxLen; omega) hB3.size ?_))
  intro v4 w4 hA4
  have ho4 := hA4.own
  have hB4 := hB3.trans (hA4.below ho3 hB3.size)
  have hB5 : Below w.heap.size w w4 := Below.trans G0 (Below.mono hB4 G0.size)
  rw [HE.out] at ho4
  clear hA4 hcut
  go_simp
  go_wp2_with fail
  go_ret
  rw [HG4.out] at *
  exact ⟨_, rfl, own_base ho4 G0.size, hB5⟩
set_option maxRecDepth 100000 in
set_option maxHeartbeats 4000000 in
theorem rSeal_any (K : List UInt8) (hK : K.length = 32) (N : List UInt8) (hN : N.length = 12) (W b : List UInt8) (hW : W.length ≤ 90000) (hb : b.length ≤ 90000) (w : World) :
    Calls Try.prog 11 #[.string ⟨K.toArray⟩, .string ⟨N.toArray⟩, .string ⟨W.toArray⟩, .string ⟨b.toArray⟩] w fun e w' => e = .returned (.string ⟨(sealL K N W b).toArray⟩) ∧ Below w.heap.size w w' := by
  obtain ⟨C, hC⟩ : ∃ C, C = hideL K N b := ⟨_, rfl⟩
  have hCl : C.length = b.length := by rw [hC, hideL_length]
  obtain ⟨k, hk⟩ : ∃ k : ByteArray, k = ⟨K.toArray⟩ := ⟨_, rfl⟩
  obtain ⟨nn, hnn⟩ : ∃ k : ByteArray, k = ⟨N.toArray⟩ := ⟨_, rfl⟩
  obtain ⟨x, hx⟩ : ∃ k : ByteArray, k = ⟨W.toArray⟩ := ⟨_, rfl⟩
  obtain ⟨y, hy⟩ : ∃ k : ByteArray, k = ⟨b.toArray⟩ := ⟨_, rfl⟩
  obtain ⟨h, hh⟩ : ∃ k : ByteArray, k = ⟨C.toArray⟩ := ⟨_, rfl⟩
  obtain ⟨t, ht⟩ : ∃ k : ByteArray, k = ⟨(aTag K N W C).toArray⟩ := ⟨_, rfl⟩
  have HS : Hid (∀ w, Calls Try.prog 16 #[.string k, .int .u32 1, .string nn, .string y] w fun e w' => e = .returned (.string h) ∧ Below w.heap.size w w') := by
    intro w
    rw [hh, hk, hnn, hy, hC]
    exact refStream_any K hK 1 N hN b (by omega) w
  have HT : Hid (∀ w, Calls Try.prog 17 #[.string k, .string nn, .string x, .string h] w fun e w' => e = .returned (.string t) ∧ Below w.heap.size w w') := by
    intro w
    rw [hh, hk, hnn, hx, ht]
    exact rTag_any K hK N hN W C (by omega) (by omega) w
  have n1 : ¬ 9223372036854775807 < h.size + t.size := by
    rw [hh, ht, str_size, str_size, aTag_length]
    omega
  have HE : Hid (h ++ t = ⟨(sealL K N W b).toArray⟩) := by
    show _ = _
    rw [sealL, ← hC, hh, ht, str_append]
  rw [← hk, ← hnn, ← hx, ← hy]
  clear hk hnn hx hy hh ht hC hCl
  go_enter Try.func11, Try.ntmps11
  go_wp2_with fail
  refine (HS.out w).mono ?_
  rintro e w1 ⟨rfl, hB1⟩
  go_wp2_with fail
  refine (HT.out w1).mono ?_
  rintro e w2 ⟨rfl, hB2⟩
  replace hB2 := hB1.trans (hB2.mono hB1.size)
  go_wp2_with fail
  go_ret
  rw [HE.out]
  exact ⟨rfl, hB2⟩
end Go.Proofs.Ythffodfnnjejnaa
