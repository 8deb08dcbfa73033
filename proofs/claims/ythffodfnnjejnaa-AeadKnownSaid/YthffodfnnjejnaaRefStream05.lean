/- The walk of the document's Stream. No condition. -/
import Derived.Test.YthffodfnnjejnaaKitA
import Derived.Lib.AppendStr
import Derived.Test.YthffodfnnjejnaaStream05
namespace Go.Proofs.Ythffodfnnjejnaa
open Go.RowKit
theorem strCells_list (l : List UInt8) : Lib.strCells ⟨l.toArray⟩ = u8s l := by simp [Lib.strCells, u8s]
theorem size_list (l : List UInt8) : (⟨l.toArray⟩ : ByteArray).size = l.length := rfl
theorem own_slLen {w : World} {b : Nat} {e : TypeId} {size n : Nat} {v : Value} {xs : List Value} (h : w.ownsRow b e size v n xs) : slLen v = n := by
  obtain ⟨A, c, rfl, _⟩ := own_form h
  rfl
set_option maxHeartbeats 4000000 in
theorem refStream_any (K : List UInt8) (hK : K.length = 32) (c0 : UInt32) (N : List UInt8) (hN : N.length = 12) (b : List UInt8) (hn : b.length ≤ 1000000) (w : World) :
    Calls Try.prog 16 #[.string ⟨K.toArray⟩, .int .u32 c0.toNat, .string ⟨N.toArray⟩, .string ⟨b.toArray⟩] w fun e w' => e = .returned (.string ⟨(streamL K c0 N b).toArray⟩) ∧ Below w.heap.size w w' := by
  obtain ⟨i0, hi0, hz0, hz1, hz2⟩ := info_parts Try.info5
  obtain ⟨n, hln⟩ : ∃ n, n = b.length := ⟨_, rfl⟩
  have hsz : (⟨b.toArray⟩ : ByteArray).size = n := by rw [hln]; rfl
  go_enter Try.func16, Try.ntmps16
  go_wp2_with fail
  go_loopw [1, 9] (fun cv v wr => ∃ r : Nat, 64 * r ≤ n + 63 ∧ cv = .int .u32 ((c0 + UInt32.ofNat r).toNat : Int) ∧ wr.ownsRow w.heap.size 5 1 v (min (64 * r) n) (u8s (streamAt K c0 N b r)) ∧ Below w.heap.size w wr) (fun _ v _ => n - slLen v)
  case atStart => exact ⟨0, by omega, by simp, by simpa [streamAt] using World.ownsRow_nil _ _ _ _, Below.refl _ _⟩
  case round =>
    obtain ⟨r, hr64, rfl, hown, hbw⟩ := hrel
    obtain ⟨A, c, rfl, hc, hA⟩ := own_form hown
    by_cases hlt : 64 * r < n
    · rw [show min (64 * r) n = 64 * r by omega] at hown hc ⊢
      obtain ⟨x, hx⟩ : ∃ x, x = c0 + UInt32.ofNat r := ⟨_, rfl⟩
      obtain ⟨k, hk⟩ : ∃ k, k = blockL K x N := ⟨_, rfl⟩
      have hlk : k.length = 64 := by rw [hk]; simp
      have hc1 := fun w => refBlock_any K hK x N hN w
      rw [← hk] at hc1
      rw [← hx]
      have HX := Lib.hid hx
      have HK := Lib.hid hk
      have hsl := fun w => run_cutS_l (P := Try.prog) Try.underlying9 b (64 * r) ((64 * r : Nat) : Int) rfl (by omega) w
      obtain ⟨d, hd⟩ : ∃ d, d = b.drop (64 * r) := ⟨_, rfl⟩
      have hsl2 := fun w => run_cutS_l (P := Try.prog) Try.underlying9 b (64 * r) (64 * (r : Int)) (by omega) (by omega) w
      rw [← hd] at hsl hsl2
      have hld : d.length = n - 64 * r := by rw [hd, List.length_drop, hln]
      have hmx := fun w => refMix_any k d (by omega) (by omega) w
      obtain ⟨q, hq⟩ : ∃ q, q = mixL k d := ⟨_, rfl⟩
      have hlq : q.length = min 64 (n - 64 * r) := by rw [hq, mixL_length, hlk, hld]
      rw [← hq] at hmx
      have hlq' : (⟨q.toArray⟩ : ByteArray).size = min 64 (n - 64 * r) := hlq
      have hST : Hid (u8s (streamAt K c0 N b (r + 1)) = u8s (streamAt K c0 N b r) ++ u8s q) := by show _ = _; rw [hq, HK.out, HX.out, hd, ← u8s_append]; rfl
      have hXN : Hid (((x.toNat : Int) + 1) % 4294967296 = ((c0 + UInt32.ofNat (r + 1)).toNat : Int)) := by
        show _ = _
        rw [HX.out, UInt32.toNat_add, UInt32.toNat_add, UInt32.toNat_ofNat', UInt32.toNat_ofNat']
        omega
      clear hx hk hd hq
      have hbs := hbw.size
      go_wp2_with first
        | (go_at_call 23; refine (hc1 _).mono ?_; rintro e w1 ⟨rfl, hB1⟩)
        | (go_at_call 24; refine (hmx _).mono ?_; rintro e w2 ⟨rfl, hB2⟩; have hG := Gr.trans hB1 hB2; have hown2 := Gr.own hG hown; have hbs2 := hG.size)
        | (at_builtin; go_must (refine Lib.wpList_append_own_string _ rfl (.tmp 20) (.tmp 26) 26 9 rfl w.heap.size 5 i0 Try.underlying26 Try.underlying9 hi0 hz0 hz1 hz2 _ (64 * r) _ rfl hown2 ⟨q.toArray⟩ rfl (by unfold maxLen; omega) (by omega) (by omega) ?_; intro v3 w3 hO3 hg3 _h3))
      rw [strCells_list, hlq'] at hO3
      have hm : min (64 * (r + 1)) n = 64 * r + min 64 (n - 64 * r) := by omega
      have hsl3 := own_slLen hO3
      refine ⟨⟨r + 1, by omega, by rw [hXN.out], by rw [hST.out, hm]; exact hO3, hbw.trans ((hG.mono hbs).trans ((Below.refl _ _).grown hg3 (by omega) (fun k hk => (hown2.lt k hk).1)))⟩, ?_⟩
      rw [hsl3]
      show n - _ < n - 64 * r
      omega
    · have hfin : streamAt K c0 N b r = streamL K c0 N b := by
        rw [streamL]; congr 1; omega
      rw [hfin, show min (64 * r) n = n by omega] at hown
      rw [show min (64 * r) n = n by omega]
      have hcv := run_str (P := Try.prog) (c := c) wr Try.underlying26 Try.underlying5 Try.underlying9 (Rd.of_own hown)
      subst hln
      go_wp2_with fail
      go_ret
      exact ⟨rfl, hbw⟩
end Go.Proofs.Ythffodfnnjejnaa
