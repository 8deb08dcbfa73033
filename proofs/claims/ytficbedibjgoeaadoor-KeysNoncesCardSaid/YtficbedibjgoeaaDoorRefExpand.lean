/- The walk of the reference's Expand. No condition. -/
import Derived.Lib.AppendStr
import Derived.Test.YtficbedibjgoeaaDoorExpand
import Derived.Test.YtficbedibjgoeaaDoorRefHmac
namespace Go.Proofs.YtficbedibjgoeaaDoor
open Go.RowKit
theorem strCells_of (l : List UInt8) : Lib.strCells ⟨l.toArray⟩ = u8s l := by simp [Lib.strCells, u8s]
set_option maxRecDepth 100000 in
set_option maxHeartbeats 2000000 in
theorem one_any (k : Nat) (hk : k ≤ 254) (w : World) :
    Calls Tryd.prog 27 #[.int .i64 ((k : Int) + 1)] w fun e w' => e = .returned (.string ⟨[UInt8.ofNat (k + 1)].toArray⟩) ∧ Below w.heap.size w w' := by
  have hki : (k : Int) ≤ 254 := by omega
  have hb1 : (k : Int) + 1 = ((UInt8.ofNat (k + 1)).toNat : Int) := by rw [UInt8.toNat_ofNat']; omega
  have hrd : Rd (w.alloc (.cells #[.int .u8 ((k : Int) + 1)] 5)) (some ⟨w.heap.size, 0, none⟩) 1 (u8s [UInt8.ofNat (k + 1)]) := rd_made rfl _ _ _ 1 _ (by rw [hb1]; rfl) rfl
  have hcv := run_str (P := Tryd.prog) (c := 1) (w.alloc (.cells #[.int .u8 ((k : Int) + 1)] 5)) Tryd.underlying23 Tryd.underlying5 Tryd.underlying9 hrd
  have HC := Lib.hid hcv
  obtain ⟨s, hs⟩ : ∃ s : ByteArray, s = ⟨[UInt8.ofNat (k + 1)].toArray⟩ := ⟨_, rfl⟩
  rw [← hs] at hcv ⊢
  clear hs hb1 hrd HC
  go_enter Tryd.func27, Tryd.ntmps27
  go_wp2_with fail
  go_ret
  exact ⟨rfl, (Below.refl _ _).alloc (Nat.le_refl _) _⟩
def RExpR (w0 : World) (K U : List UInt8) (q : Nat) (v last i : Value) (wr : World) : Prop :=
  ∃ (k m8 : Nat) (s : ByteArray), m8 = 32 * k ∧ (k = 0 ∨ 32 * (k - 1) < q) ∧ i = .int .i64 ((k : Int) + 1) ∧ wr.ownsRow w0.heap.size 5 1 v m8 (u8s (outL K U k)) ∧ last = .string s ∧ s = ⟨(lastL K U k).toArray⟩ ∧ Below w0.heap.size w0 wr
set_option maxRecDepth 100000 in
set_option maxHeartbeats 8000000 in
theorem refExpand_any (K U : List UInt8) (q : Nat) (hK : K.length ≤ 100000) (hU : U.length ≤ 100000) (hq : q ≤ 8160) (w : World) :
    Calls Tryd.prog 21 #[.string ⟨K.toArray⟩, .string ⟨U.toArray⟩, .int .i64 q] w fun e w' => e = .returned (.string ⟨(expandL K U q).toArray⟩) ∧ Below w.heap.size w w' := by
  obtain ⟨i0, hi0, hz0, hz1, hz2⟩ := info_parts Tryd.info5
  obtain ⟨kk, hkk⟩ : ∃ s : ByteArray, s = ⟨K.toArray⟩ := ⟨_, rfl⟩
  obtain ⟨uu, huu⟩ : ∃ s : ByteArray, s = ⟨U.toArray⟩ := ⟨_, rfl⟩
  have hus : uu.size = U.length := by rw [huu]; rfl
  have HH : Hid (∀ w (k : Nat) (s o : ByteArray), s = ⟨(lastL K U k).toArray⟩ → o = ⟨[UInt8.ofNat (k + 1)].toArray⟩ → Calls Tryd.prog 20 #[.string kk, .string (s ++ uu ++ o)] w fun e w' => e = .returned (.string ⟨(lastL K U (k + 1)).toArray⟩) ∧ Below w.heap.size w w') := by
    intro w k s o hs ho
    have hle := lastL_le K U k
    rw [hs, ho, huu, hkk, str_append, str_append]
    exact refHmac_any K (lastL K U k ++ U ++ [UInt8.ofNat (k + 1)]) (by omega) (by simp; omega) w
  have HQ := Lib.hid hq
  have hus2 : uu.size ≤ 100000 := by omega
  rw [← hkk, ← huu]
  clear hkk huu hus
  go_enter Tryd.func21, Tryd.ntmps21
  go_wp2_with fail
  go_simp
  go_loopw [7, 8, 9] (fun v last i wr => RExpR w K U q v last i wr) (fun v _ _ _ => q - lenSl v)
  case atStart => exact ⟨0, 0, _, rfl, .inl rfl, rfl, World.ownsRow_nil _ _ _ _, rfl, rfl, Below.refl _ _⟩
  case round =>
    obtain ⟨k, m8, s, hm8, hk, rfl, hown, rfl, hs, hB⟩ := hrel
    have hbs := hB.size
    obtain ⟨A8, c8, rfl, hc8, hA8, hr8⟩ := own_form3 hown
    have HM8 := Lib.hid hm8
    have HS := Lib.hid hs
    have hss : s.size ≤ 32 := by rw [hs]; exact lastL_le K U k
    by_cases hlt : m8 < q
    · have hlti : (m8 : Int) < (q : Int) := by omega
      have hk254 : k ≤ 254 := by omega
      have hki : (k : Int) ≤ 254 := by omega
      have n1 : ¬ 9223372036854775807 < s.size + uu.size := by omega
      have n2 : ¬ 9223372036854775807 < s.size + uu.size + 1 := by omega
      obtain ⟨o, ho⟩ : ∃ s : ByteArray, s = ⟨[UInt8.ofNat (k + 1)].toArray⟩ := ⟨_, rfl⟩
      have hos : o.size = 1 := by rw [ho]; rfl
      have n3 : ¬ 9223372036854775807 < s.size + uu.size + o.size := by omega
      have hc1 := one_any k hk254 wr
      rw [← ho] at hc1
      have HO := Lib.hid ho
      clear hm8 hk hs ho hos n2
      go_wp2_with fail
      refine hc1.mono ?_
      rintro e w1 ⟨rfl, hB1⟩
      go_wp2_with fail
      refine (HH.out w1 k s o HS.out HO.out).mono ?_
      rintro e w2 ⟨rfl, hB2⟩
      have hG : Gr wr w2 := Gr.trans hB1 hB2
      have hown2 := Gr.own hG hown
      have hB3 := hB.trans (hG.mono hbs)
      obtain ⟨L, hL⟩ : ∃ L, L = lastL K U (k + 1) := ⟨_, rfl⟩
      have hLl : L.length = 32 := by rw [hL, lastL_succ]
      rw [← hL]
      have HL := Lib.hid hL
      have hsz : (⟨L.toArray⟩ : ByteArray).size = 32 := hLl
      clear hL hc1 hB1 hB2 hG hown n1 n3 hr8 hA8
      have HSZ := Lib.hid hsz
      go_wp2_with (at_builtin; go_must (refine Lib.wpList_append_own_string _ rfl (.tmp 24) (.tmp 25) 23 9 rfl w.heap.size 5 i0 Tryd.underlying23 Tryd.underlying9 hi0 hz0 hz1 hz2 _ m8 _ rfl hown2 ⟨L.toArray⟩ rfl (by rw [HSZ.out]; have := HQ.out; unfold maxLen; omega) (by rw [HSZ.out]; have := HQ.out; omega) hB3.size ?_))
      intro v3 w3 hO3 hg3 _h3
      rw [strCells_of] at hO3
      have hB4 := hB3.grown hg3 hB3.size (fun k hk => (hown2.lt k hk).1)
      have hl9 := own_lenSl hO3
      have ho9b : w3.ownsRow w.heap.size 5 1 v3 (m8 + 32) (u8s (outL K U (k + 1))) := by
        rw [outL, u8s_append, ← HL.out]
        exact hO3
      clear hO3 hg3 _h3 hown2 hsz
      go_simp
      go_wp2_with fail
      have h1 := HM8.out
      refine ⟨⟨k + 1, m8 + 32, ⟨L.toArray⟩, by omega, .inr (by rw [Nat.add_sub_cancel]; omega), by go_num, ho9b, rfl, by rw [← HL.out], hB4⟩, ?_⟩
      simp only [lenSl] at hl9 ⊢
      omega
    · have hge : ¬ (m8 : Int) < (q : Int) := by omega
      have hcut := fun w1 => run_cut_h (P := Tryd.prog) Tryd.underlying23 (by kernel_rfl) (A := A8) (n := m8) (c := c8) (hi := q) (h := (q : Int)) rfl (by omega) w1
      have hrq : Rd wr A8 q (u8s (expandL K U q)) := by
        rw [← expandL_is K U (show q ≤ 32 * k by omega), ← u8s_take]
        exact hr8.take (by omega)
      have hcv := run_str (P := Tryd.prog) (c := c8) wr Tryd.underlying23 Tryd.underlying5 Tryd.underlying9 hrq
      clear hm8
      go_wp2_with fail
      go_ret
      exact ⟨rfl, hB⟩
end Go.Proofs.YtficbedibjgoeaaDoor
