/- The walks of aead's padded and of its reference's pad. No condition. -/
import Derived.Test.YthffodfnnjejnaaPadA
import Derived.Test.YthffodfnnjejnaaKitA
namespace Go.Proofs.Ythffodfnnjejnaa
open Go.RowKit
theorem slLen_own {w : World} {b : Nat} {e : TypeId} {size n : Nat} {v : Value} {xs : List Value} (h : w.ownsRow b e size v n xs) : slLen v = n := by
  obtain ⟨A, c, rfl, _⟩ := own_form h
  rfl
theorem tmod16 (m : Nat) : ((m : Nat) : Int).tmod 16 = ((m % 16 : Nat) : Int) := by
  rw [Int.tmod_eq_emod_of_nonneg (by omega)]
  omega
set_option maxRecDepth 100000 in
set_option maxHeartbeats 2000000 in
theorem apad_any (A : Option Addr) (n c : Nat) (b : List UInt8) (hn : n ≤ 1000000) (w : World) (hr : Rd w A n (u8s b)) :
    Calls Try.prog 20 #[.slice A n c] w fun e w' => ∃ v, e = .returned v ∧ w'.ownsRow w.heap.size 5 1 v (padA b).length (u8s (padA b)) ∧ Below w.heap.size w w' := by
  obtain ⟨i0, hi0, hz0, hz1, hz2⟩ := info_parts Try.info5
  have hbl : b.length = n := by simpa using hr.1
  go_enter Try.func20, Try.ntmps20
  go_wp2_with (at_builtin; go_must (refine wpList_clip _ rfl (.tmp 4) (.tmp 5) 26 rfl 5 i0 (.int .u8 0) Try.underlying26 hi0 hz0 hz1 hz2 rfl w.heap.size rfl rfl A n c b rfl hr (by omega) ?_))
  intro v1 w1 ho1 hB1
  go_simp
  go_wp2_with fail
  go_simp
  go_loopw [3] (fun v wr => ∃ m k : Nat, m = n + k ∧ k < 16 ∧ k ≤ (16 - n % 16) % 16 ∧ wr.ownsRow w.heap.size 5 1 v m (u8s (padN b k)) ∧ Below w.heap.size w wr) (fun v _ => (16 - slLen v % 16) % 16)
  case atStart => exact ⟨n, 0, by omega, by omega, by omega, by simpa [padN] using ho1, hB1⟩
  case round =>
    obtain ⟨m, k, hm, hk, hk2, hown, hB⟩ := hrel
    have hsl := slLen_own hown
    obtain ⟨A1, c1, rfl, hc1, _⟩ := own_form hown
    have hbs := hB.size
    have hmod := tmod16 m
    have HM := Lib.hid hm
    clear hm
    by_cases h0 : m % 16 = 0
    · rw [h0] at hmod
      have he := padN_all (b := b) (k := k) (by rw [hbl, ← HM.out]; exact h0) hk
      have hl := padN_length b k
      rw [hbl, ← HM.out] at hl
      go_wp2_with fail
      go_ret
      exact ⟨_, rfl, by rw [← he, hl]; exact hown, hB⟩
    · obtain ⟨r, hr2⟩ : ∃ r : Nat, m % 16 = r := ⟨_, rfl⟩
      rw [hr2] at hmod
      have hr0 : (r : Int) ≠ 0 := by omega
      have HR2 := Lib.hid hr2
      have HR0 := Lib.hid h0
      clear hr2 h0
      go_wp2_with (at_builtin; go_must (refine wpList_app1 wr rfl (.tmp 11) (.tmp 12) 26 rfl w.heap.size 5 i0 (.int .u8 0) 1 Try.underlying26 hi0 hz0 hz1 hz2 rfl (.slice A1 m c1) m _ rfl hown _ (.int .u8 0) rfl rfl rfl (by have := HM.out; omega) (by unfold maxLen; have := HM.out; omega) hbs ?_))
      intro v' w2 hA2
      have ho2 := hA2.own
      have hB2 := hB.trans (hA2.below hown hbs)
      have hl2 := slLen_own ho2
      have h1 := HM.out
      have h2 := HR0.out
      rw [show u8s (padN b k) ++ [Value.int .u8 0] = u8s (padN b (k + 1)) by rw [padN_succ, u8s_append]; rfl] at ho2
      clear hA2 hown hB hmod hr0 HR2 HR0
      go_simp
      go_wp2_with fail
      refine ⟨⟨m + 1, k + 1, by omega, by omega, by omega, ho2, hB2⟩, ?_⟩
      simp only [slLen] at hl2 ⊢
      omega
/-- The reference's noughts up to a multiple of sixteen. -/
theorem rpad_any (b : List UInt8) (hn : b.length ≤ 1000000) (w : World) :
    Calls Try.prog 26 #[.string ⟨b.toArray⟩] w fun e w' => e = .returned (.string ⟨(padA b).toArray⟩) ∧ Below w.heap.size w w' := by
  go_enter Try.func26, Try.ntmps26
  go_wp2_with fail
  go_simp
  go_loopw [0] (fun v wr => ∃ k : Nat, k < 16 ∧ k ≤ (16 - b.length % 16) % 16 ∧ v = .string ⟨(padN b k).toArray⟩ ∧ Below w.heap.size w wr) (fun v _ => (16 - (match v with | .string s => s.size | _ => 0) % 16) % 16)
  case atStart => exact ⟨0, by omega, by omega, by simp [padN], Below.refl _ _⟩
  case round =>
    obtain ⟨k, hk, hk2, rfl, hB⟩ := hrel
    obtain ⟨s, hs⟩ : ∃ s : ByteArray, s = ⟨(padN b k).toArray⟩ := ⟨_, rfl⟩
    have hsz : s.size = b.length + k := by rw [hs, ← padN_length]; rfl
    have hmod := tmod16 s.size
    have hlt : ¬ 9223372036854775807 < s.size + 1 := by omega
    rw [← hs]
    have HS := Lib.hid hs
    have HZ := Lib.hid hsz
    clear hs hsz
    by_cases h0 : s.size % 16 = 0
    · have he := padN_all (b := b) (k := k) (by rw [← HZ.out]; exact h0) hk
      rw [h0] at hmod
      have HE : Hid (s = ⟨(padA b).toArray⟩) := by show _ = _; rw [HS.out, he]
      clear he h0
      go_wp2_with fail
      go_ret
      exact ⟨by rw [HE.out]; rfl, hB⟩
    · obtain ⟨r, hr2⟩ : ∃ r : Nat, s.size % 16 = r := ⟨_, rfl⟩
      rw [hr2] at hmod
      have hr0 : (r : Int) ≠ 0 := by omega
      have HR0 := Lib.hid h0
      clear hr2 h0
      go_wp2_with fail
      have h1 := HZ.out
      have h2 := HR0.out
      refine ⟨⟨k + 1, by omega, by omega, ?_, hB⟩, ?_⟩
      · rw [HS.out, padN_succ, ← str_append]
      · show (16 - (s ++ ⟨#[0]⟩).size % 16) % 16 < (16 - s.size % 16) % 16
        rw [ByteArray.size_append, show (⟨#[0]⟩ : ByteArray).size = 1 from rfl]
        omega
end Go.Proofs.Ythffodfnnjejnaa
