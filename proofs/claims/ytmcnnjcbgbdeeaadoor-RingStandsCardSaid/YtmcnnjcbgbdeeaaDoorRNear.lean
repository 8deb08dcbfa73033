/- The reference's nearest point of a replica. No condition. -/
import Derived.Test.YtmcnnjcbgbdeeaaDoorRNewP
namespace Go.Proofs.YtmcnnjcbgbdeeaaDoor
open Go.RowKit
theorem gap_wrap {a t : Nat} (ha : a < 18446744073709551616) (ht : t < 18446744073709551616) : IntKind.u64.wrap ((a : Int) - (t : Int)) = (gap t a : Nat) := by
  have h1 : IntKind.u64.wrap ((a : Int) - (t : Int)) = ((a : Int) - (t : Int)) % 18446744073709551616 := by simp [IntKind.wrap, IntKind.bits, IntKind.signed]
  rw [h1]
  unfold gap
  omega
/-- Where the nearest stands. -/
def NearR (t r : Nat) (points : Nat) (w : World) (bv i : Value) (wr : World) : Prop := ∃ p : Nat, p ≤ points ∧ i = .int .i64 (p : Int) ∧ bv = .int .u64 (nearOf atP t p r : Nat) ∧ Gr w wr
set_option maxRecDepth 100000 in
set_option maxHeartbeats 4000000 in
theorem near_any (K : List UInt8) (hK : K.length = 32) (r points : Nat) (hr : r ≤ 255) (hp : points ≤ 64) (w : World) :
    Calls Tryd.prog 29 #[.string ⟨K.toArray⟩, .int .i64 (r : Int), .int .i64 (points : Int)] w fun e w' => e = .returned (.int .u64 (nearOf atP (beNat (K.take 8)) points r : Nat)) ∧ Gr w w' := by
  obtain ⟨t, ht⟩ : ∃ t, t = beNat (K.take 8) := ⟨_, rfl⟩
  have htl : t < 18446744073709551616 := by rw [ht]; exact beNat_lt8 _ (by rw [List.length_take]; omega)
  rw [← ht]
  have hcut : ∀ w1, (Instr.slice 9 (.string ⟨K.toArray⟩) none (some (.int .i64 8)) none).run Tryd.prog w1 = .ok (.string ⟨(K.take 8).toArray⟩) w1 := fun w1 => run_cutS_h2 Tryd.underlying9 K 8 8 rfl (by omega) w1
  have H4 : Hid (∀ w, Calls Tryd.prog 40 #[.string ⟨(K.take 8).toArray⟩, .bool true] w fun e w' => e = .returned (.int .u64 (t : Nat)) ∧ w = w') := by
    intro w
    rw [ht]
    exact refWord_high (K.take 8) (by simp; omega) w
  have HPl : Hid (∀ p : Nat, p ≤ 255 → ∀ w, Calls Tryd.prog 41 #[.int .i64 (r : Int), .int .i64 (p : Int)] w fun e w' => e = .returned (.int .u64 (atP r p : Nat)) ∧ Gr w w') := fun p h w => refPlace_any r p hr h w
  obtain ⟨sK, hsK⟩ : ∃ s : ByteArray, s = ⟨K.toArray⟩ := ⟨_, rfl⟩
  obtain ⟨s8, hs8⟩ : ∃ s : ByteArray, s = ⟨(K.take 8).toArray⟩ := ⟨_, rfl⟩
  simp only [← hsK, ← hs8] at hcut H4 ⊢
  have HTL := Lib.hid htl
  clear ht hsK hs8 hK htl
  go_enter Tryd.func29, Tryd.ntmps29
  go_wp2_with fail
  refine (H4.out w).mono ?_
  rintro e _ ⟨rfl, rfl⟩
  go_wp2_with fail
  go_simp
  go_loopw [8, 9] (fun bv i wr => NearR t r points w bv i wr) (fun _ i _ => points - (intOf i).toNat)
  case atStart => exact ⟨0, Nat.zero_le _, rfl, by simp [nearOf], Gr.refl _⟩
  case round =>
    obtain ⟨p, hpp, rfl, rfl, hG⟩ := hrel
    by_cases hlt : p < points
    · have hpi : (p : Int) < (points : Int) := by omega
      obtain ⟨a, hae⟩ : ∃ a, a = atP r p := ⟨_, rfl⟩
      have hP := HPl.out p (by omega) wr
      rw [← hae] at hP
      obtain ⟨b, hbe⟩ : ∃ b, b = nearOf atP t p r := ⟨_, rfl⟩
      obtain ⟨d, hd⟩ : ∃ d, d = gap t a := ⟨_, rfl⟩
      obtain ⟨m, hm⟩ : ∃ m, m = min b d := ⟨_, rfl⟩
      have hnx : nearOf atP t (p + 1) r = m := by rw [hm, hd, nearOf_succ, ← hbe, ← hae]
      have HNX := Lib.hid hnx
      have HW : Hid (IntKind.u64.wrap ((a : Int) - (t : Int)) = (d : Int)) := by
        show _ = _
        rw [hd]
        exact gap_wrap (by rw [hae]; exact atP_lt r p) HTL.out
      have HM : Hid (min (b : Int) (d : Int) = (m : Int)) := by
        show _ = _
        rw [hm]; omega
      rw [← hbe]
      clear hae hbe hnx hd hm
      go_wp2_with fail
      refine hP.mono ?_
      rintro e w1 ⟨rfl, hG1⟩
      have hG2 := Gr.trans hG hG1
      clear hP
      go_upto_region 5 with fail
      simp only [HW.out, HM.out]
      go_wp2_with fail
      exact ⟨⟨p + 1, hlt, by go_num, by rw [HNX.out], hG2⟩, by simp [intOf]; omega⟩
    · have hpi : ¬ (p : Int) < (points : Int) := by omega
      have hpe : p = points := by omega
      subst hpe
      go_wp2_with fail
      go_ret
      exact ⟨rfl, hG⟩
end Go.Proofs.YtmcnnjcbgbdeeaaDoor
