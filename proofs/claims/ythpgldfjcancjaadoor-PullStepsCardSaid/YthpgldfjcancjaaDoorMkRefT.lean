/- The walk of the reference's Node. No condition. -/
import Derived.Test.YthpgldfjcancjaaDoorMkRefL
namespace Go.Proofs.YthpgldfjcancjaaDoor
open Go.RowKit
theorem joinD_len {D : Nat → List UInt8} (hD : ∀ i, (D i).length = 32) (i : Nat) : (joinD D i).length = 32 * i := joinD_length hD i
/-- The loop over the four below. -/
def RefTR (w0 : World) (D : Nat → List UInt8) (v9 v10 v11 : Value) (w : World) : Prop :=
  ∃ (i : Nat) (s : ByteArray) (b : Bool), i ≤ 4 ∧ s = ⟨(joinD D i).toArray⟩ ∧ b = !anyD D i ∧ v9 = .string s ∧ v10 = .bool b ∧ v11 = .int .i64 (i : Int) ∧ Gr w0 w
theorem RefTR.out {w0 : World} {D : Nat → List UInt8} {v9 v10 v11 : Value} {w : World} (h : RefTR w0 D v9 v10 v11 w) :
  ∃ (i : Nat) (s : ByteArray) (b : Bool), i ≤ 4 ∧ s = ⟨(joinD D i).toArray⟩ ∧ b = !anyD D i ∧ v9 = .string s ∧ v10 = .bool b ∧ v11 = .int .i64 (i : Int) ∧ Gr w0 w := h
set_option maxRecDepth 100000 in
set_option maxHeartbeats 8000000 in
theorem refAbove {w : World} {p l a : Nat} {D : Nat → List UInt8} (hl : l < 4) (ha : a < 64) (hD : ∀ i, (D i).length = 32)
    (hc : ∀ w1, Gr w w1 → ∀ i : Nat, i < 4 → Calls Tryd.prog 15 #[.pointer (some ⟨p, 0, none⟩), .int .i64 ((l : Int) + 1), .int .i64 (4 * (a : Int) + (i : Int))] w1 fun e w' => e = .returned (.string ⟨(D i).toArray⟩) ∧ Gr w1 w') :
    Calls Tryd.prog 15 #[.pointer (some ⟨p, 0, none⟩), .int .i64 (l : Int), .int .i64 (a : Int)] w fun e w' => e = .returned (.string ⟨(aboveL D).toArray⟩) ∧ Gr w w' := by
  obtain ⟨sZ, hsZ⟩ : ∃ s : ByteArray, s = ⟨Z32.toArray⟩ := ⟨_, rfl⟩
  have HZ : Hid (∀ w, Calls Tryd.prog 25 #[] w fun e w' => e = .returned (.string sZ) ∧ Gr w w') := Lib.hid (fun w => by rw [hsZ]; exact none_ref w)
  have HSZ := Lib.hid hsZ
  have HC := Lib.hid hc
  have HD := Lib.hid hD
  clear hsZ hc hD
  have hl4 : ((l : Int) == 4) = false := beq_false_of_ne (by omega)
  go_enter Tryd.func15, Tryd.ntmps15
  go_upto_region 13 with fail
  go_loopw [9, 10, 11] (fun v9 v10 v11 wr => RefTR w D v9 v10 v11 wr) (fun _ _ v11 _ => 4 - (intOf v11).toNat)
  case atStart => exact ⟨0, _, _, by omega, rfl, rfl, rfl, rfl, rfl, Gr.refl _⟩
  case round =>
    obtain ⟨i, s, b, hi, hs, hb, rfl, rfl, rfl, hG⟩ := RefTR.out hrel
    have hsl := str_len hs
    rw [joinD_length HD.out] at hsl
    have hsz : s.size ≤ 128 := by omega
    have HS := Lib.hid hs
    have HB := Lib.hid hb
    clear hrel hs hsl hb
    by_cases hlt : i < 4
    · obtain ⟨sX, hsX⟩ : ∃ s : ByteArray, s = ⟨(D i).toArray⟩ := ⟨_, rfl⟩
      have hXs : sX.size = 32 := (str_len hsX).trans (HD.out i)
      have HX : Hid (∀ w1, Gr w w1 → Calls Tryd.prog 15 #[.pointer (some ⟨p, 0, none⟩), .int .i64 ((l : Int) + 1), .int .i64 (4 * (a : Int) + (i : Int))] w1 fun e w' => e = .returned (.string sX) ∧ Gr w1 w') := Lib.hid (fun w1 h1 => by rw [hsX]; exact HC.out w1 h1 i hlt)
      have hxz : (sX.toList == sZ.toList) = (D i == Z32) := by
        by_cases e : D i = Z32
        · rw [str_sameL hsX HSZ.out e, e]; rfl
        · rw [str_otherL hsX HSZ.out e, beq_false_of_ne e]
      have HSX := Lib.hid hsX
      obtain ⟨bx, hbx⟩ : ∃ b, b = (D i == Z32) := ⟨_, rfl⟩
      rw [← hbx] at hxz
      have HBX := Lib.hid hbx
      clear hsX hbx
      have n1 : ¬ 9223372036854775807 < s.size + sX.size := by omega
      have HR : Hid (∀ w1, Gr w w1 → RefTR w D (.string (s ++ sX)) (.bool (b && bx)) (.int .i64 ((i : Int) + 1)) w1) := Lib.hid (fun w1 h1 =>
        ⟨i + 1, _, _, by omega, by rw [joinD_succ, HS.out, HSX.out, str_append], by rw [anyD_succ, HB.out, HBX.out, Bool.not_or]; simp [bne], rfl, rfl, by simp, h1⟩)
      cases b with
      | true =>

        go_wp2_with first
          | (go_at_call 15; refine (HX.out _ hG).mono ?_; rintro e w1 ⟨rfl, hG1⟩)
          | (go_at_call 25; refine (HZ.out _).mono ?_; rintro e w2 ⟨rfl, hG2⟩)
        exact ⟨HR.out _ ((hG.trans hG1).trans hG2), by simp only [intOf]; omega⟩
      | false =>
        go_wp2_with first
          | (go_at_call 15; refine (HX.out _ hG).mono ?_; rintro e w1 ⟨rfl, hG1⟩)
        exact ⟨HR.out _ (hG.trans hG1), by simp only [intOf]; omega⟩
    · obtain rfl : i = 4 := by omega
      cases b with
      | true =>
        have hal : aboveL D = Z32 := by
          unfold aboveL
          rw [if_neg]
          have := HB.out
          intro q
          rw [q] at this
          cases this
        have HAL := Lib.hid hal
        clear hal
        go_wp2_with (go_at_call 25; refine (HZ.out _).mono ?_; rintro e w1 ⟨rfl, hG1⟩)
        go_ret
        exact ⟨by rw [HAL.out, HSZ.out]; rfl, hG.trans hG1⟩
      | false =>
        have hal : aboveL D = shaL (joinD D 4) := by
          unfold aboveL
          rw [if_pos]
          have := HB.out
          cases q : anyD D 4 with
          | true => rfl
          | false => rw [q] at this; cases this
        have HSum : Hid (∀ w, Calls Tryd.prog 26 #[.string s] w fun e w' => e = .returned (.string ⟨(aboveL D).toArray⟩) ∧ Gr w w') := Lib.hid (fun w => by
          rw [HS.out, hal]
          exact refSum_any _ (by rw [joinD_length HD.out]; omega) w)
        clear hal
        go_wp2_with (go_at_call 26; refine (HSum.out _).mono ?_; rintro e w1 ⟨rfl, hG1⟩)
        go_ret
        exact ⟨rfl, hG.trans hG1⟩
theorem refNode_any {p B : Nat} {R : Rw} (hR : R.length ≤ 1000) : ∀ (h : Nat), h ≤ 4 → ∀ (a : Nat), a < 4 ^ (4 - h) → ∀ w, RT B w p R →
    Calls Tryd.prog 15 #[.pointer (some ⟨p, 0, none⟩), .int .i64 ((4 - h : Nat) : Int), .int .i64 (a : Int)] w fun e w' => e = .returned (.string ⟨(nodeR R h a).toArray⟩) ∧ Gr w w'
  | 0, _, a, _, _, hT => refLeaf_any hT hR a
  | h + 1, hh, a, ha, w, hT => by
    have h1 : 4 ^ (4 - h) = 4 ^ (4 - (h + 1)) * 4 := by rw [← Nat.pow_succ]; congr 1; omega
    have h2 : 4 ^ (4 - h) ≤ 4 ^ 4 := Nat.pow_le_pow_right (by omega) (by omega)
    refine refAbove (D := fun i => nodeR R h (4 * a + i)) (l := 4 - (h + 1)) (a := a) (by omega) (by omega) (fun i => nodeR_length R h _) fun w1 hG i hi => ?_
    have h3 := refNode_any hR h (by omega) (4 * a + i) (by omega) w1 (hT.gr hG)
    have e1 : (((4 - (h + 1) : Nat) : Int) + 1) = ((4 - h : Nat) : Int) := by omega
    have e2 : (4 * (a : Int) + (i : Int)) = ((4 * a + i : Nat) : Int) := by omega
    rw [e1, e2]
    exact h3
end Go.Proofs.YthpgldfjcancjaaDoor
