/- The walk of (*state).rounds. No condition. -/
import Derived.Test.YthffodfnnjejnaaQuarter
namespace Go.Proofs.Ythffodfnnjejnaa
open Go.RowKit
def colsAt (s : List UInt32) : Nat → List UInt32
  | 0 => s
  | k + 1 => quarterL (colsAt s k) k (4 + k) (8 + k) (12 + k)
def diagsAt (s : List UInt32) : Nat → List UInt32
  | 0 => s
  | k + 1 => quarterL (diagsAt s k) k (4 + (k + 1) % 4) (8 + (k + 2) % 4) (12 + (k + 3) % 4)
def roundL (s : List UInt32) : List UInt32 := diagsAt (colsAt s 4) 4
@[simp] theorem colsAt_length (s : List UInt32) (k : Nat) : (colsAt s k).length = s.length := by
  induction k with
  | zero => rfl
  | succ k ih => rw [colsAt, quarterL_length, ih]
@[simp] theorem diagsAt_length (s : List UInt32) (k : Nat) : (diagsAt s k).length = s.length := by
  induction k with
  | zero => rfl
  | succ k ih => rw [diagsAt, quarterL_length, ih]
@[simp] theorem roundL_length (s : List UInt32) : (roundL s).length = s.length := by simp [roundL]
theorem rounds_any (g : Nat) (s : List UInt32) (hs : s.length = 16) (w : World) (hA : Arr w g 58 (u32s s)) :
    Calls Try.prog 29 #[.pointer (some ⟨g, 0, none⟩)] w fun e w' => (∃ v, e = .returned v) ∧ Arr w' g 58 (u32s (roundL s)) ∧ Below g w w' := by
  go_enter Try.func29, Try.ntmps29
  go_wp2_with fail
  go_loopw [4] (fun i wr => ∃ r : Nat, r ≤ 4 ∧ i = .int .i64 r ∧ Arr wr g 58 (u32s (colsAt s r)) ∧ Below g w wr) (fun i _ => 4 - (intOf i).toNat)
  case atStart => exact ⟨0, by omega, rfl, hA, Below.refl _ _⟩
  case round =>
    obtain ⟨r, hr, rfl, hAr, hBr⟩ := hrel
    by_cases hlt : r < 4
    · have hl : (colsAt s r).length = 16 := by simp [hs]
      go_wp2_with (go_at_call 42; rw [show (4 : Int) + (r : Int) = ((4 + r : Nat) : Int) by omega, show (8 : Int) + (r : Int) = ((8 + r : Nat) : Int) by omega, show (12 : Int) + (r : Int) = ((12 + r : Nat) : Int) by omega]; refine (quarter_any g r (4 + r) (8 + r) (12 + r) (by omega) (by omega) (by omega) (by omega) (colsAt s r) hl _ hAr).mono ?_; rintro e w1 ⟨⟨v, rfl⟩, hA1, hB1⟩)
      go_roundw
      case rel => exact ⟨r + 1, by omega, by go_num, hA1, hBr.trans hB1⟩
      case measure => simp [intOf]; omega
    · obtain rfl : r = 4 := by omega
      obtain ⟨s4, hs4⟩ : ∃ z, z = colsAt s 4 := ⟨_, rfl⟩
      have hl4 : s4.length = 16 := by rw [hs4]; simp [hs]
      rw [← hs4] at hAr
      have HS := Lib.hid hs4
      clear hs4 hA
      simp only [show ((4 : Nat) : Int) = 4 from rfl]
      go_wp2_with fail
      go_loopw [17] (fun i wr2 => ∃ r : Nat, r ≤ 4 ∧ i = .int .i64 r ∧ Arr wr2 g 58 (u32s (diagsAt s4 r)) ∧ Below g w wr2) (fun i _ => 4 - (intOf i).toNat)
      case atStart => exact ⟨0, by omega, rfl, hAr, hBr⟩
      case round =>
        obtain ⟨r, hr, rfl, hAd, hBd⟩ := hrel
        by_cases hlt : r < 4
        · have hl : (diagsAt s4 r).length = 16 := by simp [hl4]
          go_wp2_with (go_at_call 42; rw [show (4 : Int) + ((r : Int) + 1) % 4 = ((4 + (r + 1) % 4 : Nat) : Int) by omega, show (8 : Int) + ((r : Int) + 2) % 4 = ((8 + (r + 2) % 4 : Nat) : Int) by omega, show (12 : Int) + ((r : Int) + 3) % 4 = ((12 + (r + 3) % 4 : Nat) : Int) by omega]; refine (quarter_any g r (4 + (r + 1) % 4) (8 + (r + 2) % 4) (12 + (r + 3) % 4) (by omega) (by omega) (by omega) (by omega) (diagsAt s4 r) hl _ hAd).mono ?_; rintro e w1 ⟨⟨v, rfl⟩, hA1, hB1⟩)
          go_roundw
          case rel =>
            exact ⟨r + 1, by omega, by go_num, hA1, hBd.trans hB1⟩
          case measure => simp [intOf]; omega
        · obtain rfl : r = 4 := by omega
          go_wp2_with fail
          go_end0
          refine ⟨⟨_, rfl⟩, ?_, hBd⟩
          rw [HS.out] at hAd
          exact hAd
end Go.Proofs.Ythffodfnnjejnaa
