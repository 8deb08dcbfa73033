/- The reference's place of a point. No condition. -/
import Derived.Test.YtmcnnjcbgbdeeaaDoorRWalk
import Derived.Test.YtmcnnjcbgbdeeaaDoorRingQ
import Derived.Test.YtmcnnjcbgbdeeaaDoorShaF
import Derived.Test.YtmcnnjcbgbdeeaaDoorKitA
import Derived.Test.YtmcnnjcbgbdeeaaDoorDigests
namespace Go.Proofs.YtmcnnjcbgbdeeaaDoor
open Go.RowKit
set_option maxRecDepth 100000 in
set_option maxHeartbeats 4000000 in
theorem one0_any (k : Nat) (hk : k ≤ 255) (w : World) :
    Calls Tryd.prog 59 #[.int .i64 (k : Int)] w fun e w' => e = .returned (.string ⟨[UInt8.ofNat k].toArray⟩) ∧ Gr w w' := by
  have hki : (k : Int) ≤ 255 := by omega
  have hb1 : (k : Int) = ((UInt8.ofNat k).toNat : Int) := by rw [UInt8.toNat_ofNat']; omega
  have hrd : Rd (w.alloc (.cells #[.int .u8 (k : Int)] 5)) (some ⟨w.heap.size, 0, none⟩) 1 (u8s [UInt8.ofNat k]) := rd_made rfl _ _ _ 1 _ (by rw [hb1]; rfl) rfl
  have hcv := run_str (P := Tryd.prog) (c := 1) (w.alloc (.cells #[.int .u8 (k : Int)] 5)) Tryd.underlying42 Tryd.underlying5 Tryd.underlying9 hrd
  obtain ⟨s, hs⟩ : ∃ s : ByteArray, s = ⟨[UInt8.ofNat k].toArray⟩ := ⟨_, rfl⟩
  rw [← hs] at hcv ⊢
  clear hs hb1 hrd
  go_enter Tryd.func59, Tryd.ntmps59
  go_wp2_with fail
  go_ret
  exact ⟨rfl, (Below.refl _ _).alloc (Nat.le_refl _) _⟩
theorem run_cutS_h2 {P : Program} {T : TypeId} (hT : P.underlying T = some .string) (l : List UInt8) (hi : Nat) (a : Int) (ha : a = hi) (h2 : hi ≤ l.length) (w : World) :
    (Instr.slice T (.string ⟨l.toArray⟩) none (some (.int .i64 a)) none).run P w = .ok (.string ⟨(l.take hi).toArray⟩) w := by
  subst ha
  have hs : (⟨l.toArray⟩ : ByteArray).size = l.length := by simp [ByteArray.size]
  rw [run_slice_string_h w T _ hT _ _ (by omega) (by rw [hs]; omega), extract_list]
  simp only [Int.toNat_natCast, Nat.sub_zero, List.drop_zero]
/-- What a point's place is the digest of. -/
def ringText (r p : Nat) : List UInt8 := [114, 105, 110, 103, UInt8.ofNat r, UInt8.ofNat p]
def atP (r p : Nat) : Nat := beNat ((shaL (ringText r p)).take 8)
set_option maxRecDepth 100000 in
set_option maxHeartbeats 4000000 in
theorem refPlace_any (r p : Nat) (hr : r ≤ 255) (hp : p ≤ 255) (w : World) :
    Calls Tryd.prog 41 #[.int .i64 (r : Int), .int .i64 (p : Int)] w fun e w' => e = .returned (.int .u64 (atP r p : Nat)) ∧ Gr w w' := by
  have H1 := Lib.hid (one0_any r hr)
  have H2 := Lib.hid (one0_any p hp)
  obtain ⟨s1, hs1⟩ : ∃ s : ByteArray, s = ⟨[UInt8.ofNat r].toArray⟩ := ⟨_, rfl⟩
  obtain ⟨s2, hs2⟩ : ∃ s : ByteArray, s = ⟨[UInt8.ofNat p].toArray⟩ := ⟨_, rfl⟩
  have hz1 : s1.size = 1 := by rw [hs1]; rfl
  have hz2 : s2.size = 1 := by rw [hs2]; rfl
  rw [← hs1] at H1
  rw [← hs2] at H2
  have hcat : (({ data := #[114, 105, 110, 103] } : ByteArray) ++ s1) ++ s2 = ⟨(ringText r p).toArray⟩ := by
    rw [hs1, hs2]
    rfl
  obtain ⟨D, hD⟩ : ∃ D, D = shaL (ringText r p) := ⟨_, rfl⟩
  have hDl : D.length = 32 := by rw [hD]; exact shaL_length _
  have H3 : Hid (∀ w, Calls Tryd.prog 58 #[.string ((({ data := #[114, 105, 110, 103] } : ByteArray) ++ s1) ++ s2)] w fun e w' => e = .returned (.string ⟨D.toArray⟩) ∧ Below w.heap.size w w') := by
    intro w
    rw [hcat, hD]
    exact refSum_any _ (by simp [ringText]) w
  have hcut : ∀ w1, (Instr.slice 9 (.string ⟨D.toArray⟩) none (some (.int .i64 8)) none).run Tryd.prog w1 = .ok (.string ⟨(D.take 8).toArray⟩) w1 := fun w1 => run_cutS_h2 Tryd.underlying9 D 8 8 rfl (by omega) w1
  have H4 : Hid (∀ w, Calls Tryd.prog 40 #[.string ⟨(D.take 8).toArray⟩, .bool true] w fun e w' => e = .returned (.int .u64 (atP r p : Nat)) ∧ w = w') := by
    intro w
    rw [show atP r p = beNat (D.take 8) by rw [hD]; rfl]
    exact refWord_high (D.take 8) (by simp; omega) w
  obtain ⟨sD, hsD⟩ : ∃ s : ByteArray, s = ⟨D.toArray⟩ := ⟨_, rfl⟩
  obtain ⟨s8, hs8⟩ : ∃ s : ByteArray, s = ⟨(D.take 8).toArray⟩ := ⟨_, rfl⟩
  simp only [← hsD, ← hs8] at H3 hcut H4
  generalize atP r p = z at H4 ⊢
  clear hcat hD hs1 hs2 hsD hs8 hDl
  go_enter Tryd.func41, Tryd.ntmps41
  go_wp2_with fail
  refine (H1.out w).mono ?_
  rintro e w1 ⟨rfl, hG1⟩
  go_wp2_with fail
  refine (H2.out w1).mono ?_
  rintro e w2 ⟨rfl, hG2⟩
  go_wp2_with fail
  refine (H3.out w2).mono ?_
  rintro e w3 ⟨rfl, hG3⟩
  go_wp2_with fail
  refine (H4.out w3).mono ?_
  rintro e _ ⟨rfl, rfl⟩
  go_wp2_with fail
  go_ret
  exact ⟨rfl, Gr.trans hG1 (Gr.trans hG2 hG3)⟩
end Go.Proofs.YtmcnnjcbgbdeeaaDoor
