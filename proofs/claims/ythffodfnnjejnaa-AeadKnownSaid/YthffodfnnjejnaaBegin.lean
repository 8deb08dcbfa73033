/- The walk of begin. No condition. -/
import Derived.Test.YthffodfnnjejnaaRounds
import Derived.Test.YthffodfnnjejnaaKitA
namespace Go.Proofs.Ythffodfnnjejnaa
open Go.RowKit
/-- The word of four bytes, the k-th, the lowest first. -/
def w4 (l : List UInt8) (k : Nat) : UInt32 := UInt32.ofNat (leNat ((l.drop (4 * k)).take 4))
def sigma : List UInt32 := [1634760805, 857760878, 2036477234, 1797285236, 0, 0, 0, 0, 0, 0, 0, 0, 0, 0, 0, 0]
def keyAt (K : List UInt8) : Nat → List UInt32
  | 0 => sigma
  | k + 1 => (keyAt K k).set (4 + k) (w4 K k)
def nonceAt (s : List UInt32) (N : List UInt8) : Nat → List UInt32
  | 0 => s
  | k + 1 => (nonceAt s N k).set (13 + k) (w4 N k)
def beginL (K : List UInt8) (c : UInt32) (N : List UInt8) : List UInt32 := nonceAt ((keyAt K 8).set 12 c) N 3
@[simp] theorem keyAt_length (K : List UInt8) (k : Nat) : (keyAt K k).length = 16 := by
  induction k with
  | zero => rfl
  | succ k ih => rw [keyAt, List.length_set, ih]
@[simp] theorem nonceAt_length (s : List UInt32) (N : List UInt8) (k : Nat) : (nonceAt s N k).length = s.length := by
  induction k with
  | zero => rfl
  | succ k ih => rw [nonceAt, List.length_set, ih]
@[simp] theorem beginL_length (K : List UInt8) (c : UInt32) (N : List UInt8) : (beginL K c N).length = 16 := by simp [beginL]
theorem w4_nat (l : List UInt8) (k : Nat) : (w4 l k).toNat = leNat ((l.drop (4 * k)).take 4) := by
  have h := leNat_lt ((l.drop (4 * k)).take 4)
  have h2 : 256 ^ ((l.drop (4 * k)).take 4).length ≤ 256 ^ 4 := Nat.pow_le_pow_right (by omega) (by rw [List.length_take]; omega)
  unfold w4
  rw [UInt32.toNat_ofNat']
  omega
theorem begin_any (K : List UInt8) (hK : K.length = 32) (c : UInt32) (N : List UInt8) (hN : N.length = 12) (w : World) :
    Calls Try.prog 28 #[.agg (u8s K).toArray, .int .u32 c.toNat, .agg (u8s N).toArray] w fun e w' => e = .returned (.agg (u32s (beginL K c N)).toArray) ∧ Below w.heap.size w w' := by
  go_enter Try.func28, Try.ntmps28
  go_wp2_with fail
  generalize hW : (((w.alloc _).alloc _).alloc _).alloc _ = W
  have hk : Arr W w.heap.size 22 (u8s K) := by rw [← hW]; exact (((Arr.newAt rfl rfl).alloc _).alloc _).alloc _
  have hn : Arr W (w.heap.size + 1) 23 (u8s N) := by rw [← hW]; exact ((Arr.newAt (by simp only [asz]) rfl).alloc _).alloc _
  have hr : Arr W (w.heap.size + 1 + 1) 58 (u32s (List.replicate 16 0)) := by rw [← hW]; exact (Arr.newAt (by simp only [asz]) (by kernel_rfl)).alloc _
  have hs : Arr W (w.heap.size + 1 + 1 + 1) 58 (u32s (keyAt K 0)) := by rw [← hW]; exact Arr.newAt (by simp only [asz]) (by kernel_rfl)
  have hb : Below w.heap.size w W := by rw [← hW]; exact ((((Below.refl _ _).alloc (by omega) _).alloc (by simp only [asz]; omega) _).alloc (by simp only [asz]; omega) _).alloc (by simp only [asz]; omega) _
  obtain ⟨gk, hgk⟩ : ∃ g, g = w.heap.size := ⟨_, rfl⟩
  have hW' := Lib.hid hW
  clear hW
  go_loopw [11] (fun i wr => ∃ r : Nat, r ≤ 8 ∧ i = .int .i64 r ∧ Arr wr w.heap.size 22 (u8s K) ∧ Arr wr (w.heap.size + 1) 23 (u8s N) ∧ Arr wr (w.heap.size + 1 + 1) 58 (u32s (List.replicate 16 0)) ∧ Arr wr (w.heap.size + 1 + 1 + 1) 58 (u32s (keyAt K r)) ∧ Below w.heap.size w wr) (fun i _ => 8 - (intOf i).toNat)
  case atStart => exact ⟨0, by omega, rfl, hk, hn, hr, hs, hb⟩
  case round =>
    obtain ⟨r, hr8, rfl, hk, hn, hr, hs, hb⟩ := hrel
    by_cases hlt : r < 8
    · have hc := run_cutA (P := Try.prog) Try.underlying22 (by kernel_rfl) w.heap.size (4 * r) (4 * r + 4) (by omega) (by omega) (by omega) (4 * (r : Int)) (4 * (r : Int) + 4) (by omega) (by omega) wr
      rw [show 4 * r + 4 - 4 * r = 4 by omega] at hc
      have hrd := hk.rd (4 * r) 4 (by simp [hK]; omega)
      rw [u8s_drop, u8s_take] at hrd
      have hlo := low32_any _ (32 - 4 * r) _ _ hrd
      have c1 := hs.u32 (a := 4 + r) (by simp; omega)
      have f1 := hs.frozen (4 + r)
      rw [← w4_nat] at hlo
      go_wp2_with (go_at_call 41; refine hlo.mono ?_; rintro e w1 ⟨rfl, rfl⟩)
      go_roundw
      case rel =>
        have hs' := hs.set (4 + r) (.int .u32 ((w4 K r).toNat : Int))
        rw [u32s_set] at hs'
        exact ⟨r + 1, by omega, by go_num, hk.other (by simp only []; omega) _, hn.other (by simp only []; omega) _, hr.other (by simp only []; omega) _, hs', hb.trans (below_setCell (by simp only []; omega))⟩
      case measure => simp [intOf]; omega
    · obtain rfl : r = 8 := by omega
      obtain ⟨s8, hs8⟩ : ∃ z, z = keyAt K 8 := ⟨_, rfl⟩
      rw [← hs8] at hs
      have hl8 : s8.length = 16 := by rw [hs8]; simp
      have HS := Lib.hid hs8
      clear hs8
      have c1 := hs.u32 (a := 12) (by omega)
      have f1 := hs.frozen 12
      simp only [show ((8 : Nat) : Int) = 8 from rfl]
      go_wp2_with fail
      go_loopw [30] (fun i wr => ∃ r : Nat, r ≤ 3 ∧ i = .int .i64 r ∧ Arr wr (w.heap.size + 1) 23 (u8s N) ∧ Arr wr (w.heap.size + 1 + 1) 58 (u32s (List.replicate 16 0)) ∧ Arr wr (w.heap.size + 1 + 1 + 1) 58 (u32s (nonceAt (s8.set 12 c) N r)) ∧ Below w.heap.size w wr) (fun i _ => 3 - (intOf i).toNat)
      case atStart =>
        have hs' := hs.set 12 (.int .u32 (c.toNat : Int))
        rw [u32s_set] at hs'
        exact ⟨0, by omega, rfl, hn.other (by simp only []; omega) _, hr.other (by simp only []; omega) _, hs', hb.trans (below_setCell (by simp only []; omega))⟩
      case round =>
        obtain ⟨r, hr8, rfl, hn, hr, hs, hb⟩ := hrel
        by_cases hlt : r < 3
        · have hc := run_cutA (P := Try.prog) Try.underlying23 (by kernel_rfl) (w.heap.size + 1) (4 * r) (4 * r + 4) (by omega) (by omega) (by omega) (4 * (r : Int)) (4 * (r : Int) + 4) (by omega) (by omega) wr
          rw [show 4 * r + 4 - 4 * r = 4 by omega] at hc
          have hrd := hn.rd (4 * r) 4 (by simp [hN]; omega)
          rw [u8s_drop, u8s_take] at hrd
          have hlo := low32_any _ (12 - 4 * r) _ _ hrd
          have c1 := hs.u32 (a := 13 + r) (by simp; omega)
          have f1 := hs.frozen (13 + r)
          rw [← w4_nat] at hlo
          go_wp2_with (go_at_call 41; refine hlo.mono ?_; rintro e w1 ⟨rfl, rfl⟩)
          go_roundw
          case rel =>
            have hs' := hs.set (13 + r) (.int .u32 ((w4 N r).toNat : Int))
            rw [u32s_set] at hs'
            exact ⟨r + 1, by omega, by go_num, hn.other (by simp only []; omega) _, hr.other (by simp only []; omega) _, hs', hb.trans (below_setCell (by simp only []; omega))⟩
          case measure => simp [intOf]; omega
        · obtain rfl : r = 3 := by omega
          obtain ⟨s9, hs9⟩ : ∃ z, z = nonceAt (s8.set 12 c) N 3 := ⟨_, rfl⟩
          rw [← hs9] at hs
          have hl9 : s9.length = 16 := by rw [hs9]; simp [hl8]
          have HS9 := Lib.hid hs9
          clear hs9 c1 f1 hk
          simp only [show ((3 : Nat) : Int) = 3 from rfl]
          have i1 : (Try.prog.info? 58).map (·.size) = some (u32s s9).length := by simp only [u32s_length, hl9]; kernel_rfl
          have i2 : (Try.prog.info? 58).map (·.size) = some (u32s s9).toArray.size := by simp only [List.size_toArray, u32s_length, hl9]; kernel_rfl
          have t2 : wr.there (w.heap.size + 1 + 1) 0 (u32s s9).toArray.size := by have := hr.there; simpa [hl9] using this
          have HI1 := Lib.hid i1
          have HI2 := Lib.hid i2
          have HT2 := Lib.hid t2
          clear i1 i2 t2
          go_wp2_with first
            | (refine wpList_load_mid rfl 58 (.tmp 7) rfl (w.heap.size + 1 + 1 + 1) 0 rfl (u32s s9) _ hs.range Try.underlying58 rfl HI1.out ?_)
            | (refine wpList_store_mid rfl 58 (.tmp 6) (.tmp 47) rfl (w.heap.size + 1 + 1) 0 (u32s s9).toArray rfl rfl HT2.out HI2.out (all_oneCell_toArray (u32s_oneCell s9)) ?_)
          have hr' := hr.setAll (u32s s9) (by simp [hl9])
          have hB := hb.trans (below_setCells (B := w.heap.size) (g := w.heap.size + 1 + 1) (by omega) (u32s s9) wr 0)
          have he : s9 = beginL K c N := by rw [HS9.out, HS.out]; rfl
          refine bodyPost_ret (results_cell_row rfl _ _ (w.heap.size + 1 + 1) _ _ _ _ rfl hr' Try.underlying58 rfl HI2.out) rfl ?_
          rw [← he]
          exact ⟨rfl, hB⟩
end Go.Proofs.Ythffodfnnjejnaa
