/- The walks of swapRange and rotate at siblings. No condition. -/
import Derived.Shelf.SlSortCmp.KitK
import Derived.Shelf.SlSortCmp.WholeK
import Derived.Sort.WalkB2
import Derived.Sort.WalkB12
import Derived.Deep.LoopGhost
import Derived.Test.YteckblffpidigaaGreatDoorStaP
import Derived.Test.YteckblffpidigaaGreatDoorMtGood
namespace Go.Proofs.YteckblffpidigaaGreatDoor
open Go.Shelf Go.RowKit Go.Lib Go.Sort
variable {α : Type} [Inhabited α]
set_option maxHeartbeats 8000000 in
set_option maxRecDepth 1000000 in
theorem swapRange_any (k : Nat) (zE : ∀ w, (Go.sizeOf 44).run Tryz.prog w = .ok k w) (enc : α → List Value) (blk off cap a b n : Nat) (fv : Value) (d0 d : Array α) (w0 w : World)
    (R : RowK enc k w0 blk off d0) (hs : d0.size = d.size) (S : SWK enc k w0 blk off d w) (hab : a + n ≤ b) (hb : b + n ≤ d.size) (hsz : d.size < 4611686018427387904) :
    Calls Tryz.prog 104 #[.slice (some ⟨blk, off, none⟩) d.size cap, .int .i64 a, .int .i64 b, .int .i64 n, fv] w fun e w' => e = .returned (.tuple #[]) ∧ SWK enc k w0 blk off (swapR d a b n) w' := by
  have mixed : Tryz.prog.follows .mixedOrders = true := by kernel_rfl
  have aE := Tryz.isAgg44
  have tS := Tryz.underlying23
  have aS := Tryz.isAgg23
  have zS := Tryz.sizeOf23
  have S0 : Aside (SWK enc k w0 blk off d w) := S
  clear S
  go_enter Tryz.func104, Tryz.ntmps104
  go_wp2
  go_loopg [10] n (fun kx s10 wr => ∃ i : Nat, s10 = .int .i64 i ∧ i ≤ n ∧ n - i ≤ kx ∧ Aside (SWK enc k w0 blk off (swapR d a b i) wr))
  case atStart => exact ⟨0, rfl, Nat.zero_le _, by omega, S0⟩
  case round =>
    clear S0
    obtain ⟨i, rfl, hin, hkx, S1⟩ := hrel
    by_cases hlt : i < n
    · have hlz : (i : Int) < (n : Int) := by omega
      have hds := swapR_size d a b i
      obtain ⟨dk, hdk⟩ : ∃ dk, dk = swapR d a b i := ⟨_, rfl⟩
      have HDK : Hid (dk = swapR d a b i) := hdk
      rw [← hdk] at S1 hds
      clear hdk
      go_wp2_with fail
      have ea : ((a : Int) + (i : Int)).toNat = a + i := by omega
      have eb : ((b : Int) + (i : Int)).toNat = b + i := by omega
      have pa : (0 : Int) ≤ (a : Int) + (i : Int) := by omega
      have pb : (0 : Int) ≤ (b : Int) + (i : Int) := by omega
      have ba : (a : Int) + (i : Int) < (d.size : Int) := by omega
      have bb : (b : Int) + (i : Int) < (d.size : Int) := by omega
      have ra : IntKind.i64.wrap ((a : Int) + (i : Int)) = (a : Int) + (i : Int) := by rw [IntKind.wrap_i64]; omega
      have rb : IntKind.i64.wrap ((b : Int) + (i : Int)) = (b : Int) + (i : Int) := by rw [IntKind.wrap_i64]; omega
      have S2 : Aside (SWK enc k w0 blk off (swp dk (a + i) (b + i)) ((wr.drew.setCells blk (off + (a + i) * k) (enc dk[b + i]!)).setCells blk (off + (b + i) * k) (enc dk[a + i]!))) := S1.out.swapped R (a + i) (b + i) (by omega) (by omega)
      have l44a := S1.out.ld1 R (by omega) Tryz.prog (a + i) (by omega)
      have l44b := S1.out.ld1 R (by omega) Tryz.prog (b + i) (by omega)
      have s44a := S1.out.st1 R (by omega) Tryz.prog (a + i) (by omega) dk[b + i]!
      have s44b := S1.out.st2 R (by omega) Tryz.prog (a + i) (b + i) (by omega) (by omega) dk[b + i]! dk[a + i]!
      have n44a : (enc dk[a + i]!).length = k := R.hk _
      have n44b : (enc dk[b + i]!).length = k := R.hk _
      generalize enc dk[a + i]! = cI44 at S2 l44a s44b n44a
      generalize enc dk[b + i]! = cJ44 at S2 l44b s44a s44b n44b
      clear S1
      go_wp2_with fail
      go_big_region_o
      clear l44a l44b s44a s44b
      generalize (wr.drew.setCells blk (off + (a + i) * k) cJ44).setCells blk (off + (b + i) * k) cI44 = w2 at S2 ⊢
      go_wp2
      go_roundg (n - (i + 1))
      case measure => omega
      case rel =>
        refine ⟨i + 1, by go_num, hlt, Nat.le_refl _, ?_⟩
        rw [swapR, ← HDK.out]
        exact S2
    · have hnl : ¬ (i : Int) < (n : Int) := by omega
      obtain rfl : i = n := by omega
      go_wp2
      go_end0
      exact ⟨rfl, S1.out⟩
set_option maxHeartbeats 8000000 in
set_option maxRecDepth 1000000 in
theorem rotate_any (k : Nat) (zE : ∀ w, (Go.sizeOf 44).run Tryz.prog w = .ok k w) (enc : α → List Value) (blk off cap a m b : Nat) (fv : Value) (d0 d : Array α) (w0 w : World)
    (R : RowK enc k w0 blk off d0) (hs : d0.size = d.size) (S : SWK enc k w0 blk off d w) (ham : a < m) (hmb : m < b) (hb : b ≤ d.size) (hsz : d.size < 4611686018427387904) :
    Calls Tryz.prog 95 #[.slice (some ⟨blk, off, none⟩) d.size cap, .int .i64 a, .int .i64 m, .int .i64 b, fv] w fun e w' => e = .returned (.tuple #[]) ∧ ∃ F, Rot a m b d F ∧ SWK enc k w0 blk off F w' := by
  have S0 : Aside (SWK enc k w0 blk off d w) := S
  have HC : Hid (∀ (X Y Z : Int) (x y q : Nat) (dk : Array α) (w1 : World), X = (x : Int) → Y = (y : Int) → Z = (q : Int) → dk.size = d.size → x + q ≤ y → y + q ≤ d.size → SWK enc k w0 blk off dk w1 → Calls Tryz.prog 104 #[.slice (some ⟨blk, off, none⟩) d.size cap, .int .i64 X, .int .i64 Y, .int .i64 Z, fv] w1 fun e w' => e = .returned (.tuple #[]) ∧ SWK enc k w0 blk off (swapR dk x y q) w') := fun X Y Z x y q dk w1 e1 e2 e3 h1 h2 h3 h4 => by
    subst e1 e2 e3
    rw [← h1]
    exact swapRange_any k zE enc blk off cap x y q fv d0 dk w0 w1 R (by omega) h4 h2 (by omega) (by omega)
  clear S
  go_enter Tryz.func95, Tryz.ntmps95
  go_wp2
  go_loopg [10, 11] (b - a) (fun kx s10 s11 wr => ∃ (i j : Nat) (dk : Array α), s10 = .int .i64 i ∧ s11 = .int .i64 j ∧ 0 < i ∧ 0 < j ∧ a + i ≤ m ∧ m + j ≤ b ∧ i + j ≤ kx ∧ dk.size = d.size ∧ Aside (SWK enc k w0 blk off dk wr) ∧ Aside (∀ F, Rot (m - i) m (m + j) dk F → Rot a m b d F))
  case atStart => exact ⟨m - a, b - m, d, by go_num, by go_num, by omega, by omega, by omega, by omega, by omega, rfl, S0, fun F h => by
    rw [show m - (m - a) = a by omega, show m + (b - m) = b by omega] at h
    exact h⟩
  case round =>
    clear S0
    obtain ⟨i, j, dk, rfl, rfl, hi0, hj0, hi, hj, hkx, hds, S1, H1⟩ := hrel
    by_cases hij : i = j
    · subst hij
      go_wp2_with (go_at_call 104; refine (HC.out _ _ _ (m - i) m i dk _ (by omega) rfl rfl hds (by omega) (by omega) S1.out).mono ?_; rintro e w2 ⟨rfl, S2⟩)
      go_end0
      exact ⟨rfl, _, H1.out _ (Rot.last (by omega) (by omega)), S2⟩
    · have hne : ¬ (i : Int) = (j : Int) := by omega
      by_cases hlt : j < i
      · have hlz : (j : Int) < (i : Int) := by omega
        go_wp2_with (go_at_call 104; refine (HC.out _ _ _ (m - i) m j dk _ (by omega) rfl rfl hds (by omega) (by omega) S1.out).mono ?_; rintro e w2 ⟨rfl, S2⟩)
        go_roundg (i - j + j)
        case measure => omega
        case rel => exact ⟨i - j, j, swapR dk (m - i) m j, by go_num, rfl, by omega, hj0, by omega, hj, Nat.le_refl _, by rw [swapR_size]; exact hds, S2, fun F h => H1.out F (Rot.left (by omega) hj0 hlt (by omega) h)⟩
      · have hlz : ¬ (j : Int) < (i : Int) := by omega
        have hlz2 : (i : Int) < (j : Int) := by omega
        go_wp2_with (go_at_call 104; refine (HC.out _ _ _ (m - i) (m + j - i) i dk _ (by omega) (by omega) rfl hds (by omega) (by omega) S1.out).mono ?_; rintro e w2 ⟨rfl, S2⟩)
        go_roundg (i + (j - i))
        case measure => omega
        case rel => exact ⟨i, j - i, swapR dk (m - i) (m + j - i) i, rfl, by go_num, hi0, by omega, hi, by omega, Nat.le_refl _, by rw [swapR_size]; exact hds, S2, fun F h => H1.out F (Rot.right (by omega) hi0 (by omega) (by omega) h)⟩
end Go.Proofs.YteckblffpidigaaGreatDoor
