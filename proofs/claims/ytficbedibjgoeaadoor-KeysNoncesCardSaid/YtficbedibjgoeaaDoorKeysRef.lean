/- The walks of the reference's keys. No condition. -/
import Derived.Test.YtficbedibjgoeaaDoorRefExpand
import Derived.Test.YtficbedibjgoeaaDoorKeysP
namespace Go.Proofs.YtficbedibjgoeaaDoor
open Go.RowKit
set_option maxRecDepth 100000 in
set_option maxHeartbeats 2000000 in
theorem refBlind_any (M nm : List UInt8) (hM : M.length = 32) (hn : nm.length ≤ 1000) (w : World) :
    Calls Tryd.prog 10 #[.string ⟨M.toArray⟩, .string ⟨nm.toArray⟩] w fun e w' => e = .returned (.string ⟨(blindL M nm).toArray⟩) ∧ Below w.heap.size w w' := by
  obtain ⟨m, hm⟩ : ∃ s : ByteArray, s = ⟨M.toArray⟩ := ⟨_, rfl⟩
  obtain ⟨n, hn2⟩ : ∃ s : ByteArray, s = ⟨nm.toArray⟩ := ⟨_, rfl⟩
  obtain ⟨x, hx⟩ : ∃ s : ByteArray, s = ⟨(expandL M useBlind 32).toArray⟩ := ⟨_, rfl⟩
  have HE : Hid (∀ w, Calls Tryd.prog 21 #[.string m, .string ⟨#[98, 108, 105, 110, 100]⟩, .int .i64 32] w fun e w' => e = .returned (.string x) ∧ Below w.heap.size w w') := by
    intro w
    rw [hm, hx]
    exact refExpand_any M useBlind 32 (by omega) (by decide) (by omega) w
  have HS : Hid (∀ w, Calls Tryd.prog 20 #[.string x, .string n] w fun e w' => e = .returned (.string ⟨(blindL M nm).toArray⟩) ∧ Below w.heap.size w w') := by
    intro w
    rw [hx, hn2]
    exact refHmac_any _ nm (by rw [expandL_length]; omega) (by omega) w
  rw [← hm, ← hn2]
  obtain ⟨r, hr⟩ : ∃ s : ByteArray, s = ⟨(blindL M nm).toArray⟩ := ⟨_, rfl⟩
  rw [← hr] at HS ⊢
  clear hm hn2 hx hr
  go_enter Tryd.func10, Tryd.ntmps10
  go_wp2_with fail
  refine (HE.out w).mono ?_
  rintro e w1 ⟨rfl, hB1⟩
  go_wp2_with fail
  refine (HS.out w1).mono ?_
  rintro e w2 ⟨rfl, hB2⟩
  go_wp2_with fail
  go_ret
  exact ⟨rfl, hB1.trans (hB2.mono hB1.size)⟩
set_option maxRecDepth 100000 in
set_option maxHeartbeats 2000000 in
theorem refSealK_any (M : List UInt8) (hM : M.length = 32) (e : Nat) (he : e ≤ 1048576) (w : World) :
    Calls Tryd.prog 17 #[.string ⟨M.toArray⟩, .int .i64 (e : Int)] w fun r w' => r = .returned (.string ⟨(sealKL M e).toArray⟩) ∧ Below w.heap.size w w' := by
  obtain ⟨m, hm⟩ : ∃ s : ByteArray, s = ⟨M.toArray⟩ := ⟨_, rfl⟩
  obtain ⟨p, hp⟩ : ∃ s : ByteArray, s = ⟨(beL 8 e).toArray⟩ := ⟨_, rfl⟩
  obtain ⟨r, hr⟩ : ∃ s : ByteArray, s = ⟨(sealKL M e).toArray⟩ := ⟨_, rfl⟩
  have hps : p.size = 8 := by rw [hp]; show (beL 8 e).length = 8; simp
  have HP : Hid (∀ w, Calls Tryd.prog 23 #[.int .u64 (e : Int), .int .i64 8, .bool true] w fun r w' => r = .returned (.string p) ∧ Below w.heap.size w w') := by
    intro w
    rw [hp]
    exact refPut_any e (by omega) 8 true w
  have HE : Hid (∀ w, Calls Tryd.prog 21 #[.string m, .string ((⟨#[115, 101, 97, 108]⟩ : ByteArray) ++ p), .int .i64 32] w fun e w' => e = .returned (.string r) ∧ Below w.heap.size w w') := by
    intro w
    rw [hm, hr, hp]
    have := refExpand_any M (useSeal ++ beL 8 e) 32 (by omega) (by simp [useSeal]) (by omega) w
    rw [← str_append] at this
    exact this
  have hei : (e : Int) ≤ 1048576 := by omega
  have n1 : ¬ 9223372036854775807 < 4 + p.size := by omega
  rw [← hm, ← hr]
  clear hm hp hr
  go_enter Tryd.func17, Tryd.ntmps17
  go_wp2_with fail
  refine (HP.out w).mono ?_
  rintro e w1 ⟨rfl, hB1⟩
  go_wp2_with fail
  refine (HE.out w1).mono ?_
  rintro e w2 ⟨rfl, hB2⟩
  go_wp2_with fail
  go_ret
  exact ⟨rfl, hB1.trans (hB2.mono hB1.size)⟩
set_option maxRecDepth 100000 in
set_option maxHeartbeats 2000000 in
theorem refNonce_any (c k : Nat) (hc : c ≤ 1000) (hk : k ≤ 4611686018427387904) (w : World) :
    Calls Tryd.prog 14 #[.int .i64 (c : Int), .int .i64 (k : Int)] w fun r w' => r = .returned (.string ⟨(nonceL c k).toArray⟩) ∧ Below w.heap.size w w' := by
  obtain ⟨p, hp⟩ : ∃ s : ByteArray, s = ⟨(beL 4 c).toArray⟩ := ⟨_, rfl⟩
  obtain ⟨q, hq⟩ : ∃ s : ByteArray, s = ⟨(beL 8 k).toArray⟩ := ⟨_, rfl⟩
  have hps : p.size = 4 := by rw [hp]; show (beL 4 c).length = 4; simp
  have hqs : q.size = 8 := by rw [hq]; show (beL 8 k).length = 8; simp
  have HP : Hid (∀ w, Calls Tryd.prog 23 #[.int .u64 (c : Int), .int .i64 4, .bool true] w fun r w' => r = .returned (.string p) ∧ Below w.heap.size w w') := by
    intro w
    rw [hp]
    exact refPut_any c (by omega) 4 true w
  have HQ : Hid (∀ w, Calls Tryd.prog 23 #[.int .u64 (k : Int), .int .i64 8, .bool true] w fun r w' => r = .returned (.string q) ∧ Below w.heap.size w w') := by
    intro w
    rw [hq]
    exact refPut_any k (by omega) 8 true w
  have HR : Hid (p ++ q = ⟨(nonceL c k).toArray⟩) := by
    show _ = _
    rw [hp, hq, str_append]
    rfl
  have hci : (c : Int) ≤ 1000 := by omega
  have hki : (k : Int) ≤ 4611686018427387904 := by omega
  have n1 : ¬ 9223372036854775807 < p.size + q.size := by omega
  clear hp hq
  go_enter Tryd.func14, Tryd.ntmps14
  go_wp2_with fail
  refine (HP.out w).mono ?_
  rintro e w1 ⟨rfl, hB1⟩
  go_wp2_with fail
  refine (HQ.out w1).mono ?_
  rintro e w2 ⟨rfl, hB2⟩
  go_wp2_with fail
  go_ret
  rw [HR.out]
  exact ⟨rfl, hB1.trans (hB2.mono hB1.size)⟩
end Go.Proofs.YtficbedibjgoeaaDoor
