/- The walks of the reference's tag, of its Seal and its Open. No condition. -/
import Derived.Test.YthffodfnnjejnaaATag
namespace Go.Proofs.Ythffodfnnjejnaa
open Go.RowKit
theorem run_cutS_h {P : Program} {T : TypeId} (hT : P.underlying T = some .string) (l : List UInt8) (hi : Nat) (a : Int) (ha : a = hi) (h2 : hi ≤ l.length) (w : World) :
    (Instr.slice T (.string ⟨l.toArray⟩) none (some (.int .i64 a)) none).run P w = .ok (.string ⟨(l.take hi).toArray⟩) w := by
  subst ha
  have hs : (⟨l.toArray⟩ : ByteArray).size = l.length := by simp [ByteArray.size]
  rw [run_slice_string_h w T _ hT _ _ (by omega) (by rw [hs]; omega), extract_list]
  simp only [Int.toNat_natCast, Nat.sub_zero, List.drop_zero]
theorem str_size (l : List UInt8) : (⟨l.toArray⟩ : ByteArray).size = l.length := rfl
set_option maxRecDepth 100000 in
set_option maxHeartbeats 4000000 in
theorem rTag_any (K : List UInt8) (hK : K.length = 32) (N : List UInt8) (hN : N.length = 12) (W C : List UInt8) (hW : W.length ≤ 100000) (hC : C.length ≤ 100000) (w : World) :
    Calls Try.prog 17 #[.string ⟨K.toArray⟩, .string ⟨N.toArray⟩, .string ⟨W.toArray⟩, .string ⟨C.toArray⟩] w fun e w' => e = .returned (.string ⟨(aTag K N W C).toArray⟩) ∧ Below w.heap.size w w' := by
  have hpW := padA_le W
  have hpC := padA_le C
  obtain ⟨bk, hbk⟩ : ∃ bk, bk = blockL K 0 N := ⟨_, rfl⟩
  have hbl : bk.length = 64 := by rw [hbk]; simp
  obtain ⟨k, hk⟩ : ∃ k : ByteArray, k = ⟨K.toArray⟩ := ⟨_, rfl⟩
  obtain ⟨nn, hnn⟩ : ∃ k : ByteArray, k = ⟨N.toArray⟩ := ⟨_, rfl⟩
  obtain ⟨x, hx⟩ : ∃ k : ByteArray, k = ⟨W.toArray⟩ := ⟨_, rfl⟩
  obtain ⟨y, hy⟩ : ∃ k : ByteArray, k = ⟨C.toArray⟩ := ⟨_, rfl⟩
  obtain ⟨px, hpx⟩ : ∃ k : ByteArray, k = ⟨(padA W).toArray⟩ := ⟨_, rfl⟩
  obtain ⟨py, hpy⟩ : ∃ k : ByteArray, k = ⟨(padA C).toArray⟩ := ⟨_, rfl⟩
  obtain ⟨lx, hlx⟩ : ∃ k : ByteArray, k = ⟨(leBytes 8 W.length).toArray⟩ := ⟨_, rfl⟩
  obtain ⟨ly, hly⟩ : ∃ k : ByteArray, k = ⟨(leBytes 8 C.length).toArray⟩ := ⟨_, rfl⟩
  obtain ⟨q, hq⟩ : ∃ k : ByteArray, k = ⟨(bk.take 32).toArray⟩ := ⟨_, rfl⟩
  obtain ⟨b, hb⟩ : ∃ k : ByteArray, k = ⟨bk.toArray⟩ := ⟨_, rfl⟩
  have sx : x.size = W.length := by rw [hx]; rfl
  have sy : y.size = C.length := by rw [hy]; rfl
  have spx : px.size = (padA W).length := by rw [hpx]; rfl
  have spy : py.size = (padA C).length := by rw [hpy]; rfl
  have slx : lx.size = 8 := by rw [hlx, str_size]; simp
  have sly : ly.size = 8 := by rw [hly, str_size]; simp
  have HB : Hid (∀ w, Calls Try.prog 23 #[.string k, .int .u32 0, .string nn] w fun e w' => e = .returned (.string b) ∧ Below w.heap.size w w') := by
    intro w
    rw [hb, hbk, hk, hnn]
    exact refBlock_any K hK 0 N hN w
  have HX : Hid (∀ w, Calls Try.prog 26 #[.string x] w fun e w' => e = .returned (.string px) ∧ Below w.heap.size w w') := by
    intro w
    rw [hx, hpx]
    exact rpad_any W (by omega) w
  have HY : Hid (∀ w, Calls Try.prog 26 #[.string y] w fun e w' => e = .returned (.string py) ∧ Below w.heap.size w w') := by
    intro w
    rw [hy, hpy]
    exact rpad_any C (by omega) w
  have HLX : Hid (∀ w, Calls Try.prog 27 #[.int .u64 (x.size : Int), .int .i64 8, .bool false] w fun e w' => e = .returned (.string lx) ∧ Below w.heap.size w w') := by
    intro w
    rw [hlx, sx]
    exact refPut_any W.length (by omega) 8 false w
  have HLY : Hid (∀ w, Calls Try.prog 27 #[.int .u64 (y.size : Int), .int .i64 8, .bool false] w fun e w' => e = .returned (.string ly) ∧ Below w.heap.size w w') := by
    intro w
    rw [hly, sy]
    exact refPut_any C.length (by omega) 8 false w
  have HT : Hid (∀ w, Calls Try.prog 25 #[.string q, .string (px ++ py ++ lx ++ ly)] w fun e w' => e = .returned (.string ⟨(aTag K N W C).toArray⟩) ∧ Below w.heap.size w w') := by
    intro w
    rw [hq, hpx, hpy, hlx, hly, str_append, str_append, str_append, aTag, ← hbk]
    exact refTag_any (bk.take 32) (by simp [hbl]) (overL W C) (by have := overL_le W C; omega) w
  have HC : Hid (∀ w, (Instr.slice 9 (.string b) none (some (.int .i64 32)) none).run Try.prog w = .ok (.string q) w) := by
    intro w
    rw [hb, hq]
    exact run_cutS_h Try.underlying9 bk 32 32 rfl (by omega) w
  have n1 : ¬ 9223372036854775807 < px.size + py.size := by omega
  have n2 : ¬ 9223372036854775807 < px.size + py.size + lx.size := by omega
  have n3 : ¬ 9223372036854775807 < px.size + py.size + lx.size + ly.size := by omega
  have n4 : (x.size : Int) < 18446744073709551616 := by omega
  have n5 : (y.size : Int) < 18446744073709551616 := by omega
  rw [← hk, ← hnn, ← hx, ← hy]
  obtain ⟨r, hr⟩ : ∃ r : ByteArray, r = ⟨(aTag K N W C).toArray⟩ := ⟨_, rfl⟩
  rw [← hr] at HT ⊢
  clear hr hk hnn hx hy hpx hpy hlx hly hq hb hbk sx sy spx spy slx sly hpW hpC hW hC
  have hcut := HC.out
  go_enter Try.func17, Try.ntmps17
  go_wp2_with fail
  refine (HB.out w).mono ?_
  rintro e w1 ⟨rfl, hB1⟩
  go_wp2_with fail
  refine (HX.out w1).mono ?_
  rintro e w2 ⟨rfl, hB2⟩
  replace hB2 := hB1.trans (hB2.mono hB1.size)
  go_wp2_with fail
  refine (HY.out w2).mono ?_
  rintro e w3 ⟨rfl, hB3⟩
  replace hB3 := hB2.trans (hB3.mono hB2.size)
  go_wp2_with fail
  refine (HLX.out w3).mono ?_
  rintro e w4 ⟨rfl, hB4⟩
  replace hB4 := hB3.trans (hB4.mono hB3.size)
  go_wp2_with fail
  refine (HLY.out w4).mono ?_
  rintro e w5 ⟨rfl, hB5⟩
  replace hB5 := hB4.trans (hB5.mono hB4.size)
  go_wp2_with fail
  refine (HT.out w5).mono ?_
  rintro e w6 ⟨rfl, hB6⟩
  replace hB6 := hB5.trans (hB6.mono hB5.size)
  go_wp2_with fail
  go_ret
  exact ⟨rfl, hB6⟩
end Go.Proofs.Ythffodfnnjejnaa
