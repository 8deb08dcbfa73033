/- The walk of the law HkdfChains. No condition. -/
import Derived.Test.YtmmjjjdocanmfaaDoorHBegins
namespace Go.Proofs.YtmmjjjdocanmfaaDoor
open Go.RowKit
def ChnR (w0 : World) (K U : List UInt8) (q : Nat) (last i : Value) (wr : World) : Prop :=
  ∃ (k : Nat) (s : ByteArray), k ≤ q ∧ i = .int .i64 (k : Int) ∧ last = .string s ∧ s = ⟨(lastL K U k).toArray⟩ ∧ Below w0.heap.size w0 wr
set_option maxRecDepth 100000 in
set_option maxHeartbeats 16000000 in
theorem law_hchains (A : Option Addr) (n c : Nat) (K0 : List UInt8) (B : Option Addr) (m d : Nat) (l0 : List UInt8) (z : Int) (w : World) (hnc : n ≤ c) (hr0 : Rd w A n (u8s K0)) (hA0 : A = none → n = 0 ∧ c = 0)
    (hmd : m ≤ d) (hb0 : Rd w B m (u8s l0)) (gw : Glob w) :
    Calls Tryd.prog 4 #[.slice A n c, .slice B m d, .int .i64 z] w fun e w' => e = .returned (.bool true) ∧ Below w.heap.size w w' := by
  obtain ⟨k, hki, hkn, hk2⟩ := cut_at n 80
  obtain ⟨j, hji, hjm, hj2⟩ := cut_at m 80
  have hrk : Rd w A k (u8s (K0.take k)) := by rw [← u8s_take]; exact hr0.take hkn
  have hrj : Rd w B j (u8s (l0.take j)) := by rw [← u8s_take]; exact hb0.take hjm
  obtain ⟨K, hK⟩ : ∃ K, K = K0.take k := ⟨_, rfl⟩
  obtain ⟨l, hl⟩ : ∃ l, l = l0.take j := ⟨_, rfl⟩
  rw [← hK] at hrk
  rw [← hl] at hrj
  have hKl : K.length = k := by simpa using hrk.1
  have hll : l.length = j := by simpa using hrj.1
  have hAk : A = none → k = 0 ∧ c = 0 := fun h => ⟨by have := (hA0 h).1; omega, (hA0 h).2⟩
  have HC1 := Lib.hid fun w1 => run_cut_h (P := Tryd.prog) Tryd.underlying22 (by kernel_rfl) (A := A) (n := n) (c := c) (hi := k) (h := (k : Int)) rfl (by omega) w1
  have HC2 := Lib.hid fun w1 => run_cut_h (P := Tryd.prog) Tryd.underlying22 (by kernel_rfl) (A := B) (n := m) (c := d) (hi := j) (h := (j : Int)) rfl (by omega) w1
  have HM1 := Lib.hid hki
  have HM2 := Lib.hid hji
  obtain ⟨q, hq, hqe⟩ := wrap_remN z 6 (by omega) (by omega)
  have HQE : Hid (wrap64 ((IntKind.u64.wrap z).tmod 6) = (q : Int)) := hqe
  have HE : Hid (∀ w, Rd w A k (u8s K) → Rd w B j (u8s l) → Glob w → Calls Tryd.prog 6 #[.slice A k c, .slice B j d, .int .i64 (32 * (q : Int))] w fun e w' => ∃ A', e = .returned (.tuple #[.slice A' (32 * q) (32 * q), .int .i64 0]) ∧ Rd w' A' (32 * q) (u8s (outL K l q)) ∧ Below w.heap.size w w') := by
    intro w h1 h2 h3
    have := expand_any A k c K B j d l (32 * q) (by omega) (by omega) (by omega) (by omega) (by omega) w h1 hAk h2 h3
    rw [expandL_all] at this
    exact this
  have HH : Hid (∀ w (i : Nat) (kk s uu o : ByteArray), kk = ⟨K.toArray⟩ → s = ⟨(lastL K l i).toArray⟩ → uu = ⟨l.toArray⟩ → o = ⟨[UInt8.ofNat (i + 1)].toArray⟩ → Calls Tryd.prog 8 #[.string kk, .string (s ++ uu ++ o)] w fun e w' => e = .returned (.string ⟨(lastL K l (i + 1)).toArray⟩) ∧ Below w.heap.size w w') := by
    intro w i kk s uu o hk hs hu ho
    have hle := lastL_le K l i
    rw [hs, ho, hu, hk, str_append, str_append]
    exact refHmac_any K (lastL K l i ++ l ++ [UInt8.ofNat (i + 1)]) (by omega) (by simp; omega) w
  have hq9 : (q : Int) ≤ 5 := by omega
  clear hqe hK hl hki hji hr0 hb0 hA0 hAk
  go_enter Tryd.func4, Tryd.ntmps4
  go_wp2_with fail
  refine wp_region_ssaL (by kernel_rfl) [IsV (.slice A n c), IsV (.slice A n c), IsV (.int .i64 ((n : Nat) : Int)), IsV (.int .i64 ((k : Nat) : Int)), IsV (.slice A k c), IsV (.slice B m d), IsV (.slice B m d), IsV (.int .i64 ((m : Nat) : Int)), IsV (.int .i64 ((j : Nat) : Int)), IsV (.slice B j d), IsV (.slice A k c), IsV (.slice B j d)] (by kernel_rfl) ?_ ?_ ?_
  · intro φ hφ v w1 w2 h hg
    simp only [List.mem_cons, List.not_mem_nil, or_false] at hφ
    rcases hφ with rfl | rfl | rfl | rfl | rfl | rfl | rfl | rfl | rfl | rfl | rfl | rfl
    all_goals first | exact h | exact RdV.gr h hg
  · refine ⟨?_, ?_, ?_, ?_, ?_, ?_, ?_, ?_, ?_, ?_, ?_, ?_, trivial⟩
    · intro a1 w1 hG hF
      exact s_old rfl (wants0 rfl) (.tmp 0) (.inr rfl) (.slice A n c) (hF.ol 0 (by kernel_rfl)) rfl
    · intro a1 w1 hG hF
      exact s_old rfl (wants0 rfl) (.tmp 0) (.inr rfl) (.slice A n c) (hF.ol 0 (by kernel_rfl)) rfl
    · intro a1 w1 hG hF
      obtain ⟨_, e13, rfl⟩ := hF.dp 1 13 (by kernel_rfl)
      exact s_is rfl (wants0 rfl) _ rfl (run_len_slice Tryd.underlying22 e13)
    · intro a1 w1 hG hF
      obtain ⟨_, e14, rfl⟩ := hF.dp 2 14 (by kernel_rfl)
      exact s_is rfl (wants0 rfl) _ rfl (run_min_ e14 rfl HM1.out)
    · intro a1 w1 hG hF
      obtain ⟨_, e12, rfl⟩ := hF.dp 0 12 (by kernel_rfl)
      obtain ⟨_, e15, rfl⟩ := hF.dp 3 15 (by kernel_rfl)
      exact s_is rfl (wants0 rfl) _ rfl (by simp only [execOp, e12, e15, Option.map, Sem.run_bind, HC1.out, Result.andThen_ok, Sem.run_pure])
    · intro a1 w1 hG hF
      exact s_old rfl (wants0 rfl) (.tmp 1) (.inr rfl) (.slice B m d) (hF.ol 1 (by kernel_rfl)) rfl
    · intro a1 w1 hG hF
      exact s_old rfl (wants0 rfl) (.tmp 1) (.inr rfl) (.slice B m d) (hF.ol 1 (by kernel_rfl)) rfl
    · intro a1 w1 hG hF
      obtain ⟨_, e18, rfl⟩ := hF.dp 6 18 (by kernel_rfl)
      exact s_is rfl (wants0 rfl) _ rfl (run_len_slice Tryd.underlying22 e18)
    · intro a1 w1 hG hF
      obtain ⟨_, e19, rfl⟩ := hF.dp 7 19 (by kernel_rfl)
      exact s_is rfl (wants0 rfl) _ rfl (run_min_ e19 rfl HM2.out)
    · intro a1 w1 hG hF
      obtain ⟨_, e17, rfl⟩ := hF.dp 5 17 (by kernel_rfl)
      obtain ⟨_, e20, rfl⟩ := hF.dp 8 20 (by kernel_rfl)
      exact s_is rfl (wants0 rfl) _ rfl (by simp only [execOp, e17, e20, Option.map, Sem.run_bind, HC2.out, Result.andThen_ok, Sem.run_pure])
    · intro a1 w1 hG hF
      exact s_same rfl (wants0 rfl) (.tmp 16) (.inl rfl) (hF.dp 4 16 (by kernel_rfl))
    · intro a1 w1 hG hF
      exact s_same rfl (wants0 rfl) (.tmp 21) (.inl rfl) (hF.dp 9 21 (by kernel_rfl))
  · intro vs w1 hG hf
    have z0 : vs 10 = .slice A k c := hf.2.2.2.2.2.2.2.2.2.2.1
    have z1 : vs 11 = .slice B j d := hf.2.2.2.2.2.2.2.2.2.2.2.1
    clear hf
    simp only [putAll, Nat.zero_add, Nat.reduceAdd, z0, z1]
    have hG1 := (Gr.drew w).trans hG
    have hr1 := hG1.rd hrk
    have hb1 := hG1.rd hrj
    have gw1 := gw.gr hG1
    have hB1 : Below w.heap.size w w1 := hG1
    clear hG1 hG hrk hrj gw
    go_simp
    go_upto_region 3 with fail
    simp only [HQE.out]
    go_wp2_with fail
    refine (HE.out w1 hr1 hb1 gw1).mono ?_
    rintro e w2 ⟨A7, rfl, hr7, hB2⟩
    have hr2 := hr1.below hB2
    have hb2 := hb1.below hB2
    have gw2 := gw1.gr hB2
    have hB3 := hB1.trans (hB2.mono hB1.size)
    clear hr1 hb1 gw1 hB1 hB2 HE
    go_wp2_with fail
    refine (expands_any w2 gw2).mono ?_
    rintro e w3 ⟨rfl, hB4⟩
    have hr3 := hr2.below hB4
    have hb3 := hb2.below hB4
    have hr73 := hr7.below hB4
    have hB5 := hB3.trans (hB4.mono hB3.size)
    clear hr2 hb2 gw2 hB3 hB4 hr7
    go_wp2_with fail
    go_simp
    go_loopw [9, 10, 11] (fun last i _ wr => ChnR w3 K l q last i wr) (fun _ i _ _ => q - (intOf i).toNat)
    case atStart => exact ⟨0, _, by omega, rfl, rfl, rfl, Below.refl _ _⟩
    case round =>
      obtain ⟨i, s, hi, rfl, rfl, hs, hB⟩ := hrel
      by_cases hlt : i < q
      · have hlti : (i : Int) < (q : Int) := by omega
        have hi5 : (i : Int) ≤ 5 := by omega
        have hi254 : i ≤ 254 := by omega
        have hss : s.size ≤ 32 := by rw [hs]; exact lastL_le K l i
        have HS := Lib.hid hs
        have hrr := hr3.below hB
        have hbr := hb3.below hB
        have hr7r := hr73.below hB
        obtain ⟨kk, hkk⟩ : ∃ s : ByteArray, s = ⟨K.toArray⟩ := ⟨_, rfl⟩
        obtain ⟨uu, huu⟩ : ∃ s : ByteArray, s = ⟨l.toArray⟩ := ⟨_, rfl⟩
        obtain ⟨o, ho⟩ : ∃ s : ByteArray, s = ⟨[UInt8.ofNat (i + 1)].toArray⟩ := ⟨_, rfl⟩
        have hus : uu.size ≤ 80 := by rw [huu]; show l.length ≤ 80; omega
        have hos : o.size ≤ 1 := by rw [ho]; exact Nat.le_refl 1
        have hcvK : (convert 22 9 (.slice A k c)).run Tryd.prog wr = .ok (.string kk) wr := by rw [hkk]; exact run_str (P := Tryd.prog) (c := c) wr Tryd.underlying22 Tryd.underlying5 Tryd.underlying9 hrr
        have hcvU : (convert 22 9 (.slice B j d)).run Tryd.prog wr = .ok (.string uu) wr := by rw [huu]; exact run_str (P := Tryd.prog) (c := d) wr Tryd.underlying22 Tryd.underlying5 Tryd.underlying9 hbr
        have hb1 : (i : Int) + 1 = ((UInt8.ofNat (i + 1)).toNat : Int) := by rw [UInt8.toNat_ofNat']; omega
        have hrd : Rd (wr.alloc (.cells #[.int .u8 ((i : Int) + 1)] 5)) (some ⟨wr.heap.size, 0, none⟩) 1 (u8s [UInt8.ofNat (i + 1)]) := rd_made rfl _ _ _ 1 _ (by rw [hb1]; rfl) rfl
        have hcvO : (convert 22 9 (.slice (some ⟨wr.heap.size, 0, none⟩) 1 1)).run Tryd.prog (wr.alloc (.cells #[.int .u8 ((i : Int) + 1)] 5)) = .ok (.string o) (wr.alloc (.cells #[.int .u8 ((i : Int) + 1)] 5)) := by
          rw [ho]
          exact run_str (P := Tryd.prog) (c := 1) _ Tryd.underlying22 Tryd.underlying5 Tryd.underlying9 hrd
        have n1 : ¬ 9223372036854775807 < s.size + uu.size := by omega
        have n2 : ¬ 9223372036854775807 < s.size + uu.size + o.size := by omega
        have hcut : ∀ w1, (Instr.sliceAt 22 (.slice A7 (32 * q) (32 * q)) (some (.int .i64 (32 * (i : Int)))) (some (.int .i64 (32 * (i : Int) + 32))) none).run Tryd.prog w1 = .ok (.slice (cutA A7 (32 * q) (32 * i)) 32 (32 * q - 32 * i)) w1 := by
          intro w1
          have := run_cut_lh (P := Tryd.prog) Tryd.underlying22 (by kernel_rfl) (A := A7) (n := 32 * q) (c := 32 * q) (lo := 32 * i) (hi := 32 * i + 32) (l := 32 * (i : Int)) (h := 32 * (i : Int) + 32) (by omega) (by omega) (by omega) (by omega) w1
          rwa [show 32 * i + 32 - 32 * i = 32 by omega] at this
        have hrp : Rd wr (cutA A7 (32 * q) (32 * i)) 32 (u8s (lastL K l (i + 1))) := by
          have := hr7r.cutLH (lo := 32 * i) (hi := 32 * i + 32) (c := 32 * q) (by omega) (by omega) (Nat.le_refl _)
          rwa [show 32 * i + 32 - 32 * i = 32 by omega, u8s_drop, u8s_take, outL_part K l hlt] at this
        obtain ⟨L, hL⟩ : ∃ L : ByteArray, L = ⟨(lastL K l (i + 1)).toArray⟩ := ⟨_, rfl⟩
        have hc1 := HH.out (wr.alloc (.cells #[.int .u8 ((i : Int) + 1)] 5)) i kk s uu o hkk HS.out huu ho
        rw [← hL] at hc1
        have HLL := Lib.hid hL
        have HRP := Lib.hid hrp
        clear hs hkk huu ho hb1 hrd hss hus hos hL hr7r hrr hbr hrp
        go_wp2_with fail
        refine hc1.mono ?_
        rintro e w4 ⟨rfl, hB6⟩
        have hG4 : Gr wr w4 := (Gr.alloc _ _).trans hB6
        have hB7 : Below w3.heap.size w3 w4 := hB.trans (Below.mono hG4 hB.size)
        have hcv2 : ∀ c2, (convert 22 9 (.slice (cutA A7 (32 * q) (32 * i)) 32 c2)).run Tryd.prog w4 = .ok (.string L) w4 := by
          intro c2
          rw [HLL.out]
          exact run_str (P := Tryd.prog) (c := c2) w4 Tryd.underlying22 Tryd.underlying5 Tryd.underlying9 (hG4.rd HRP.out)
        clear hc1 hcvK hcvU hcvO hB6 hG4
        go_wp2_with fail
        exact ⟨⟨i + 1, L, by omega, by go_num, rfl, HLL.out, hB7⟩, by simp [intOf]; omega⟩
      · have hge : ¬ (i : Int) < (q : Int) := by omega
        clear hs
        go_wp2_with fail
        go_ret
        exact ⟨rfl, hB5.trans (hB.mono hB5.size)⟩
end Go.Proofs.YtmmjjjdocanmfaaDoor

