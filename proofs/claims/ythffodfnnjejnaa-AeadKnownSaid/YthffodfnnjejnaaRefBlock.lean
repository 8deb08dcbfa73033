/- The walk of the document's Block. No condition. -/
import Derived.Test.YthffodfnnjejnaaRefQuarter
import Derived.Test.YthffodfnnjejnaaKitA
import Derived.Test.YthffodfnnjejnaaBlock
namespace Go.Proofs.Ythffodfnnjejnaa
open Go.RowKit
theorem info39 (l : List UInt32) (h : l.length = 16) : (Try.prog.info? 57).map (·.size) = some (u32s l).length := by simp only [u32s_length, h]; kernel_rfl
theorem refQuarter_int (a b c d : Int) (ha : 0 ≤ a ∧ a < 16) (hb : 0 ≤ b ∧ b < 16) (hc : 0 ≤ c ∧ c < 16) (hd : 0 ≤ d ∧ d < 16) (s : List UInt32) (hs : s.length = 16) (w : World) :
    Calls Try.prog 38 #[.agg (u32s s).toArray, .int .i64 a, .int .i64 b, .int .i64 c, .int .i64 d] w fun e w' => e = .returned (.agg (u32s (quarterL s a.toNat b.toNat c.toNat d.toNat)).toArray) ∧ Below w.heap.size w w' := by
  have h := refQuarter_any a.toNat b.toNat c.toNat d.toNat (by omega) (by omega) (by omega) (by omega) s hs w
  rwa [Int.toNat_of_nonneg ha.1, Int.toNat_of_nonneg hb.1, Int.toNat_of_nonneg hc.1, Int.toNat_of_nonneg hd.1] at h
theorem refPut_low4 (x : UInt32) (w : World) :
    Calls Try.prog 27 #[.int .u64 (x.toNat : Nat), .int .i64 4, .bool false] w fun e w' => e = .returned (.string ⟨(leBytes 4 x.toNat).toArray⟩) ∧ Below w.heap.size w w' :=
  refPut_any x.toNat (by have := x.toNat_lt; omega) 4 false w
set_option maxHeartbeats 4000000 in
theorem refBlock_any (K : List UInt8) (hK : K.length = 32) (c : UInt32) (N : List UInt8) (hN : N.length = 12) (w : World) :
    Calls Try.prog 23 #[.string ⟨K.toArray⟩, .int .u32 c.toNat, .string ⟨N.toArray⟩] w fun e w' => e = .returned (.string ⟨(blockL K c N).toArray⟩) ∧ Below w.heap.size w w' := by
  go_enter Try.func23, Try.ntmps23
  go_wp2_with fail
  generalize hW : w.alloc _ = W
  have hs : Arr W w.heap.size 57 (u32s (keyAt K 0)) := by rw [← hW]; exact Arr.newAt rfl (by kernel_rfl)
  have hb : Below w.heap.size w W := by rw [← hW]; exact (Below.refl _ _).alloc (Nat.le_refl _) _
  clear hW
  go_loopw [8] (fun i wr => ∃ r : Nat, r ≤ 8 ∧ i = .int .i64 r ∧ Arr wr w.heap.size 57 (u32s (keyAt K r)) ∧ Below w.heap.size w wr) (fun i _ => 8 - (intOf i).toNat)
  case atStart => exact ⟨0, by omega, rfl, hs, hb⟩
  case round =>
    obtain ⟨r, hr8, rfl, hs, hb⟩ := hrel
    by_cases hlt : r < 8
    · have hc := run_cutS (P := Try.prog) Try.underlying9 K (4 * r) (4 * r + 4) (4 * (r : Int)) (4 * (r : Int) + 4) (by omega) (by omega) (by omega) (by omega) wr
      rw [show 4 * r + 4 - 4 * r = 4 by omega] at hc
      have hlo := refWord_low ((K.drop (4 * r)).take 4) (by rw [List.length_take]; omega) wr
      have c1 := hs.u32 (a := 4 + r) (by simp; omega)
      have f1 := hs.frozen (4 + r)
      rw [← w4_nat] at hlo
      obtain ⟨x, hx⟩ : ∃ x, x = w4 K r := ⟨_, rfl⟩
      rw [← hx] at hlo
      have e1 : (x.toNat : Int) % 4294967296 = x.toNat := by have := x.toNat_lt; omega
      have HX := Lib.hid hx
      clear hx
      go_wp2_with (go_at_call 37; refine hlo.mono ?_; rintro e w1 ⟨rfl, rfl⟩)
      go_roundw
      case rel =>
        have hs' := hs.set (4 + r) (.int .u32 (x.toNat : Int))
        rw [u32s_set, HX.out] at hs'
        exact ⟨r + 1, by omega, by go_num, HX.out ▸ hs', hb.trans (below_setCell (Nat.le_refl _))⟩
      case measure => simp [intOf]; omega
    · obtain rfl : r = 8 := by omega
      obtain ⟨s8, hs8⟩ : ∃ z, z = keyAt K 8 := ⟨_, rfl⟩
      rw [← hs8] at hs
      have hl8 : s8.length = 16 := by rw [hs8]; simp
      have HS := Lib.hid hs8
      clear hs8
      have c1 := hs.u32 (a := 12) (by omega)
      have f1 := hs.frozen 12
      simp only [show ((8 : Nat) : Int) = 8 from rfl]
      go_wp2_with fail
      go_loopw [9] (fun i wr => ∃ r : Nat, r ≤ 3 ∧ i = .int .i64 r ∧ Arr wr w.heap.size 57 (u32s (nonceAt (s8.set 12 c) N r)) ∧ Below w.heap.size w wr) (fun i _ => 3 - (intOf i).toNat)
      case atStart =>
        have hs' := hs.set 12 (.int .u32 (c.toNat : Int))
        rw [u32s_set] at hs'
        exact ⟨0, by omega, rfl, hs', hb.trans (below_setCell (Nat.le_refl _))⟩
      case round =>
        obtain ⟨r, hr8, rfl, hs, hb⟩ := hrel
        by_cases hlt : r < 3
        · have hc := run_cutS (P := Try.prog) Try.underlying9 N (4 * r) (4 * r + 4) (4 * (r : Int)) (4 * (r : Int) + 4) (by omega) (by omega) (by omega) (by omega) wr
          rw [show 4 * r + 4 - 4 * r = 4 by omega] at hc
          have hlo := refWord_low ((N.drop (4 * r)).take 4) (by rw [List.length_take]; omega) wr
          have c1 := hs.u32 (a := 13 + r) (by simp; omega)
          have f1 := hs.frozen (13 + r)
          rw [← w4_nat] at hlo
          obtain ⟨x, hx⟩ : ∃ x, x = w4 N r := ⟨_, rfl⟩
          rw [← hx] at hlo
          have e1 : (x.toNat : Int) % 4294967296 = x.toNat := by have := x.toNat_lt; omega
          have HX := Lib.hid hx
          clear hx
          go_wp2_with (go_at_call 37; refine hlo.mono ?_; rintro e w1 ⟨rfl, rfl⟩)
          go_roundw
          case rel =>
            have hs' := hs.set (13 + r) (.int .u32 (x.toNat : Int))
            rw [u32s_set, HX.out] at hs'
            exact ⟨r + 1, by omega, by go_num, HX.out ▸ hs', hb.trans (below_setCell (Nat.le_refl _))⟩
          case measure => simp [intOf]; omega
        · obtain rfl : r = 3 := by omega
          obtain ⟨f, hf0⟩ : ∃ z, z = nonceAt (s8.set 12 c) N 3 := ⟨_, rfl⟩
          rw [← hf0] at hs
          have hlf : f.length = 16 := by rw [hf0]; simp [hl8]
          have HF : Hid (f = beginL K c N) := by show _ = _; rw [hf0, HS.out]; rfl
          clear hf0 HS c1 f1
          simp only [show ((3 : Nat) : Int) = 3 from rfl]
          go_wp2_with first
            | (refine wpList_load_mid rfl 57 (.tmp 7) rfl w.heap.size 0 rfl (u32s f) _ hs.range Try.underlying57 rfl (info39 f hlf) ?_)
            | (refine wpList_new rfl 57 (.tmp 10) (.tmp 49) rfl _ (u32s f) rfl rfl rfl (by simp only [u32s_length, hlf]; rfl) (info39 f hlf) (u32s_oneCell f) ?_; intro w3 hv hG3)
          have hf := hs.gr hG3
          have l7 := hs.lt
          have hb3 := hb.trans (hG3.mono (Nat.le_of_lt l7))
          clear hs hb hG3
          generalize wr.heap.size = g10 at hv l7 ⊢
          obtain ⟨g7, hg7⟩ : ∃ g, g = w.heap.size := ⟨_, rfl⟩
          rw [← hg7] at hf l7 hb3 ⊢
          have HG7 := Lib.hid hg7
          clear hg7
          go_loopw [11] (fun i wr => ∃ r : Nat, r ≤ 10 ∧ i = .int .i64 r ∧ Arr wr g10 57 (u32s (roundsAt f r)) ∧ Below g10 w3 wr) (fun i _ => 10 - (intOf i).toNat)
          case atStart => exact ⟨0, by omega, rfl, hv, Below.refl _ _⟩
          case round =>
            obtain ⟨r, hr8, rfl, hv, hbv⟩ := hrel
            by_cases hlt : r < 10
            · obtain ⟨s, hs⟩ : ∃ z, z = roundsAt f r := ⟨_, rfl⟩
              have hl : s.length = 16 := by rw [hs]; simp [hlf]
              rw [← hs] at hv
              have HS := Lib.hid hs
              clear hs
              go_wp2_with first
                | (refine wpList_load_mid rfl 57 (.tmp 10) rfl g10 0 rfl (u32s _) _ hv.range Try.underlying57 rfl (info39 _ (by simp only [quarterL_length, hl])) ?_)
                | (go_at_call 38; refine (refQuarter_int _ _ _ _ (by decide) (by decide) (by decide) (by decide) _ (by simp only [quarterL_length, hl]) _).mono ?_; rintro e w4 ⟨rfl, hB4⟩; replace hbv := hbv.trans (hB4.mono (Nat.le_of_lt hv.lt)); replace hv := hv.below hB4 hv.lt; clear hB4)
                | (refine wpList_put hv rfl 57 (.tmp 10) _ rfl (u32s _) rfl rfl (by simp only [u32s_length, quarterL_length]) (info39 _ (by simp only [quarterL_length, hl])) (u32s_oneCell _) ?_; clear hv; intro w5 hv hB5 hO5; replace hbv := hbv.trans hB5; clear hB5 hO5)
              go_roundw
              case rel => exact ⟨r + 1, by omega, by go_num, by rw [roundsAt, ← HS.out]; exact hv, hbv⟩
              case measure => simp [intOf]; omega
            · obtain rfl : r = 10 := by omega
              have hf := hf.below hbv l7
              have hbw := hb3.trans (hbv.mono (by omega))
              obtain ⟨v, hv0⟩ : ∃ z, z = roundsAt f 10 := ⟨_, rfl⟩
              have hlv : v.length = 16 := by rw [hv0]; simp [hlf]
              rw [← hv0] at hv
              have HV := Lib.hid hv0
              clear hv0 hb3 hbv
              simp only [show ((10 : Nat) : Int) = 10 from rfl]
              go_wp2_with fail
              generalize wr = W7 at hv hf hbw ⊢
              go_loopw [12, 13] (fun so i wr => ∃ r : Nat, r ≤ 16 ∧ i = .int .i64 r ∧ so = .string ⟨(outAt v f r).toArray⟩ ∧ Gr W7 wr) (fun _ i _ => 16 - (intOf i).toNat)
              case atStart => exact ⟨0, by omega, rfl, rfl, Gr.refl _⟩
              case round =>
                obtain ⟨r, hr8, rfl, rfl, hgw⟩ := hrel
                by_cases hlt : r < 16
                · have hv := hv.gr hgw
                  have hf := hf.gr hgw
                  have HO : Hid (outAt v f (r + 1) = outAt v f r ++ leBytes 4 (v.getD r 0 + f.getD r 0).toNat) := rfl
                  have hlo : (outAt v f r).length = 4 * r := by simp
                  generalize outAt v f r = o at HO hlo ⊢
                  go_wp2_with fail
                  refine wp_region_ssaL (by kernel_rfl) [IsV (.string ⟨(o).toArray⟩), IsV (.int .i64 (r : Nat)), IsV (.pointer (some ⟨g10, r, none⟩)), IsV (.int .u32 (v.getD r 0).toNat), IsV (.int .i64 (r : Nat)), IsV (.pointer (some ⟨g7, r, none⟩)), IsV (.int .u32 (f.getD r 0).toNat), IsV (.int .u32 (v.getD r 0 + f.getD r 0).toNat), IsV (.int .u64 ((v.getD r 0 + f.getD r 0).toNat : Nat)), IsV (.string ⟨(leBytes 4 (v.getD r 0 + f.getD r 0).toNat).toArray⟩), IsV (.string ⟨(o ++ leBytes 4 (v.getD r 0 + f.getD r 0).toNat).toArray⟩), IsV (.string ⟨(o ++ leBytes 4 (v.getD r 0 + f.getD r 0).toNat).toArray⟩)] (by kernel_rfl) ?_ ?_ ?_
                  · intro φ hφ v w1 w2 h hg
                    simp only [List.mem_cons, List.not_mem_nil, or_false] at hφ
                    rcases hφ with rfl | rfl | rfl | rfl | rfl | rfl | rfl | rfl | rfl | rfl | rfl | rfl
                    all_goals first | exact h | exact RdV.gr h hg
                  · refine ⟨?_, ?_, ?_, ?_, ?_, ?_, ?_, ?_, ?_, ?_, ?_, ?_, trivial⟩
                    · intro a1 w1 hG hF
                      exact s_old rfl (wants0 rfl) (.tmp 12) (.inr rfl) (.string ⟨(o).toArray⟩) (hF.ol 12 (by kernel_rfl)) rfl
                    · intro a1 w1 hG hF
                      exact s_old rfl (wants0 rfl) (.tmp 13) (.inr rfl) (.int .i64 (r : Nat)) (hF.ol 13 (by kernel_rfl)) rfl
                    · intro a1 w1 hG hF
                      have e10 : a1.eval (.tmp 10) = .pointer (some ⟨g10, 0, none⟩) := hF.ol 10 (by kernel_rfl)
                      obtain ⟨_, e75, rfl⟩ := hF.dp 1 75 (by kernel_rfl)
                      exact s_is rfl (wants0 rfl) _ rfl (run_idx Try.underlying57 (by kernel_rfl) e10 e75 (by omega))
                    · intro a1 w1 hG hF
                      obtain ⟨_, e76, rfl⟩ := hF.dp 2 76 (by kernel_rfl)
                      exact s_is rfl (wants0 rfl) _ rfl (run_load1 Try.underlying43 e76 ((hv.gr ((Gr.drew wr).trans hG)).u32 (by omega)))
                    · intro a1 w1 hG hF
                      exact s_old rfl (wants0 rfl) (.tmp 13) (.inr rfl) (.int .i64 (r : Nat)) (hF.ol 13 (by kernel_rfl)) rfl
                    · intro a1 w1 hG hF
                      have e7 : a1.eval (.tmp 7) = .pointer (some ⟨g7, 0, none⟩) := hF.ol 7 (by kernel_rfl)
                      obtain ⟨_, e78, rfl⟩ := hF.dp 4 78 (by kernel_rfl)
                      exact s_is rfl (wants0 rfl) _ rfl (run_idx Try.underlying57 (by kernel_rfl) e7 e78 (by omega))
                    · intro a1 w1 hG hF
                      obtain ⟨_, e79, rfl⟩ := hF.dp 5 79 (by kernel_rfl)
                      exact s_is rfl (wants0 rfl) _ rfl (run_load1 Try.underlying43 e79 ((hf.gr ((Gr.drew wr).trans hG)).u32 (by omega)))
                    · intro a1 w1 hG hF
                      obtain ⟨_, e77, rfl⟩ := hF.dp 3 77 (by kernel_rfl)
                      obtain ⟨_, e80, rfl⟩ := hF.dp 6 80 (by kernel_rfl)
                      exact s_is rfl (wants0 rfl) _ rfl (run_add32 e77 e80)
                    · intro a1 w1 hG hF
                      obtain ⟨_, e81, rfl⟩ := hF.dp 7 81 (by kernel_rfl)
                      exact s_is rfl (wants0 rfl) _ rfl (run_conv_u32_u64 Try.underlying43 Try.underlying36 e81)
                    · intro a1 w1 hG hF
                      obtain ⟨_, e82, rfl⟩ := hF.dp 8 82 (by kernel_rfl)
                      exact s_call rfl (wants0 rfl) _ rfl _ _ (by simp only [execOp, resolve, invoke, List.map_toArray, List.map_cons, List.map_nil, e82]; go_simp) ((refPut_low4 _ w1).mono fun e w2 ⟨he, hb⟩ => ⟨_, he, rfl, hb⟩)
                    · intro a1 w1 hG hF
                      obtain ⟨_, e74, rfl⟩ := hF.dp 0 74 (by kernel_rfl)
                      obtain ⟨_, e83, rfl⟩ := hF.dp 9 83 (by kernel_rfl)
                      exact s_is rfl (wants0 rfl) _ rfl (run_addS (by rw [hlo, leBytes_length]; omega) e74 e83)
                    · intro a1 w1 hG hF
                      exact s_same rfl (wants0 rfl) (.tmp 84) (.inl rfl) (hF.dp 10 84 (by kernel_rfl))
                  · intro vs w1 hG hf
                    have z12 : vs 11 = .string ⟨(o ++ leBytes 4 (v.getD r 0 + f.getD r 0).toNat).toArray⟩ := hf.2.2.2.2.2.2.2.2.2.2.2.1
                    clear hf
                    simp only [putAll, Nat.zero_add, Nat.reduceAdd, z12]
                    clear z12
                    generalize leBytes 4 (v.getD r 0 + f.getD r 0).toNat = q at HO ⊢
                    go_simp
                    go_wp2_with fail
                    go_roundw
                    case rel => exact ⟨r + 1, by omega, by go_num, by rw [HO.out], hgw.trans ((Gr.drew wr).trans hG)⟩
                    case measure => simp [intOf]; omega
                · obtain rfl : r = 16 := by omega
                  have HO : Hid (outAt v f 16 = blockL K c N) := by show _ = _; rw [HV.out, HF.out]; rfl
                  generalize outAt v f 16 = o at HO ⊢
                  go_wp2_with fail
                  go_ret
                  rw [HO.out]
                  exact ⟨rfl, HG7.out ▸ hbw.trans (hgw.mono (by have := hbw.size; have := HG7.out; omega))⟩
end Go.Proofs.Ythffodfnnjejnaa
