/- The walk of the document's Sum (SHA-256 by its rounds). No condition. -/
import Derived.Test.YthpgldfjcancjaaDoorShaE
import Derived.Test.YthpgldfjcancjaaDoorKitM
import Derived.Test.YthpgldfjcancjaaDoorKitA
namespace Go.Proofs.YthpgldfjcancjaaDoor
open Go.RowKit
theorem blk_word {p : List UInt8} {j r : Nat} (hr : r < 16) : ((blkS p j).drop (4 * r)).take 4 = (p.drop (64 * j + 4 * r)).take 4 := by
  rw [blkS, List.drop_take, List.drop_drop, List.take_take, Nat.min_eq_left (by omega)]
theorem addU_comm4 (a b c d : UInt32) : a + b + c + d = d + c + b + a := by ac_rfl
/-- A slice that reads the text, its mark and some noughts, and may be written behind. -/
def PadR (w3 : World) (m z : Nat) (l : List UInt8) (v : Value) (wr : World) : Prop :=
  ∃ (k : Nat) (A : Option Addr) (c : Nat), k ≤ z ∧ v = .slice A (m + 1 + k) c ∧ OwnG wr w3.heap.size A (m + 1 + k) c (u8s (markS l k)) ∧ Gr w3 wr
set_option maxRecDepth 100000 in
set_option maxHeartbeats 8000000 in
theorem refSum_any (l : List UInt8) (hl : l.length ≤ 1000000) (w : World) :
    Calls Tryd.prog 26 #[.string ⟨l.toArray⟩] w fun e w' => e = .returned (.string ⟨(shaL l).toArray⟩) ∧ Below w.heap.size w w' := by
  obtain ⟨i0, hi0, hz0, hz1, hz2⟩ := info_parts Tryd.info5
  have hcs := fun w => constants_any w
  obtain ⟨KL, hKL⟩ : ∃ x, x = (u32s keysL).toArray := ⟨_, rfl⟩
  obtain ⟨SL, hSL⟩ : ∃ x, x = (u32s startL).toArray := ⟨_, rfl⟩
  rw [← hKL, ← hSL] at hcs
  obtain ⟨m, hm⟩ : ∃ m, m = l.length := ⟨_, rfl⟩
  obtain ⟨cap, Wc, hcv0⟩ := conv_own (P := Tryd.prog) 9 44 5 l m hm.symm (by omega) Tryd.underlying9 Tryd.underlying44 Tryd.underlying5
  obtain ⟨s, hs⟩ : ∃ s : ByteArray, s = ⟨l.toArray⟩ := ⟨_, rfl⟩
  have hcv := fun w => (hcv0 w).run
  have hss : s.size = m := by rw [hs, hm]; rfl
  rw [← hs] at hcv ⊢
  rw [← hm] at hl
  have HM := Lib.hid hm
  have HKL := Lib.hid hKL
  have HSL := Lib.hid hSL
  have HCS := Lib.hid hcs
  have HCV := Lib.hid hcv0
  have HS := Lib.hid hs
  clear hcs hKL hSL hm hcv0 hs
  go_enter Tryd.func26, Tryd.ntmps26
  go_wp2_with first
    | (go_at_call 34; refine (HCS.out _).mono ?_; rintro e w1 ⟨rfl, hB1⟩)
    | (refine wpList_putM (mem_two hB1 (l1 := u32s (List.replicate 64 0)) (l2 := u32s (List.replicate 8 0)) (by kernel_rfl) (by kernel_rfl)) 1 rfl rfl 85 (.tmp 3) (.tmp 23) rfl (u32s keysL) rfl (by rw [← HKL.out]; rfl) (by simp [keysL]) (info64 keysL rfl) (u32s_oneCell _) ?_; intro w2 hM2 _; simp only [List.set] at hM2)
    | (refine wpList_putM hM2 0 rfl rfl 86 (.tmp 4) (.tmp 24) rfl (u32s startL) rfl (by rw [← HSL.out]; rfl) (by simp [startL]) (info8 startL rfl) (u32s_oneCell _) ?_; intro w3 hM3 _; simp only [List.set] at hM3)
    | (at_builtin; go_must (refine wpList_appG1 (w := Wc w3) rfl (.tmp 27) (.tmp 28) 44 5 rfl i0 (.int .u8 0) Tryd.underlying44 hi0 hz0 hz1 (by rw [hz2]; omega) rfl rfl (HCV.out w3).own _ (.int .u8 ((128 : UInt8).toNat : Int)) rfl rfl rfl (by omega) (HCV.out w3).below.size ?_); intro A2 c2 w4 hA4)
  have hG3 : Gr w w3 := hM3.below
  have ho2 := hA4.own
  have hG4 : Gr w3 w4 := Below.trans (HCV.out w3).below hA4.below
  rw [show u8s l ++ [Value.int .u8 ((128 : UInt8).toNat : Int)] = u8s (markS l 0) by simp [markS, u8s]] at ho2
  generalize w1.heap.size = g3 at hM3 ⊢
  obtain ⟨g4, hg4⟩ : ∃ g, g = g3 + 1 := ⟨_, rfl⟩
  rw [← hg4] at hM3
  simp only [← hg4]
  clear hA4 hB1 hM2 hg4
  go_simp
  obtain ⟨z, hz⟩ : ∃ z, z = (119 - m % 64) % 64 := ⟨_, rfl⟩
  have hzl : z < 64 := by rw [hz]; exact Nat.mod_lt _ (by omega)
  have HZ : Hid (∀ k, k ≤ z → ((m + 1 + k) % 64 = 56 ↔ k = z)) := by intro k hk; omega
  have HZE := Lib.hid hz
  clear hz
  go_loopw [5] (fun v wr => PadR w3 m z l v wr) (fun v _ => m + 1 + z - lenSl v)
  case atStart => exact ⟨0, A2, c2, by omega, rfl, ho2, hG4⟩
  case round =>
    clear ho2 hG4
    obtain ⟨k, A3, c3, hk, rfl, hown, hG5⟩ := hrel
    have hz1 := HZ.out k hk
    obtain ⟨q, hq⟩ : ∃ q, q = m + 1 + k := ⟨_, rfl⟩
    rw [← hq] at hown hz1 ⊢
    have hbs := hG5.size
    have HQ := Lib.hid hq
    have hql : q ≤ 1000100 := by omega
    by_cases hlt : k < z
    · have t1 : (((q : Int) % 64) == 56) = false := by rw [beq_eq_false_iff_ne]; omega
      have t2 : (((q : Int) % 64) != 56) = true := by rw [bne_iff_ne]; omega
      clear hz1 hq
      go_wp2_with (at_builtin; go_must (refine wpList_appG1 (w := wr) rfl (.tmp 34) (.tmp 35) 44 5 rfl i0 (.int .u8 0) Tryd.underlying44 hi0 hz0 hz1 (by rw [hz2]; omega) rfl rfl hown _ (.int .u8 ((0 : UInt8).toNat : Int)) rfl rfl rfl (by omega) hbs ?_); intro A6 c6 w6 hA6)
      have ho := hA6.own
      have hG6 : Gr w3 w6 := Below.trans hG5 hA6.below
      rw [← markS_succ] at ho
      have HG6 := Lib.hid hG6
      clear hA6 hown hG5 hG6
      go_simp
      have hq2 := HQ.out
      refine ⟨⟨k + 1, A6, c6, by omega, by rw [hq2]; rfl, by rw [show m + 1 + (k + 1) = q + 1 by omega]; exact ho, HG6.out⟩, ?_⟩
      show m + 1 + z - (q + 1) < m + 1 + z - q
      omega
    · obtain rfl : k = z := by omega
      have t1 : (((q : Int) % 64) == 56) = true := by rw [beq_iff_eq]; omega
      have t2 : (((q : Int) % 64) != 56) = false := by rw [bne_eq_false_iff_eq]; omega
      have hpad : markS l k ++ (leBytes 8 (m * 8)).reverse = padS l := by rw [markS, padS, HZE.out, HM.out]
      obtain ⟨N, hN1, hN2⟩ := padS_length l
      obtain ⟨p, hp⟩ : ∃ p, p = padS l := ⟨_, rfl⟩
      rw [← hp] at hpad hN1
      rw [← HM.out] at hN2
      have HP := Lib.hid hp
      have hpl : p.length = 64 * N := hN1
      have hNl : 64 * N ≤ 1000100 := by omega
      have hq8 : q + 8 = 64 * N := by
        rw [← hpl, ← hpad, List.length_append, markS_length]
        have e1 := HQ.out
        have e2 := HM.out
        simp
        omega
      have hput := fun w => refPut_any (m * 8) (by omega) 8 true w
      rw [show (min (8 : Int) 64).toNat = 8 from rfl, show putL true 8 (m * 8) = (leBytes 8 (m * 8)).reverse from rfl] at hput
      obtain ⟨u, hu⟩ : ∃ u, u = (leBytes 8 (m * 8)).reverse := ⟨_, rfl⟩
      have hul : u.length = 8 := by rw [hu]; simp
      rw [← hu] at hput hpad
      have HPUT := Lib.hid hput
      have HQ8 := Lib.hid hq8
      have HPL := Lib.hid hpl
      have HPAD := Lib.hid hpad
      clear hp hN1 hN2 hpl hq8 hpad hput hu hz1 hq hzl HZ hk hlt
      go_wp2_with first
        | (go_at_call 35; refine (HPUT.out _).mono ?_; rintro e w6 ⟨rfl, hB6⟩; have hown6 := hown.gr hB6)
        | (at_builtin; go_must (refine wpList_appG (w := w6) rfl (.tmp 37) (.tmp 42) 44 9 5 rfl i0 (.int .u8 0) Tryd.underlying44 hi0 hz0 hz1 (by rw [hz2]; omega) rfl rfl hown6 _ rfl (Src.ofStr Tryd.underlying9 u hul) (by omega) (Nat.le_trans hbs hB6.size) ?_); intro A7 c7 w7 hA7)
      have ho7 := hA7.own
      rw [← u8s_append, HPAD.out, HQ8.out] at ho7
      have hG7 : Gr w3 w7 := Below.trans (Below.trans hG5 (hB6.mono hbs)) hA7.below
      have hM7 := hM3.gr (Nat.le_refl _) hG7
      have hr7 := ho7.rd
      have hc7 := ho7.le
      have hA7b : ∀ ad, A7 = some ad → ad.block ∉ [g4, g3] := by
        intro ad e
        have h1 := (ho7.plain ad e).2
        have h2 := hM3.lt 0 rfl
        have h3 := hM3.lt 1 rfl
        simp
        omega
      have hM3lt : w.heap.size ≤ g3 ∧ w.heap.size ≤ g4 := ⟨hM3.le 1 rfl, hM3.le 0 rfl⟩
      have hW := MemW.of_mem hM7
      simp only [List.map] at hW
      clear hA7 hown6 hown hB6 ho7 hG5 hM3
      rw [HQ8.out]
      go_simp
      obtain ⟨H, hH⟩ : ∃ H : Nat → List UInt32, H = hashN p := ⟨_, rfl⟩
      have HHL : Hid (∀ k, (H k).length = 8) := by intro k; rw [hH]; exact hashN_length p k
      have HHS : Hid (∀ k, mixU (H k) (blkS p k) = H (k + 1)) := by intro k; rw [hH]; rfl
      have HHE : Hid (∀ k, k = N → shaL l = outS (H k)) := by
        intro k hk
        rw [hk, hH, shaL, ← HP.out, HPL.out, Nat.mul_div_cancel_left _ (by omega)]
      have hH0 : u32s startL = u32s (H 0) := by rw [hH]; rfl
      have hKk : ∃ ks, ks = keysL := ⟨_, rfl⟩
      obtain ⟨ks, hks⟩ := hKk
      have hksl : ks.length = 64 := by rw [hks]; rfl
      rw [hH0, ← hks] at hW
      have HKS := Lib.hid hks
      clear hH hH0 hks hM7
      go_loopw [6] (fun iv wr => ∃ k : Nat, k ≤ N ∧ iv = .int .i64 ((64 * k : Nat) : Int) ∧ MemW [g4, g3] w7 wr [(g4, 86, u32s (H k)), (g3, 85, u32s ks)]) (fun i _ => 64 * N - (intOf i).toNat)
      case atStart => exact ⟨0, by omega, rfl, hW⟩
      case round =>
        clear hW
        obtain ⟨j, hj, rfl, hW⟩ := hrel
        obtain ⟨o, ho⟩ : ∃ o, o = 64 * j := ⟨_, rfl⟩
        rw [← ho]
        have hol : o ≤ 1000100 := by omega
        by_cases hlt : j < N
        · have hoN : o < 64 * N := by omega
          have ho64 : o + 64 ≤ 64 * N := by omega
          obtain ⟨b, hb⟩ : ∃ b, b = blkS p j := ⟨_, rfl⟩
          obtain ⟨h0, hh0⟩ : ∃ h, h = H j := ⟨_, rfl⟩
          have hh0l : h0.length = 8 := by rw [hh0]; exact HHL.out j
          have hst := HHS.out j
          rw [← hh0, ← hb] at hst
          rw [← hh0] at hW
          have HST := Lib.hid hst
          have HB := Lib.hid hb
          have HO := Lib.hid ho
          clear hb hh0 hst ho
          go_wp2_with fail
          generalize hW8 : wr.alloc _ = W8
          obtain ⟨g7, hg7⟩ : ∃ g, g = wr.heap.size := ⟨_, rfl⟩
          obtain ⟨F, hF⟩ : ∃ F : Nat → List UInt32, F = wA b := ⟨_, rfl⟩
          have HFL : Hid (∀ r, (F r).length = 64) := by intro r; rw [hF]; simp
          have HFS : Hid (∀ r, (F r).set r (wordB b r) = F (r + 1)) := by intro r; rw [hF]; rfl
          have HFE : Hid (∀ r, F r = wA b r) := by intro r; rw [hF]
          replace hW : MemW [g4, g3] w7 W8 [(g7, 85, u32s (F 0)), (g4, 86, u32s h0), (g3, 85, u32s ks)] := by
            rw [← hW8, hg7, hF]
            exact hW.new (by kernel_rfl)
          simp only [← hg7]
          clear hF hg7 hW8
          go_simp
          go_loopw [8] (fun i wr => ∃ r : Nat, r ≤ 16 ∧ i = .int .i64 r ∧ MemW [g4, g3] w7 wr [(g7, 85, u32s (F r)), (g4, 86, u32s h0), (g3, 85, u32s ks)]) (fun i _ => 16 - (intOf i).toNat)
          case atStart => exact ⟨0, by omega, rfl, hW⟩
          case round =>
            clear hW
            obtain ⟨r, hr16, rfl, hW⟩ := hrel
            by_cases hl16 : r < 16
            · have hcut := fun w1 => run_cut_lh (P := Tryd.prog) Tryd.underlying44 (by kernel_rfl) (A := A7) (n := 64 * N) (c := c7) (lo := o + 4 * r) (hi := o + 4 * r + 4) (l := (o : Int) + 4 * (r : Int)) (h := (o : Int) + 4 * (r : Int) + 4) (by omega) (by omega) (by omega) (by omega) w1
              rw [show o + 4 * r + 4 - (o + 4 * r) = 4 by omega] at hcut
              have hrd := (hW.rd hr7 hA7b).cutLH (lo := o + 4 * r) (hi := o + 4 * r + 4) (by omega) (by omega) hc7
              rw [show o + 4 * r + 4 - (o + 4 * r) = 4 by omega, u8s_drop, u8s_take] at hrd
              have hbw : (p.drop (o + 4 * r)).take 4 = (b.drop (4 * r)).take 4 := by rw [HB.out, HO.out, blk_word hl16]
              rw [hbw] at hrd
              have hcv2 := fun c => run_str (P := Tryd.prog) (c := c) wr Tryd.underlying44 Tryd.underlying5 Tryd.underlying9 hrd
              have hwd := fun w => refWord_high ((b.drop (4 * r)).take 4) (by rw [List.length_take]; omega) w
              simp only [← wordB_toNat (b := b) (k := r)] at hwd
              obtain ⟨x, hx⟩ : ∃ x, x = wordB b r := ⟨_, rfl⟩
              obtain ⟨lw, hlw⟩ : ∃ lw, lw = (b.drop (4 * r)).take 4 := ⟨_, rfl⟩
              rw [← hx] at hwd
              rw [← hlw] at hwd hcv2
              have c3 := (hW.at_ 0 rfl).u32 (a := r) (by rw [HFL.out]; omega)
              have f3 := (hW.at_ 0 rfl).frozen r
              have hW' := hW.set 0 rfl r (.int .u32 (x.toNat : Int))
              rw [u32s_set, hx, HFS.out r, ← hx] at hW'
              simp only [List.set] at hW'
              have HWD := Lib.hid hwd
              have hxl := x.toNat_lt
              have hCV := hcv2 (c7 - (o + 4 * r))
              clear hx hlw hwd hbw hrd hcv2
              go_wp2_with (go_at_call 36; refine (HWD.out _).mono ?_; rintro e w1 ⟨rfl, rfl⟩)
              exact ⟨⟨r + 1, by omega, by go_num, hW'⟩, by simp [intOf]; omega⟩
            · obtain rfl : r = 16 := by omega
              obtain ⟨G, hG⟩ : ∃ G : Nat → List UInt32, G = wB (F 16) := ⟨_, rfl⟩
              have HGL : Hid (∀ r, (G r).length = 64) := by intro r; rw [hG, wB_length, HFL.out]
              have HGS : Hid (∀ r, (G r).set (16 + r) (wS (G r) r) = G (r + 1)) := by intro r; rw [hG]; rfl
              have HGE : Hid (∀ r, r = 48 → schedU b = G r) := by intro r hr; rw [hr, hG, HFE.out]; rfl
              have hG0 : F 16 = G 0 := by rw [hG]; rfl
              rw [hG0] at hW
              clear hG hG0 hl16 hr16
              simp only [show ((16 : Nat) : Int) = 16 from rfl]
              go_wp2_with fail
              go_simp
              go_loopw [9] (fun i wr => ∃ r : Nat, r ≤ 48 ∧ i = .int .i64 ((16 + r : Nat) : Int) ∧ MemW [g4, g3] w7 wr [(g7, 85, u32s (G r)), (g4, 86, u32s h0), (g3, 85, u32s ks)]) (fun i _ => 64 - (intOf i).toNat)
              case atStart => exact ⟨0, by omega, rfl, hW⟩
              case round =>
                clear hW
                obtain ⟨r, hr, rfl, hW⟩ := hrel
                obtain ⟨t, ht⟩ : ∃ t, t = 16 + r := ⟨_, rfl⟩
                rw [← ht]
                by_cases hlt64 : t < 64
                · have ht16 : 16 ≤ t := by omega
                  obtain ⟨x2, hx2⟩ : ∃ x, x = (G r).getD (t - 2) 0 := ⟨_, rfl⟩
                  obtain ⟨x7, hx7⟩ : ∃ x, x = (G r).getD (t - 7) 0 := ⟨_, rfl⟩
                  obtain ⟨x15, hx15⟩ : ∃ x, x = (G r).getD (t - 15) 0 := ⟨_, rfl⟩
                  obtain ⟨x16, hx16⟩ : ∃ x, x = (G r).getD (t - 16) 0 := ⟨_, rfl⟩
                  have c2 := (hW.at_ 0 rfl).u32 (a := t - 2) (by rw [HGL.out]; omega)
                  have c15 := (hW.at_ 0 rfl).u32 (a := t - 15) (by rw [HGL.out]; omega)
                  have c7w := fun w1 (h : Gr wr w1) => ((hW.gr h).at_ 0 rfl).u32 (a := t - 7) (by rw [HGL.out]; omega)
                  have c16w := fun w1 (h : Gr wr w1) => ((hW.gr h).at_ 0 rfl).u32 (a := t - 16) (by rw [HGL.out]; omega)
                  rw [← hx2] at c2
                  rw [← hx7] at c7w
                  rw [← hx15] at c15
                  rw [← hx16] at c16w
                  obtain ⟨x, hx⟩ : ∃ x, x = x16 + (rr x15 7 ^^^ rr x15 18 ^^^ x15 >>> UInt32.ofNat 3) + x7 + (rr x2 17 ^^^ rr x2 19 ^^^ x2 >>> UInt32.ofNat 10) := ⟨_, rfl⟩
                  have hxs : (G r).set t x = G (r + 1) := by
                    rw [← HGS.out r, ht, hx, wS, hx2, hx7, hx15, hx16, ht, show 16 + r - 2 = 14 + r by omega, show 16 + r - 7 = 9 + r by omega, show 16 + r - 15 = 1 + r by omega, show 16 + r - 16 = r by omega, addU_comm4]
                    rfl
                  have HXS := Lib.hid hxs
                  have HX := Lib.hid hx
                  have HT := Lib.hid ht
                  have HC7 := Lib.hid c7w
                  have HC16 := Lib.hid c16w
                  have hlr : r < 48 := by omega
                  clear hx2 hx7 hx15 hx16 hx hxs ht c7w c16w
                  go_wp2_with fail
                  refine wp_region_ssaL (by kernel_rfl) [IsV (.int .i64 ((t : Nat) : Int)), IsV (.int .i64 ((t - 15 : Nat) : Int)), IsV (.pointer (some ⟨g7, t - 15, none⟩)), IsV (.int .u32 ((x15).toNat : Int)), IsV (.int .i64 ((t : Nat) : Int)), IsV (.int .i64 ((t - 2 : Nat) : Int)), IsV (.pointer (some ⟨g7, t - 2, none⟩)), IsV (.int .u32 ((x2).toNat : Int)), IsV (.int .u32 ((x15).toNat : Int)), IsV (.int .u32 ((x2).toNat : Int))] (by kernel_rfl) ?_ ?_ ?_
                  · intro φ hφ v w1 w2 h hg
                    simp only [List.mem_cons, List.not_mem_nil, or_false] at hφ
                    rcases hφ with rfl | rfl | rfl | rfl | rfl | rfl | rfl | rfl | rfl | rfl
                    all_goals first | exact h | exact RdV.gr h hg
                  · refine ⟨?_, ?_, ?_, ?_, ?_, ?_, ?_, ?_, ?_, ?_, trivial⟩
                    · intro a1 w1 hG hF
                      exact s_old rfl (wants0 rfl) (.tmp 9) (.inr rfl) (.int .i64 ((t : Nat) : Int)) (hF.ol 9 (by kernel_rfl)) rfl
                    · intro a1 w1 hG hF
                      obtain ⟨_, e74, rfl⟩ := hF.dp 0 74 (by kernel_rfl)
                      exact s_is rfl (wants0 rfl) _ rfl (run_subN (a := t) (b := 15) e74 rfl (by omega) (by omega))
                    · intro a1 w1 hG hF
                      have e7 : a1.eval (.tmp 7) = .pointer (some ⟨g7, 0, none⟩) := hF.ol 7 (by kernel_rfl)
                      obtain ⟨_, e75, rfl⟩ := hF.dp 1 75 (by kernel_rfl)
                      exact s_is rfl (wants0 rfl) _ rfl (run_idx (i := t - 15) Tryd.underlying85 (by kernel_rfl) e7 e75 (by omega))
                    · intro a1 w1 hG hF
                      obtain ⟨_, e76, rfl⟩ := hF.dp 2 76 (by kernel_rfl)
                      exact s_is rfl (wants0 rfl) _ rfl (run_load1 Tryd.underlying84 e76 (Gr.cell ((Gr.drew wr).trans hG) c15))
                    · intro a1 w1 hG hF
                      exact s_old rfl (wants0 rfl) (.tmp 9) (.inr rfl) (.int .i64 ((t : Nat) : Int)) (hF.ol 9 (by kernel_rfl)) rfl
                    · intro a1 w1 hG hF
                      obtain ⟨_, e78, rfl⟩ := hF.dp 4 78 (by kernel_rfl)
                      exact s_is rfl (wants0 rfl) _ rfl (run_subN (a := t) (b := 2) e78 rfl (by omega) (by omega))
                    · intro a1 w1 hG hF
                      have e7 : a1.eval (.tmp 7) = .pointer (some ⟨g7, 0, none⟩) := hF.ol 7 (by kernel_rfl)
                      obtain ⟨_, e79, rfl⟩ := hF.dp 5 79 (by kernel_rfl)
                      exact s_is rfl (wants0 rfl) _ rfl (run_idx (i := t - 2) Tryd.underlying85 (by kernel_rfl) e7 e79 (by omega))
                    · intro a1 w1 hG hF
                      obtain ⟨_, e80, rfl⟩ := hF.dp 6 80 (by kernel_rfl)
                      exact s_is rfl (wants0 rfl) _ rfl (run_load1 Tryd.underlying84 e80 (Gr.cell ((Gr.drew wr).trans hG) c2))
                    · intro a1 w1 hG hF
                      exact s_same rfl (wants0 rfl) (.tmp 77) (.inl rfl) (hF.dp 3 77 (by kernel_rfl))
                    · intro a1 w1 hG hF
                      exact s_same rfl (wants0 rfl) (.tmp 81) (.inl rfl) (hF.dp 7 81 (by kernel_rfl))
                  · intro vs w1 hG hf
                    have z10 : vs 8 = .int .u32 ((x15).toNat : Int) := hf.2.2.2.2.2.2.2.2.1
                    have z11 : vs 9 = .int .u32 ((x2).toNat : Int) := hf.2.2.2.2.2.2.2.2.2.1
                    clear hf
                    simp only [putAll, Nat.zero_add, Nat.reduceAdd, z10, z11]
                    have hGx := (Gr.drew wr).trans hG
                    have c7 := HC7.out w1 hGx
                    have c16 := HC16.out w1 hGx
                    replace hW := hW.gr hGx
                    clear z10 z11 c2 c15 hG hGx
                    generalize w1 = wx at hW c7 c16 ⊢
                    go_simp
                    go_wp2_with fail
                    refine wp_region_st (by kernel_rfl) [IsV (.int .i64 ((t : Nat) : Int)), IsV (.int .i64 ((t : Nat) : Int)), IsV (.int .i64 ((t - 16 : Nat) : Int)), IsV (.pointer (some ⟨g7, t - 16, none⟩)), IsV (.int .u32 ((x16).toNat : Int)), IsV (.int .u32 ((x15).toNat : Int)), IsV (.int .u32 ((rr x15 7).toNat : Int)), IsV (.int .u32 ((x15).toNat : Int)), IsV (.int .u32 ((rr x15 18).toNat : Int)), IsV (.int .u32 (((rr x15 7) ^^^ (rr x15 18)).toNat : Int)), IsV (.int .u32 ((x15).toNat : Int)), IsV (.int .u32 ((x15 >>> UInt32.ofNat 3).toNat : Int)), IsV (.int .u32 ((((rr x15 7) ^^^ (rr x15 18)) ^^^ (x15 >>> UInt32.ofNat 3)).toNat : Int)), IsV (.int .u32 ((x16 + (((rr x15 7) ^^^ (rr x15 18)) ^^^ (x15 >>> UInt32.ofNat 3))).toNat : Int)), IsV (.int .i64 ((t : Nat) : Int)), IsV (.int .i64 ((t - 7 : Nat) : Int)), IsV (.pointer (some ⟨g7, t - 7, none⟩)), IsV (.int .u32 ((x7).toNat : Int)), IsV (.int .u32 (((x16 + (((rr x15 7) ^^^ (rr x15 18)) ^^^ (x15 >>> UInt32.ofNat 3))) + x7).toNat : Int)), IsV (.int .u32 ((x2).toNat : Int)), IsV (.int .u32 ((rr x2 17).toNat : Int)), IsV (.int .u32 ((x2).toNat : Int)), IsV (.int .u32 ((rr x2 19).toNat : Int)), IsV (.int .u32 (((rr x2 17) ^^^ (rr x2 19)).toNat : Int)), IsV (.int .u32 ((x2).toNat : Int)), IsV (.int .u32 ((x2 >>> UInt32.ofNat 10).toNat : Int)), IsV (.int .u32 ((((rr x2 17) ^^^ (rr x2 19)) ^^^ (x2 >>> UInt32.ofNat 10)).toNat : Int)), IsV (.int .u32 ((x).toNat : Int)), IsV (.pointer (some ⟨g7, t, none⟩))] 29 _ rfl rfl rfl (by kernel_rfl) (by kernel_rfl) ?_ (⟨g7, t, none⟩ : Addr) (.int .u32 ((x).toNat : Int)) ?_ ?_ ?_
                    · intro φ hφ
                      simp only [List.mem_cons, List.not_mem_nil, or_false] at hφ
                      rcases hφ with rfl | rfl | rfl | rfl | rfl | rfl | rfl | rfl | rfl | rfl | rfl | rfl | rfl | rfl | rfl | rfl | rfl | rfl | rfl | rfl | rfl | rfl | rfl | rfl | rfl | rfl | rfl | rfl | rfl <;> exact ⟨_, rfl⟩
                    · refine ⟨?_, ?_, ?_, ?_, ?_, ?_, ?_, ?_, ?_, ?_, ?_, ?_, ?_, ?_, ?_, ?_, ?_, ?_, ?_, ?_, ?_, ?_, ?_, ?_, ?_, ?_, ?_, ?_, ?_, trivial⟩
                      · intro a1 w1 hG hF
                        exact d_old rfl (wants0 rfl) (.tmp 9) (.inr rfl) (.int .i64 ((t : Nat) : Int)) (hF.ol 9 (by kernel_rfl)) rfl
                      · intro a1 w1 hG hF
                        exact d_old rfl (wants0 rfl) (.tmp 9) (.inr rfl) (.int .i64 ((t : Nat) : Int)) (hF.ol 9 (by kernel_rfl)) rfl
                      · intro a1 w1 hG hF
                        obtain ⟨_, e83, rfl⟩ := hF.dp 1 83 (by kernel_rfl)
                        exact d_is rfl (wants0 rfl) _ rfl (run_subN (a := t) (b := 16) e83 rfl (by omega) (by omega))
                      · intro a1 w1 hG hF
                        have e7 : a1.eval (.tmp 7) = .pointer (some ⟨g7, 0, none⟩) := hF.ol 7 (by kernel_rfl)
                        obtain ⟨_, e84, rfl⟩ := hF.dp 2 84 (by kernel_rfl)
                        exact d_is rfl (wants0 rfl) _ rfl (run_idx (i := t - 16) Tryd.underlying85 (by kernel_rfl) e7 e84 (by omega))
                      · intro a1 w1 hG hF
                        obtain ⟨_, e85, rfl⟩ := hF.dp 3 85 (by kernel_rfl)
                        exact d_is rfl (wants0 rfl) _ rfl (run_load1 Tryd.underlying84 e85 ((hG.cell _).trans c16))
                      · intro a1 w1 hG hF
                        exact d_old rfl (wants0 rfl) (.tmp 10) (.inr rfl) (.int .u32 ((x15).toNat : Int)) (hF.ol 10 (by kernel_rfl)) rfl
                      · intro a1 w1 hG hF
                        obtain ⟨_, e87, rfl⟩ := hF.dp 5 87 (by kernel_rfl)
                        exact d_call rfl (wants0 rfl) _ rfl _ _ (by simp only [execOp, resolve, invoke, List.map_toArray, List.map_cons, List.map_nil, e87]; go_simp) ((refRight_any x15 7 (by omega) w1).mono fun e w2 ⟨he, hw⟩ => ⟨he, hw ▸ Dr.refl _⟩)
                      · intro a1 w1 hG hF
                        exact d_old rfl (wants0 rfl) (.tmp 10) (.inr rfl) (.int .u32 ((x15).toNat : Int)) (hF.ol 10 (by kernel_rfl)) rfl
                      · intro a1 w1 hG hF
                        obtain ⟨_, e89, rfl⟩ := hF.dp 7 89 (by kernel_rfl)
                        exact d_call rfl (wants0 rfl) _ rfl _ _ (by simp only [execOp, resolve, invoke, List.map_toArray, List.map_cons, List.map_nil, e89]; go_simp) ((refRight_any x15 18 (by omega) w1).mono fun e w2 ⟨he, hw⟩ => ⟨he, hw ▸ Dr.refl _⟩)
                      · intro a1 w1 hG hF
                        obtain ⟨_, e88, rfl⟩ := hF.dp 6 88 (by kernel_rfl)
                        obtain ⟨_, e90, rfl⟩ := hF.dp 8 90 (by kernel_rfl)
                        exact d_is rfl (wants0 rfl) _ rfl (run_xor32 (a := rr x15 7) (b := rr x15 18) e88 e90)
                      · intro a1 w1 hG hF
                        exact d_old rfl (wants0 rfl) (.tmp 10) (.inr rfl) (.int .u32 ((x15).toNat : Int)) (hF.ol 10 (by kernel_rfl)) rfl
                      · intro a1 w1 hG hF
                        obtain ⟨_, e92, rfl⟩ := hF.dp 10 92 (by kernel_rfl)
                        exact d_is rfl (wants0 rfl) _ rfl (run_shr32w (a := x15) (k := 3) e92 rfl (by omega))
                      · intro a1 w1 hG hF
                        obtain ⟨_, e91, rfl⟩ := hF.dp 9 91 (by kernel_rfl)
                        obtain ⟨_, e93, rfl⟩ := hF.dp 11 93 (by kernel_rfl)
                        exact d_is rfl (wants0 rfl) _ rfl (run_xor32 (a := (rr x15 7) ^^^ (rr x15 18)) (b := x15 >>> UInt32.ofNat 3) e91 e93)
                      · intro a1 w1 hG hF
                        obtain ⟨_, e86, rfl⟩ := hF.dp 4 86 (by kernel_rfl)
                        obtain ⟨_, e94, rfl⟩ := hF.dp 12 94 (by kernel_rfl)
                        exact d_is rfl (wants0 rfl) _ rfl (run_add32 (a := x16) (b := ((rr x15 7) ^^^ (rr x15 18)) ^^^ (x15 >>> UInt32.ofNat 3)) e86 e94)
                      · intro a1 w1 hG hF
                        exact d_old rfl (wants0 rfl) (.tmp 9) (.inr rfl) (.int .i64 ((t : Nat) : Int)) (hF.ol 9 (by kernel_rfl)) rfl
                      · intro a1 w1 hG hF
                        obtain ⟨_, e96, rfl⟩ := hF.dp 14 96 (by kernel_rfl)
                        exact d_is rfl (wants0 rfl) _ rfl (run_subN (a := t) (b := 7) e96 rfl (by omega) (by omega))
                      · intro a1 w1 hG hF
                        have e7 : a1.eval (.tmp 7) = .pointer (some ⟨g7, 0, none⟩) := hF.ol 7 (by kernel_rfl)
                        obtain ⟨_, e97, rfl⟩ := hF.dp 15 97 (by kernel_rfl)
                        exact d_is rfl (wants0 rfl) _ rfl (run_idx (i := t - 7) Tryd.underlying85 (by kernel_rfl) e7 e97 (by omega))
                      · intro a1 w1 hG hF
                        obtain ⟨_, e98, rfl⟩ := hF.dp 16 98 (by kernel_rfl)
                        exact d_is rfl (wants0 rfl) _ rfl (run_load1 Tryd.underlying84 e98 ((hG.cell _).trans c7))
                      · intro a1 w1 hG hF
                        obtain ⟨_, e95, rfl⟩ := hF.dp 13 95 (by kernel_rfl)
                        obtain ⟨_, e99, rfl⟩ := hF.dp 17 99 (by kernel_rfl)
                        exact d_is rfl (wants0 rfl) _ rfl (run_add32 (a := x16 + (((rr x15 7) ^^^ (rr x15 18)) ^^^ (x15 >>> UInt32.ofNat 3))) (b := x7) e95 e99)
                      · intro a1 w1 hG hF
                        exact d_old rfl (wants0 rfl) (.tmp 11) (.inr rfl) (.int .u32 ((x2).toNat : Int)) (hF.ol 11 (by kernel_rfl)) rfl
                      · intro a1 w1 hG hF
                        obtain ⟨_, e101, rfl⟩ := hF.dp 19 101 (by kernel_rfl)
                        exact d_call rfl (wants0 rfl) _ rfl _ _ (by simp only [execOp, resolve, invoke, List.map_toArray, List.map_cons, List.map_nil, e101]; go_simp) ((refRight_any x2 17 (by omega) w1).mono fun e w2 ⟨he, hw⟩ => ⟨he, hw ▸ Dr.refl _⟩)
                      · intro a1 w1 hG hF
                        exact d_old rfl (wants0 rfl) (.tmp 11) (.inr rfl) (.int .u32 ((x2).toNat : Int)) (hF.ol 11 (by kernel_rfl)) rfl
                      · intro a1 w1 hG hF
                        obtain ⟨_, e103, rfl⟩ := hF.dp 21 103 (by kernel_rfl)
                        exact d_call rfl (wants0 rfl) _ rfl _ _ (by simp only [execOp, resolve, invoke, List.map_toArray, List.map_cons, List.map_nil, e103]; go_simp) ((refRight_any x2 19 (by omega) w1).mono fun e w2 ⟨he, hw⟩ => ⟨he, hw ▸ Dr.refl _⟩)
                      · intro a1 w1 hG hF
                        obtain ⟨_, e102, rfl⟩ := hF.dp 20 102 (by kernel_rfl)
                        obtain ⟨_, e104, rfl⟩ := hF.dp 22 104 (by kernel_rfl)
                        exact d_is rfl (wants0 rfl) _ rfl (run_xor32 (a := rr x2 17) (b := rr x2 19) e102 e104)
                      · intro a1 w1 hG hF
                        exact d_old rfl (wants0 rfl) (.tmp 11) (.inr rfl) (.int .u32 ((x2).toNat : Int)) (hF.ol 11 (by kernel_rfl)) rfl
                      · intro a1 w1 hG hF
                        obtain ⟨_, e106, rfl⟩ := hF.dp 24 106 (by kernel_rfl)
                        exact d_is rfl (wants0 rfl) _ rfl (run_shr32w (a := x2) (k := 10) e106 rfl (by omega))
                      · intro a1 w1 hG hF
                        obtain ⟨_, e105, rfl⟩ := hF.dp 23 105 (by kernel_rfl)
                        obtain ⟨_, e107, rfl⟩ := hF.dp 25 107 (by kernel_rfl)
                        exact d_is rfl (wants0 rfl) _ rfl (run_xor32 (a := (rr x2 17) ^^^ (rr x2 19)) (b := x2 >>> UInt32.ofNat 10) e105 e107)
                      · intro a1 w1 hG hF
                        obtain ⟨_, e100, rfl⟩ := hF.dp 18 100 (by kernel_rfl)
                        obtain ⟨_, e108, rfl⟩ := hF.dp 26 108 (by kernel_rfl)
                        exact d_is rfl (wants0 rfl) _ rfl (by rw [HX.out]; exact run_add32 (a := (x16 + (((rr x15 7) ^^^ (rr x15 18)) ^^^ (x15 >>> UInt32.ofNat 3))) + x7) (b := ((rr x2 17) ^^^ (rr x2 19)) ^^^ (x2 >>> UInt32.ofNat 10)) e100 e108)
                      · intro a1 w1 hG hF
                        have e7 : a1.eval (.tmp 7) = .pointer (some ⟨g7, 0, none⟩) := hF.ol 7 (by kernel_rfl)
                        obtain ⟨_, e82, rfl⟩ := hF.dp 0 82 (by kernel_rfl)
                        exact d_is rfl (wants0 rfl) _ rfl (run_idx (i := t) Tryd.underlying85 (by kernel_rfl) e7 e82 (by omega))
                    · intro a1 w1 hG hF
                      obtain ⟨_, e110, rfl⟩ := hF.dp 28 110 (by kernel_rfl)
                      obtain ⟨_, e109, rfl⟩ := hF.dp 27 109 (by kernel_rfl)
                      exact ⟨wants0 rfl, run_store1 (by kernel_rfl) e110 e109 (by rw [hG.cell]; exact (Option.isSome_iff_exists.2 ⟨_, (hW.at_ 0 rfl).u32 (a := t) (by rw [HGL.out]; omega)⟩)) (by rw [hG.frozen]; exact (hW.at_ 0 rfl).frozen _)⟩
                    intro vs k0 hf
                    clear hf
                    simp only [putAll, Nat.zero_add, Nat.reduceAdd]
                    have hW' := (hW.dr ⟨k0, rfl⟩).set 0 rfl t (.int .u32 (x.toNat : Int))
                    rw [u32s_set, HXS.out] at hW'
                    simp only [List.set] at hW'
                    generalize ((World.drewN _ k0).setCell _ _) = W1 at hW' ⊢
                    clear hW c7 c16
                    go_simp
                    go_wp2_with fail
                    have HT2 := HT.out
                    exact ⟨⟨r + 1, by omega, by congr 1; omega, hW'⟩, by simp [intOf]; omega⟩
                · obtain rfl : r = 48 := by omega
                  obtain rfl : t = 64 := by omega
                  have hSe := HGE.out 48 rfl
                  obtain ⟨S, hS⟩ : ∃ S, S = G 48 := ⟨_, rfl⟩
                  have hSl : S.length = 64 := by rw [hS]; exact HGL.out 48
                  rw [← hS] at hW hSe
                  have hmix : mixU h0 b = addU h0 (rndU h0 S 64) := by rw [← hSe]; rfl
                  have HMX := Lib.hid hmix
                  clear hS hSe HGE HGS HGL ht hlt64 hr hmix
                  simp only [show ((64 : Nat) : Int) = 64 from rfl]
                  go_wp2_with first
                    | (refine wpList_load_mid rfl 86 (.tmp 4) rfl g4 0 rfl (u32s h0) _ (hW.at_ 1 rfl).range Tryd.underlying86 rfl (info8 _ hh0l) ?_)
                    | (refine wpList_newW hW rfl 86 (.tmp 12) (.tmp 111) rfl _ (u32s h0) rfl rfl rfl (by simp only [u32s_length, hh0l]; rfl) (info8 h0 hh0l) (u32s_oneCell _) ?_; intro wv hWv _)
                  generalize wr.heap.size = g12 at hWv ⊢
                  obtain ⟨V, hV⟩ : ∃ V : Nat → List UInt32, V = rndU h0 S := ⟨_, rfl⟩
                  have HVL : Hid (∀ r, (V r).length = 8) := by intro r; rw [hV]; exact rndU_length S hh0l r
                  have HVS : Hid (∀ r, roundU (V r) (keysL.getD r 0) (S.getD r 0) = V (r + 1)) := by intro r; rw [hV]; rfl
                  have HVE : Hid (∀ r, r = 64 → H (j + 1) = addU h0 (V r)) := by intro r hr; rw [hr, hV, ← HST.out]; exact HMX.out
                  have hV0 : u32s h0 = u32s (V 0) := by rw [hV]; rfl
                  have hWv2 : MemW [g4, g3] w7 wv [(g12, 86, u32s (V 0)), (g7, 85, u32s S), (g4, 86, u32s h0), (g3, 85, u32s ks)] := by rw [← hV0]; exact hWv
                  clear hV hV0 HMX hWv hW
                  go_simp
                  go_loopw [13] (fun i wr => ∃ r : Nat, r ≤ 64 ∧ i = .int .i64 r ∧ MemW [g4, g3] w7 wr [(g12, 86, u32s (V r)), (g7, 85, u32s S), (g4, 86, u32s h0), (g3, 85, u32s ks)]) (fun i _ => 64 - (intOf i).toNat)
                  case atStart => exact ⟨0, by omega, rfl, hWv2⟩
                  case round =>
                    clear hWv2
                    obtain ⟨r, hr64, rfl, hW⟩ := hrel
                    by_cases hlt : r < 64
                    · obtain ⟨a, b1, c, d, e, f, g, i, hv⟩ := eightU (HVL.out r)
                      obtain ⟨ww, hww⟩ : ∃ x, x = S.getD r 0 := ⟨_, rfl⟩
                      obtain ⟨kk, hkk⟩ : ∃ x, x = ks.getD r 0 := ⟨_, rfl⟩
                      have cw := fun w1 (h : Gr wr w1) => ((hW.gr h).at_ 1 rfl).u32 (a := r) (by omega)
                      have ck := fun w1 (h : Gr wr w1) => ((hW.gr h).at_ 3 rfl).u32 (a := r) (by omega)
                      rw [← hww] at cw
                      rw [← hkk] at ck
                      rw [hv] at hW
                      obtain ⟨x, hx⟩ : ∃ x, x = i + (rr e 6 ^^^ rr e 11 ^^^ rr e 25) + (e &&& f ^^^ ~~~e &&& g) + kk + ww := ⟨_, rfl⟩
                      obtain ⟨y, hy⟩ : ∃ y, y = (rr a 2 ^^^ rr a 13 ^^^ rr a 22) + (a &&& b1 ^^^ a &&& c ^^^ b1 &&& c) := ⟨_, rfl⟩
                      have hnext : V (r + 1) = [x + y, a, b1, c, d + x, e, f, g] := by
                        rw [← HVS.out r, hv, ← HKS.out, ← hkk, ← hww, hx, hy]; rfl
                      have HX := Lib.hid hx
                      have HY := Lib.hid hy
                      have HNX := Lib.hid hnext
                      have HCW := Lib.hid cw
                      have HCK := Lib.hid ck
                      have q4 := (hW.at_ 0 rfl).cell (i := 4) rfl
                      have q0 := (hW.at_ 0 rfl).cell (i := 0) rfl
                      clear hv hww hkk hx hy hnext cw ck
                      go_wp2_with fail
                      refine wp_region_ssaL (by kernel_rfl) [IsV (.pointer (some ⟨g12, 4, none⟩)), IsV (.int .u32 ((e).toNat : Int)), IsV (.pointer (some ⟨g12, 0, none⟩)), IsV (.int .u32 ((a).toNat : Int)), IsV (.int .u32 ((e).toNat : Int)), IsV (.int .u32 ((a).toNat : Int))] (by kernel_rfl) ?_ ?_ ?_
                      · intro φ hφ v w1 w2 h hg
                        simp only [List.mem_cons, List.not_mem_nil, or_false] at hφ
                        rcases hφ with rfl | rfl | rfl | rfl | rfl | rfl
                        all_goals first | exact h | exact RdV.gr h hg
                      · refine ⟨?_, ?_, ?_, ?_, ?_, ?_, trivial⟩
                        · intro a1 w1 hG hF
                          have e12 : a1.eval (.tmp 12) = .pointer (some ⟨g12, 0, none⟩) := hF.ol 12 (by kernel_rfl)
                          exact s_is rfl (wants0 rfl) _ rfl (run_idx (i := 4) Tryd.underlying86 (by kernel_rfl) e12 rfl (by omega))
                        · intro a1 w1 hG hF
                          obtain ⟨_, e116, rfl⟩ := hF.dp 0 116 (by kernel_rfl)
                          exact s_is rfl (wants0 rfl) _ rfl (run_load1 Tryd.underlying84 e116 (Gr.cell ((Gr.drew wr).trans hG) q4))
                        · intro a1 w1 hG hF
                          have e12 : a1.eval (.tmp 12) = .pointer (some ⟨g12, 0, none⟩) := hF.ol 12 (by kernel_rfl)
                          exact s_is rfl (wants0 rfl) _ rfl (run_idx (i := 0) Tryd.underlying86 (by kernel_rfl) e12 rfl (by omega))
                        · intro a1 w1 hG hF
                          obtain ⟨_, e118, rfl⟩ := hF.dp 2 118 (by kernel_rfl)
                          exact s_is rfl (wants0 rfl) _ rfl (run_load1 Tryd.underlying84 e118 (Gr.cell ((Gr.drew wr).trans hG) q0))
                        · intro a1 w1 hG hF
                          exact s_same rfl (wants0 rfl) (.tmp 117) (.inl rfl) (hF.dp 1 117 (by kernel_rfl))
                        · intro a1 w1 hG hF
                          exact s_same rfl (wants0 rfl) (.tmp 119) (.inl rfl) (hF.dp 3 119 (by kernel_rfl))
                      · intro vs w1 hG hf
                        have z14 : vs 4 = .int .u32 ((e).toNat : Int) := hf.2.2.2.2.1
                        have z15 : vs 5 = .int .u32 ((a).toNat : Int) := hf.2.2.2.2.2.1
                        clear hf
                        simp only [putAll, Nat.zero_add, Nat.reduceAdd, z14, z15]
                        have cw := HCW.out _ ((Gr.drew wr).trans hG)
                        have ck := HCK.out _ ((Gr.drew wr).trans hG)
                        replace hW := hW.gr ((Gr.drew wr).trans hG)
                        clear z14 z15 q4 q0 hG
                        have q5 := (hW.at_ 0 rfl).cell (i := 5) rfl
                        have q6 := (hW.at_ 0 rfl).cell (i := 6) rfl
                        have q7 := (hW.at_ 0 rfl).cell (i := 7) rfl
                        generalize w1 = wx at hW cw ck q5 q6 q7 ⊢
                        go_simp
                        go_wp2_with fail
                        refine wp_region_ssaL (by kernel_rfl) [IsV (.pointer (some ⟨g12, 7, none⟩)), IsV (.int .u32 ((i).toNat : Int)), IsV (.int .u32 ((e).toNat : Int)), IsV (.int .u32 ((rr e 6).toNat : Int)), IsV (.int .u32 ((e).toNat : Int)), IsV (.int .u32 ((rr e 11).toNat : Int)), IsV (.int .u32 (((rr e 6) ^^^ (rr e 11)).toNat : Int)), IsV (.int .u32 ((e).toNat : Int)), IsV (.int .u32 ((rr e 25).toNat : Int)), IsV (.int .u32 ((((rr e 6) ^^^ (rr e 11)) ^^^ (rr e 25)).toNat : Int)), IsV (.int .u32 ((i + (((rr e 6) ^^^ (rr e 11)) ^^^ (rr e 25))).toNat : Int)), IsV (.int .u32 ((e).toNat : Int)), IsV (.pointer (some ⟨g12, 5, none⟩)), IsV (.int .u32 ((f).toNat : Int)), IsV (.int .u32 ((e &&& f).toNat : Int)), IsV (.int .u32 ((e).toNat : Int)), IsV (.int .u32 ((~~~e).toNat : Int)), IsV (.pointer (some ⟨g12, 6, none⟩)), IsV (.int .u32 ((g).toNat : Int)), IsV (.int .u32 (((~~~e) &&& g).toNat : Int)), IsV (.int .u32 (((e &&& f) ^^^ ((~~~e) &&& g)).toNat : Int)), IsV (.int .u32 (((i + (((rr e 6) ^^^ (rr e 11)) ^^^ (rr e 25))) + ((e &&& f) ^^^ ((~~~e) &&& g))).toNat : Int)), IsV (.int .i64 ((r : Nat) : Int)), IsV (.pointer (some ⟨g3, r, none⟩)), IsV (.int .u32 ((kk).toNat : Int)), IsV (.int .u32 ((((i + (((rr e 6) ^^^ (rr e 11)) ^^^ (rr e 25))) + ((e &&& f) ^^^ ((~~~e) &&& g))) + kk).toNat : Int)), IsV (.int .i64 ((r : Nat) : Int)), IsV (.pointer (some ⟨g7, r, none⟩)), IsV (.int .u32 ((ww).toNat : Int)), IsV (.int .u32 ((x).toNat : Int)), IsV (.int .u32 ((x).toNat : Int))] (by kernel_rfl) ?_ ?_ ?_
                        · intro φ hφ v w1 w2 h hg
                          simp only [List.mem_cons, List.not_mem_nil, or_false] at hφ
                          rcases hφ with rfl | rfl | rfl | rfl | rfl | rfl | rfl | rfl | rfl | rfl | rfl | rfl | rfl | rfl | rfl | rfl | rfl | rfl | rfl | rfl | rfl | rfl | rfl | rfl | rfl | rfl | rfl | rfl | rfl | rfl | rfl
                          all_goals first | exact h | exact RdV.gr h hg
                        · refine ⟨?_, ?_, ?_, ?_, ?_, ?_, ?_, ?_, ?_, ?_, ?_, ?_, ?_, ?_, ?_, ?_, ?_, ?_, ?_, ?_, ?_, ?_, ?_, ?_, ?_, ?_, ?_, ?_, ?_, ?_, ?_, trivial⟩
                          · intro a1 w1 hG hF
                            have e12 : a1.eval (.tmp 12) = .pointer (some ⟨g12, 0, none⟩) := hF.ol 12 (by kernel_rfl)
                            exact s_is rfl (wants0 rfl) _ rfl (run_idx (i := 7) Tryd.underlying86 (by kernel_rfl) e12 rfl (by omega))
                          · intro a1 w1 hG hF
                            obtain ⟨_, e120, rfl⟩ := hF.dp 0 120 (by kernel_rfl)
                            exact s_is rfl (wants0 rfl) _ rfl (run_load1 Tryd.underlying84 e120 (Gr.cell ((Gr.drew wx).trans hG) q7))
                          · intro a1 w1 hG hF
                            exact s_old rfl (wants0 rfl) (.tmp 14) (.inr rfl) (.int .u32 ((e).toNat : Int)) (hF.ol 14 (by kernel_rfl)) rfl
                          · intro a1 w1 hG hF
                            obtain ⟨_, e122, rfl⟩ := hF.dp 2 122 (by kernel_rfl)
                            exact s_call rfl (wants0 rfl) _ rfl _ _ (by simp only [execOp, resolve, invoke, List.map_toArray, List.map_cons, List.map_nil, e122]; go_simp) ((refRight_any e 6 (by omega) w1).mono fun e w2 ⟨he, hw⟩ => ⟨_, he, rfl, hw ▸ Gr.refl _⟩)
                          · intro a1 w1 hG hF
                            exact s_old rfl (wants0 rfl) (.tmp 14) (.inr rfl) (.int .u32 ((e).toNat : Int)) (hF.ol 14 (by kernel_rfl)) rfl
                          · intro a1 w1 hG hF
                            obtain ⟨_, e124, rfl⟩ := hF.dp 4 124 (by kernel_rfl)
                            exact s_call rfl (wants0 rfl) _ rfl _ _ (by simp only [execOp, resolve, invoke, List.map_toArray, List.map_cons, List.map_nil, e124]; go_simp) ((refRight_any e 11 (by omega) w1).mono fun e w2 ⟨he, hw⟩ => ⟨_, he, rfl, hw ▸ Gr.refl _⟩)
                          · intro a1 w1 hG hF
                            obtain ⟨_, e123, rfl⟩ := hF.dp 3 123 (by kernel_rfl)
                            obtain ⟨_, e125, rfl⟩ := hF.dp 5 125 (by kernel_rfl)
                            exact s_is rfl (wants0 rfl) _ rfl (run_xor32 (a := rr e 6) (b := rr e 11) e123 e125)
                          · intro a1 w1 hG hF
                            exact s_old rfl (wants0 rfl) (.tmp 14) (.inr rfl) (.int .u32 ((e).toNat : Int)) (hF.ol 14 (by kernel_rfl)) rfl
                          · intro a1 w1 hG hF
                            obtain ⟨_, e127, rfl⟩ := hF.dp 7 127 (by kernel_rfl)
                            exact s_call rfl (wants0 rfl) _ rfl _ _ (by simp only [execOp, resolve, invoke, List.map_toArray, List.map_cons, List.map_nil, e127]; go_simp) ((refRight_any e 25 (by omega) w1).mono fun e w2 ⟨he, hw⟩ => ⟨_, he, rfl, hw ▸ Gr.refl _⟩)
                          · intro a1 w1 hG hF
                            obtain ⟨_, e126, rfl⟩ := hF.dp 6 126 (by kernel_rfl)
                            obtain ⟨_, e128, rfl⟩ := hF.dp 8 128 (by kernel_rfl)
                            exact s_is rfl (wants0 rfl) _ rfl (run_xor32 (a := (rr e 6) ^^^ (rr e 11)) (b := rr e 25) e126 e128)
                          · intro a1 w1 hG hF
                            obtain ⟨_, e121, rfl⟩ := hF.dp 1 121 (by kernel_rfl)
                            obtain ⟨_, e129, rfl⟩ := hF.dp 9 129 (by kernel_rfl)
                            exact s_is rfl (wants0 rfl) _ rfl (run_add32 (a := i) (b := ((rr e 6) ^^^ (rr e 11)) ^^^ (rr e 25)) e121 e129)
                          · intro a1 w1 hG hF
                            exact s_old rfl (wants0 rfl) (.tmp 14) (.inr rfl) (.int .u32 ((e).toNat : Int)) (hF.ol 14 (by kernel_rfl)) rfl
                          · intro a1 w1 hG hF
                            have e12 : a1.eval (.tmp 12) = .pointer (some ⟨g12, 0, none⟩) := hF.ol 12 (by kernel_rfl)
                            exact s_is rfl (wants0 rfl) _ rfl (run_idx (i := 5) Tryd.underlying86 (by kernel_rfl) e12 rfl (by omega))
                          · intro a1 w1 hG hF
                            obtain ⟨_, e132, rfl⟩ := hF.dp 12 132 (by kernel_rfl)
                            exact s_is rfl (wants0 rfl) _ rfl (run_load1 Tryd.underlying84 e132 (Gr.cell ((Gr.drew wx).trans hG) q5))
                          · intro a1 w1 hG hF
                            obtain ⟨_, e131, rfl⟩ := hF.dp 11 131 (by kernel_rfl)
                            obtain ⟨_, e133, rfl⟩ := hF.dp 13 133 (by kernel_rfl)
                            exact s_is rfl (wants0 rfl) _ rfl (run_and32 (a := e) (b := f) e131 e133)
                          · intro a1 w1 hG hF
                            exact s_old rfl (wants0 rfl) (.tmp 14) (.inr rfl) (.int .u32 ((e).toNat : Int)) (hF.ol 14 (by kernel_rfl)) rfl
                          · intro a1 w1 hG hF
                            obtain ⟨_, e135, rfl⟩ := hF.dp 15 135 (by kernel_rfl)
                            exact s_is rfl (wants0 rfl) _ rfl (run_not32 e135)
                          · intro a1 w1 hG hF
                            have e12 : a1.eval (.tmp 12) = .pointer (some ⟨g12, 0, none⟩) := hF.ol 12 (by kernel_rfl)
                            exact s_is rfl (wants0 rfl) _ rfl (run_idx (i := 6) Tryd.underlying86 (by kernel_rfl) e12 rfl (by omega))
                          · intro a1 w1 hG hF
                            obtain ⟨_, e137, rfl⟩ := hF.dp 17 137 (by kernel_rfl)
                            exact s_is rfl (wants0 rfl) _ rfl (run_load1 Tryd.underlying84 e137 (Gr.cell ((Gr.drew wx).trans hG) q6))
                          · intro a1 w1 hG hF
                            obtain ⟨_, e136, rfl⟩ := hF.dp 16 136 (by kernel_rfl)
                            obtain ⟨_, e138, rfl⟩ := hF.dp 18 138 (by kernel_rfl)
                            exact s_is rfl (wants0 rfl) _ rfl (run_and32 (a := ~~~e) (b := g) e136 e138)
                          · intro a1 w1 hG hF
                            obtain ⟨_, e134, rfl⟩ := hF.dp 14 134 (by kernel_rfl)
                            obtain ⟨_, e139, rfl⟩ := hF.dp 19 139 (by kernel_rfl)
                            exact s_is rfl (wants0 rfl) _ rfl (run_xor32 (a := e &&& f) (b := (~~~e) &&& g) e134 e139)
                          · intro a1 w1 hG hF
                            obtain ⟨_, e130, rfl⟩ := hF.dp 10 130 (by kernel_rfl)
                            obtain ⟨_, e140, rfl⟩ := hF.dp 20 140 (by kernel_rfl)
                            exact s_is rfl (wants0 rfl) _ rfl (run_add32 (a := i + (((rr e 6) ^^^ (rr e 11)) ^^^ (rr e 25))) (b := (e &&& f) ^^^ ((~~~e) &&& g)) e130 e140)
                          · intro a1 w1 hG hF
                            exact s_old rfl (wants0 rfl) (.tmp 13) (.inr rfl) (.int .i64 ((r : Nat) : Int)) (hF.ol 13 (by kernel_rfl)) rfl
                          · intro a1 w1 hG hF
                            have e3 : a1.eval (.tmp 3) = .pointer (some ⟨g3, 0, none⟩) := hF.ol 3 (by kernel_rfl)
                            obtain ⟨_, e142, rfl⟩ := hF.dp 22 142 (by kernel_rfl)
                            exact s_is rfl (wants0 rfl) _ rfl (run_idx (i := r) Tryd.underlying85 (by kernel_rfl) e3 e142 (by omega))
                          · intro a1 w1 hG hF
                            obtain ⟨_, e143, rfl⟩ := hF.dp 23 143 (by kernel_rfl)
                            exact s_is rfl (wants0 rfl) _ rfl (run_load1 Tryd.underlying84 e143 (Gr.cell ((Gr.drew wx).trans hG) ck))
                          · intro a1 w1 hG hF
                            obtain ⟨_, e141, rfl⟩ := hF.dp 21 141 (by kernel_rfl)
                            obtain ⟨_, e144, rfl⟩ := hF.dp 24 144 (by kernel_rfl)
                            exact s_is rfl (wants0 rfl) _ rfl (run_add32 (a := (i + (((rr e 6) ^^^ (rr e 11)) ^^^ (rr e 25))) + ((e &&& f) ^^^ ((~~~e) &&& g))) (b := kk) e141 e144)
                          · intro a1 w1 hG hF
                            exact s_old rfl (wants0 rfl) (.tmp 13) (.inr rfl) (.int .i64 ((r : Nat) : Int)) (hF.ol 13 (by kernel_rfl)) rfl
                          · intro a1 w1 hG hF
                            have e7 : a1.eval (.tmp 7) = .pointer (some ⟨g7, 0, none⟩) := hF.ol 7 (by kernel_rfl)
                            obtain ⟨_, e146, rfl⟩ := hF.dp 26 146 (by kernel_rfl)
                            exact s_is rfl (wants0 rfl) _ rfl (run_idx (i := r) Tryd.underlying85 (by kernel_rfl) e7 e146 (by omega))
                          · intro a1 w1 hG hF
                            obtain ⟨_, e147, rfl⟩ := hF.dp 27 147 (by kernel_rfl)
                            exact s_is rfl (wants0 rfl) _ rfl (run_load1 Tryd.underlying84 e147 (Gr.cell ((Gr.drew wx).trans hG) cw))
                          · intro a1 w1 hG hF
                            obtain ⟨_, e145, rfl⟩ := hF.dp 25 145 (by kernel_rfl)
                            obtain ⟨_, e148, rfl⟩ := hF.dp 28 148 (by kernel_rfl)
                            exact s_is rfl (wants0 rfl) _ rfl (by rw [HX.out]; exact run_add32 (a := ((i + (((rr e 6) ^^^ (rr e 11)) ^^^ (rr e 25))) + ((e &&& f) ^^^ ((~~~e) &&& g))) + kk) (b := ww) e145 e148)
                          · intro a1 w1 hG hF
                            exact s_same rfl (wants0 rfl) (.tmp 149) (.inl rfl) (hF.dp 29 149 (by kernel_rfl))
                        · intro vs w1 hG hf
                          have z16 : vs 30 = .int .u32 ((x).toNat : Int) := hf.2.2.2.2.2.2.2.2.2.2.2.2.2.2.2.2.2.2.2.2.2.2.2.2.2.2.2.2.2.2.1
                          clear hf
                          simp only [putAll, Nat.zero_add, Nat.reduceAdd, z16]
                          replace hW := hW.gr ((Gr.drew wx).trans hG)
                          clear z16 q5 q6 q7 cw ck hG
                          have q1 := (hW.at_ 0 rfl).cell (i := 1) rfl
                          have q2 := (hW.at_ 0 rfl).cell (i := 2) rfl
                          generalize w1 = wy at hW q1 q2 ⊢
                          go_simp
                          go_wp2_with fail
                          refine wp_region_ssaL (by kernel_rfl) [IsV (.int .u32 ((a).toNat : Int)), IsV (.int .u32 ((rr a 2).toNat : Int)), IsV (.int .u32 ((a).toNat : Int)), IsV (.int .u32 ((rr a 13).toNat : Int)), IsV (.int .u32 (((rr a 2) ^^^ (rr a 13)).toNat : Int)), IsV (.int .u32 ((a).toNat : Int)), IsV (.int .u32 ((rr a 22).toNat : Int)), IsV (.int .u32 ((((rr a 2) ^^^ (rr a 13)) ^^^ (rr a 22)).toNat : Int)), IsV (.int .u32 ((a).toNat : Int)), IsV (.pointer (some ⟨g12, 1, none⟩)), IsV (.int .u32 ((b1).toNat : Int)), IsV (.int .u32 ((a &&& b1).toNat : Int)), IsV (.int .u32 ((a).toNat : Int)), IsV (.pointer (some ⟨g12, 2, none⟩)), IsV (.int .u32 ((c).toNat : Int)), IsV (.int .u32 ((a &&& c).toNat : Int)), IsV (.int .u32 (((a &&& b1) ^^^ (a &&& c)).toNat : Int)), IsV (.pointer (some ⟨g12, 1, none⟩)), IsV (.int .u32 ((b1).toNat : Int)), IsV (.pointer (some ⟨g12, 2, none⟩)), IsV (.int .u32 ((c).toNat : Int)), IsV (.int .u32 ((b1 &&& c).toNat : Int)), IsV (.int .u32 ((((a &&& b1) ^^^ (a &&& c)) ^^^ (b1 &&& c)).toNat : Int)), IsV (.int .u32 ((y).toNat : Int)), IsV (.int .u32 ((y).toNat : Int))] (by kernel_rfl) ?_ ?_ ?_
                          · intro φ hφ v w1 w2 h hg
                            simp only [List.mem_cons, List.not_mem_nil, or_false] at hφ
                            rcases hφ with rfl | rfl | rfl | rfl | rfl | rfl | rfl | rfl | rfl | rfl | rfl | rfl | rfl | rfl | rfl | rfl | rfl | rfl | rfl | rfl | rfl | rfl | rfl | rfl | rfl
                            all_goals first | exact h | exact RdV.gr h hg
                          · refine ⟨?_, ?_, ?_, ?_, ?_, ?_, ?_, ?_, ?_, ?_, ?_, ?_, ?_, ?_, ?_, ?_, ?_, ?_, ?_, ?_, ?_, ?_, ?_, ?_, ?_, trivial⟩
                            · intro a1 w1 hG hF
                              exact s_old rfl (wants0 rfl) (.tmp 15) (.inr rfl) (.int .u32 ((a).toNat : Int)) (hF.ol 15 (by kernel_rfl)) rfl
                            · intro a1 w1 hG hF
                              obtain ⟨_, e150, rfl⟩ := hF.dp 0 150 (by kernel_rfl)
                              exact s_call rfl (wants0 rfl) _ rfl _ _ (by simp only [execOp, resolve, invoke, List.map_toArray, List.map_cons, List.map_nil, e150]; go_simp) ((refRight_any a 2 (by omega) w1).mono fun e w2 ⟨he, hw⟩ => ⟨_, he, rfl, hw ▸ Gr.refl _⟩)
                            · intro a1 w1 hG hF
                              exact s_old rfl (wants0 rfl) (.tmp 15) (.inr rfl) (.int .u32 ((a).toNat : Int)) (hF.ol 15 (by kernel_rfl)) rfl
                            · intro a1 w1 hG hF
                              obtain ⟨_, e152, rfl⟩ := hF.dp 2 152 (by kernel_rfl)
                              exact s_call rfl (wants0 rfl) _ rfl _ _ (by simp only [execOp, resolve, invoke, List.map_toArray, List.map_cons, List.map_nil, e152]; go_simp) ((refRight_any a 13 (by omega) w1).mono fun e w2 ⟨he, hw⟩ => ⟨_, he, rfl, hw ▸ Gr.refl _⟩)
                            · intro a1 w1 hG hF
                              obtain ⟨_, e151, rfl⟩ := hF.dp 1 151 (by kernel_rfl)
                              obtain ⟨_, e153, rfl⟩ := hF.dp 3 153 (by kernel_rfl)
                              exact s_is rfl (wants0 rfl) _ rfl (run_xor32 (a := rr a 2) (b := rr a 13) e151 e153)
                            · intro a1 w1 hG hF
                              exact s_old rfl (wants0 rfl) (.tmp 15) (.inr rfl) (.int .u32 ((a).toNat : Int)) (hF.ol 15 (by kernel_rfl)) rfl
                            · intro a1 w1 hG hF
                              obtain ⟨_, e155, rfl⟩ := hF.dp 5 155 (by kernel_rfl)
                              exact s_call rfl (wants0 rfl) _ rfl _ _ (by simp only [execOp, resolve, invoke, List.map_toArray, List.map_cons, List.map_nil, e155]; go_simp) ((refRight_any a 22 (by omega) w1).mono fun e w2 ⟨he, hw⟩ => ⟨_, he, rfl, hw ▸ Gr.refl _⟩)
                            · intro a1 w1 hG hF
                              obtain ⟨_, e154, rfl⟩ := hF.dp 4 154 (by kernel_rfl)
                              obtain ⟨_, e156, rfl⟩ := hF.dp 6 156 (by kernel_rfl)
                              exact s_is rfl (wants0 rfl) _ rfl (run_xor32 (a := (rr a 2) ^^^ (rr a 13)) (b := rr a 22) e154 e156)
                            · intro a1 w1 hG hF
                              exact s_old rfl (wants0 rfl) (.tmp 15) (.inr rfl) (.int .u32 ((a).toNat : Int)) (hF.ol 15 (by kernel_rfl)) rfl
                            · intro a1 w1 hG hF
                              have e12 : a1.eval (.tmp 12) = .pointer (some ⟨g12, 0, none⟩) := hF.ol 12 (by kernel_rfl)
                              exact s_is rfl (wants0 rfl) _ rfl (run_idx (i := 1) Tryd.underlying86 (by kernel_rfl) e12 rfl (by omega))
                            · intro a1 w1 hG hF
                              obtain ⟨_, e159, rfl⟩ := hF.dp 9 159 (by kernel_rfl)
                              exact s_is rfl (wants0 rfl) _ rfl (run_load1 Tryd.underlying84 e159 (Gr.cell ((Gr.drew wy).trans hG) q1))
                            · intro a1 w1 hG hF
                              obtain ⟨_, e158, rfl⟩ := hF.dp 8 158 (by kernel_rfl)
                              obtain ⟨_, e160, rfl⟩ := hF.dp 10 160 (by kernel_rfl)
                              exact s_is rfl (wants0 rfl) _ rfl (run_and32 (a := a) (b := b1) e158 e160)
                            · intro a1 w1 hG hF
                              exact s_old rfl (wants0 rfl) (.tmp 15) (.inr rfl) (.int .u32 ((a).toNat : Int)) (hF.ol 15 (by kernel_rfl)) rfl
                            · intro a1 w1 hG hF
                              have e12 : a1.eval (.tmp 12) = .pointer (some ⟨g12, 0, none⟩) := hF.ol 12 (by kernel_rfl)
                              exact s_is rfl (wants0 rfl) _ rfl (run_idx (i := 2) Tryd.underlying86 (by kernel_rfl) e12 rfl (by omega))
                            · intro a1 w1 hG hF
                              obtain ⟨_, e163, rfl⟩ := hF.dp 13 163 (by kernel_rfl)
                              exact s_is rfl (wants0 rfl) _ rfl (run_load1 Tryd.underlying84 e163 (Gr.cell ((Gr.drew wy).trans hG) q2))
                            · intro a1 w1 hG hF
                              obtain ⟨_, e162, rfl⟩ := hF.dp 12 162 (by kernel_rfl)
                              obtain ⟨_, e164, rfl⟩ := hF.dp 14 164 (by kernel_rfl)
                              exact s_is rfl (wants0 rfl) _ rfl (run_and32 (a := a) (b := c) e162 e164)
                            · intro a1 w1 hG hF
                              obtain ⟨_, e161, rfl⟩ := hF.dp 11 161 (by kernel_rfl)
                              obtain ⟨_, e165, rfl⟩ := hF.dp 15 165 (by kernel_rfl)
                              exact s_is rfl (wants0 rfl) _ rfl (run_xor32 (a := a &&& b1) (b := a &&& c) e161 e165)
                            · intro a1 w1 hG hF
                              have e12 : a1.eval (.tmp 12) = .pointer (some ⟨g12, 0, none⟩) := hF.ol 12 (by kernel_rfl)
                              exact s_is rfl (wants0 rfl) _ rfl (run_idx (i := 1) Tryd.underlying86 (by kernel_rfl) e12 rfl (by omega))
                            · intro a1 w1 hG hF
                              obtain ⟨_, e167, rfl⟩ := hF.dp 17 167 (by kernel_rfl)
                              exact s_is rfl (wants0 rfl) _ rfl (run_load1 Tryd.underlying84 e167 (Gr.cell ((Gr.drew wy).trans hG) q1))
                            · intro a1 w1 hG hF
                              have e12 : a1.eval (.tmp 12) = .pointer (some ⟨g12, 0, none⟩) := hF.ol 12 (by kernel_rfl)
                              exact s_is rfl (wants0 rfl) _ rfl (run_idx (i := 2) Tryd.underlying86 (by kernel_rfl) e12 rfl (by omega))
                            · intro a1 w1 hG hF
                              obtain ⟨_, e169, rfl⟩ := hF.dp 19 169 (by kernel_rfl)
                              exact s_is rfl (wants0 rfl) _ rfl (run_load1 Tryd.underlying84 e169 (Gr.cell ((Gr.drew wy).trans hG) q2))
                            · intro a1 w1 hG hF
                              obtain ⟨_, e168, rfl⟩ := hF.dp 18 168 (by kernel_rfl)
                              obtain ⟨_, e170, rfl⟩ := hF.dp 20 170 (by kernel_rfl)
                              exact s_is rfl (wants0 rfl) _ rfl (run_and32 (a := b1) (b := c) e168 e170)
                            · intro a1 w1 hG hF
                              obtain ⟨_, e166, rfl⟩ := hF.dp 16 166 (by kernel_rfl)
                              obtain ⟨_, e171, rfl⟩ := hF.dp 21 171 (by kernel_rfl)
                              exact s_is rfl (wants0 rfl) _ rfl (run_xor32 (a := (a &&& b1) ^^^ (a &&& c)) (b := b1 &&& c) e166 e171)
                            · intro a1 w1 hG hF
                              obtain ⟨_, e157, rfl⟩ := hF.dp 7 157 (by kernel_rfl)
                              obtain ⟨_, e172, rfl⟩ := hF.dp 22 172 (by kernel_rfl)
                              exact s_is rfl (wants0 rfl) _ rfl (by rw [HY.out]; exact run_add32 (a := ((rr a 2) ^^^ (rr a 13)) ^^^ (rr a 22)) (b := ((a &&& b1) ^^^ (a &&& c)) ^^^ (b1 &&& c)) e157 e172)
                            · intro a1 w1 hG hF
                              exact s_same rfl (wants0 rfl) (.tmp 173) (.inl rfl) (hF.dp 23 173 (by kernel_rfl))
                          · intro vs w1 hG hf
                            have z17 : vs 24 = .int .u32 ((y).toNat : Int) := hf.2.2.2.2.2.2.2.2.2.2.2.2.2.2.2.2.2.2.2.2.2.2.2.2.1
                            clear hf
                            simp only [putAll, Nat.zero_add, Nat.reduceAdd, z17]
                            replace hW := hW.gr ((Gr.drew wy).trans hG)
                            clear z17 q1 q2 hG
                            generalize w1 = wz at hW ⊢
                            have p0 : wz.cell? ⟨g12, 0, none⟩ = some (.int .u32 (a.toNat : Int)) := (hW.at_ 0 rfl).cell (i := 0) rfl
                            have p1 : wz.cell? ⟨g12, 1, none⟩ = some (.int .u32 (b1.toNat : Int)) := (hW.at_ 0 rfl).cell (i := 1) rfl
                            have p2 : wz.cell? ⟨g12, 2, none⟩ = some (.int .u32 (c.toNat : Int)) := (hW.at_ 0 rfl).cell (i := 2) rfl
                            have p3 : wz.cell? ⟨g12, 3, none⟩ = some (.int .u32 (d.toNat : Int)) := (hW.at_ 0 rfl).cell (i := 3) rfl
                            have p4 : wz.cell? ⟨g12, 4, none⟩ = some (.int .u32 (e.toNat : Int)) := (hW.at_ 0 rfl).cell (i := 4) rfl
                            have p5 : wz.cell? ⟨g12, 5, none⟩ = some (.int .u32 (f.toNat : Int)) := (hW.at_ 0 rfl).cell (i := 5) rfl
                            have p6 : wz.cell? ⟨g12, 6, none⟩ = some (.int .u32 (g.toNat : Int)) := (hW.at_ 0 rfl).cell (i := 6) rfl
                            have HYV : Hid (Value.agg #[.int .u32 (((x.toNat : Int) + (y.toNat : Int)) % 4294967296), .int .u32 (a.toNat : Int), .int .u32 (b1.toNat : Int), .int .u32 (c.toNat : Int), .int .u32 (((d.toNat : Int) + (x.toNat : Int)) % 4294967296), .int .u32 (e.toNat : Int), .int .u32 (f.toNat : Int), .int .u32 (g.toNat : Int)] = .agg (u32s (V (r + 1))).toArray) := by
                              show _ = _
                              rw [HNX.out, add32_mod, add32_mod]
                              rfl
                            have hvl1 := HVL.out (r + 1)
                            go_simp
                            go_wp2_with (refine wpList_putW hW 0 rfl rfl 86 (.tmp 12) (.tmp 193) rfl (u32s (V (r + 1))) rfl HYV.out (by simp [hvl1]) (info8 _ hvl1) (u32s_oneCell _) ?_; intro wq hWq)
                            simp only [List.set] at hWq
                            clear p0 p1 p2 p3 p4 p5 p6 hW
                            go_simp
                            go_wp2_with fail
                            exact ⟨⟨r + 1, by omega, by go_num, hWq⟩, by simp [intOf]; omega⟩
                    · obtain rfl : r = 64 := by omega
                      have hEe := HVE.out 64 rfl
                      obtain ⟨v, hv⟩ : ∃ v, v = V 64 := ⟨_, rfl⟩
                      have hvl : v.length = 8 := by rw [hv]; exact HVL.out 64
                      rw [← hv] at hW hEe
                      obtain ⟨D, hD⟩ : ∃ D : Nat → List UInt32, D = addAt h0 v := ⟨_, rfl⟩
                      have HDL : Hid (∀ r, (D r).length = 8) := by intro r; rw [hD, addAt_length, hh0l]
                      have HDS : Hid (∀ r, (D r).set r ((D r).getD r 0 + v.getD r 0) = D (r + 1)) := by intro r; rw [hD]; rfl
                      have HDE : Hid (∀ r, r = 8 → H (j + 1) = D r) := by intro r hr; rw [hr, hEe, hD, addAt_all hh0l hvl]
                      have hD0 : u32s h0 = u32s (D 0) := by rw [hD]; rfl
                      rw [hD0] at hW
                      clear hv hEe hD hD0 HVE HVS HVL hlt hr64
                      simp only [show ((64 : Nat) : Int) = 64 from rfl]
                      go_wp2_with fail
                      go_simp
                      go_loopw [18] (fun i wr => ∃ r : Nat, r ≤ 8 ∧ i = .int .i64 r ∧ MemW [g4, g3] w7 wr [(g12, 86, u32s v), (g7, 85, u32s S), (g4, 86, u32s (D r)), (g3, 85, u32s ks)]) (fun i _ => 8 - (intOf i).toNat)
                      case atStart => exact ⟨0, by omega, rfl, hW⟩
                      case round =>
                        clear hW
                        obtain ⟨r, hr8, rfl, hW⟩ := hrel
                        by_cases hlt : r < 8
                        · obtain ⟨hx, hhx⟩ : ∃ x, x = (D r).getD r 0 := ⟨_, rfl⟩
                          obtain ⟨vx, hvx⟩ : ∃ x, x = v.getD r 0 := ⟨_, rfl⟩
                          have c2 := (hW.at_ 2 rfl).u32 (a := r) (by rw [HDL.out]; omega)
                          have c6 := (hW.at_ 0 rfl).u32 (a := r) (by omega)
                          rw [← hhx] at c2
                          rw [← hvx] at c6
                          have hDs := HDS.out r
                          rw [← hhx, ← hvx] at hDs
                          have HDs := Lib.hid hDs
                          clear hhx hvx hDs
                          go_wp2_with fail
                          refine wp_region_st (by kernel_rfl) [IsV (.int .i64 ((r : Nat) : Int)), IsV (.int .i64 ((r : Nat) : Int)), IsV (.pointer (some ⟨g4, r, none⟩)), IsV (.int .u32 ((hx).toNat : Int)), IsV (.int .i64 ((r : Nat) : Int)), IsV (.pointer (some ⟨g12, r, none⟩)), IsV (.int .u32 ((vx).toNat : Int)), IsV (.int .u32 ((hx + vx).toNat : Int)), IsV (.pointer (some ⟨g4, r, none⟩))] 9 _ rfl rfl rfl (by kernel_rfl) (by kernel_rfl) ?_ (⟨g4, r, none⟩ : Addr) (.int .u32 ((hx + vx).toNat : Int)) ?_ ?_ ?_
                          · intro φ hφ
                            simp only [List.mem_cons, List.not_mem_nil, or_false] at hφ
                            rcases hφ with rfl | rfl | rfl | rfl | rfl | rfl | rfl | rfl | rfl <;> exact ⟨_, rfl⟩
                          · refine ⟨?_, ?_, ?_, ?_, ?_, ?_, ?_, ?_, ?_, trivial⟩
                            · intro a1 w1 hG hF
                              exact d_old rfl (wants0 rfl) (.tmp 18) (.inr rfl) (.int .i64 ((r : Nat) : Int)) (hF.ol 18 (by kernel_rfl)) rfl
                            · intro a1 w1 hG hF
                              exact d_old rfl (wants0 rfl) (.tmp 18) (.inr rfl) (.int .i64 ((r : Nat) : Int)) (hF.ol 18 (by kernel_rfl)) rfl
                            · intro a1 w1 hG hF
                              have e4 : a1.eval (.tmp 4) = .pointer (some ⟨g4, 0, none⟩) := hF.ol 4 (by kernel_rfl)
                              obtain ⟨_, e199, rfl⟩ := hF.dp 1 199 (by kernel_rfl)
                              exact d_is rfl (wants0 rfl) _ rfl (run_idx (i := r) Tryd.underlying86 (by kernel_rfl) e4 e199 (by omega))
                            · intro a1 w1 hG hF
                              obtain ⟨_, e200, rfl⟩ := hF.dp 2 200 (by kernel_rfl)
                              exact d_is rfl (wants0 rfl) _ rfl (run_load1 Tryd.underlying84 e200 ((hG.cell _).trans c2))
                            · intro a1 w1 hG hF
                              exact d_old rfl (wants0 rfl) (.tmp 18) (.inr rfl) (.int .i64 ((r : Nat) : Int)) (hF.ol 18 (by kernel_rfl)) rfl
                            · intro a1 w1 hG hF
                              have e12 : a1.eval (.tmp 12) = .pointer (some ⟨g12, 0, none⟩) := hF.ol 12 (by kernel_rfl)
                              obtain ⟨_, e202, rfl⟩ := hF.dp 4 202 (by kernel_rfl)
                              exact d_is rfl (wants0 rfl) _ rfl (run_idx (i := r) Tryd.underlying86 (by kernel_rfl) e12 e202 (by omega))
                            · intro a1 w1 hG hF
                              obtain ⟨_, e203, rfl⟩ := hF.dp 5 203 (by kernel_rfl)
                              exact d_is rfl (wants0 rfl) _ rfl (run_load1 Tryd.underlying84 e203 ((hG.cell _).trans c6))
                            · intro a1 w1 hG hF
                              obtain ⟨_, e201, rfl⟩ := hF.dp 3 201 (by kernel_rfl)
                              obtain ⟨_, e204, rfl⟩ := hF.dp 6 204 (by kernel_rfl)
                              exact d_is rfl (wants0 rfl) _ rfl (run_add32 (a := hx) (b := vx) e201 e204)
                            · intro a1 w1 hG hF
                              have e4 : a1.eval (.tmp 4) = .pointer (some ⟨g4, 0, none⟩) := hF.ol 4 (by kernel_rfl)
                              obtain ⟨_, e198, rfl⟩ := hF.dp 0 198 (by kernel_rfl)
                              exact d_is rfl (wants0 rfl) _ rfl (run_idx (i := r) Tryd.underlying86 (by kernel_rfl) e4 e198 (by omega))
                          · intro a1 w1 hG hF
                            obtain ⟨_, e206, rfl⟩ := hF.dp 8 206 (by kernel_rfl)
                            obtain ⟨_, e205, rfl⟩ := hF.dp 7 205 (by kernel_rfl)
                            exact ⟨wants0 rfl, run_store1 (by kernel_rfl) e206 e205 (by rw [hG.cell]; exact (Option.isSome_iff_exists.2 ⟨_, c2⟩)) (by rw [hG.frozen]; exact (hW.at_ 2 rfl).frozen _)⟩
                          intro vs k0 hf
                          clear hf
                          simp only [putAll, Nat.zero_add, Nat.reduceAdd]
                          have hW' := (hW.dr ⟨k0, rfl⟩).set 2 rfl r (.int .u32 ((hx + vx).toNat : Int))
                          rw [u32s_set, HDs.out] at hW'
                          simp only [List.set] at hW'
                          generalize ((World.drewN _ k0).setCell _ _) = W1 at hW' ⊢
                          clear hW c2 c6
                          go_simp
                          go_wp2_with fail
                          go_roundw
                          case rel => exact ⟨r + 1, by omega, by go_num, hW'⟩
                          case measure => simp [intOf]; omega
                        · obtain rfl : r = 8 := by omega
                          rw [← HDE.out 8 rfl] at hW
                          have HO2 := HO.out
                          simp only [show ((8 : Nat) : Int) = 8 from rfl]
                          go_wp2_with fail
                          go_simp
                          exact ⟨⟨j + 1, by omega, by first | (congr 1; done) | (congr 1; omega), hW.drop1.drop1⟩, by simp [intOf]; omega⟩
        · have hjN : j = N := by omega
          have hoN : ¬ o < 64 * N := by omega
          obtain ⟨X, hX⟩ : ∃ X, X = H j := ⟨_, rfl⟩
          have hXl : X.length = 8 := by rw [hX]; exact HHL.out j
          have hXe : shaL l = outS X := by rw [hX]; exact HHE.out j hjN
          rw [← hX] at hW
          have hGw : Gr w w7 := hG3.trans hG7
          obtain ⟨Y, hY⟩ : ∃ Y : Nat → ByteArray, Y = fun r => ⟨(outS (X.take r)).toArray⟩ := ⟨_, rfl⟩
          have HY0 : Hid (∀ r, r = 0 → Y r = ⟨#[]⟩) := by intro r hr; rw [hY, hr]; rfl
          have HY8 : Hid (∀ r, r = 8 → Y r = ⟨(shaL l).toArray⟩) := by intro r hr; rw [hr, hY, hXe]; simp only []; rw [List.take_of_length_le (by omega)]
          have HYS : Hid (∀ r x, X[r]? = some x → Y (r + 1) = Y r ++ ⟨(leBytes 4 x.toNat).reverse.toArray⟩) := by
            intro r x hx
            rw [hY]
            simp only [outS]
            rw [take_snoc_ X r x hx, List.flatMap_append, str_append]
            simp
          have HYL : Hid (∀ r, (Y r).size ≤ 32) := by
            intro r
            rw [hY]
            show (outS (X.take r)).length ≤ 32
            rw [outS_length, List.length_take]
            omega
          obtain ⟨w9, hw9⟩ : ∃ w9, w9 = wr := ⟨_, rfl⟩
          subst hw9
          have hBw : Below w.heap.size w w9 := by
            have h1 := hM3lt
            have h2 := hW.below (B := w.heap.size) (by simp; omega) hGw.size
            exact Below.trans hGw h2
          have e0 := (HY0.out 0 rfl).symm
          clear hX hXe hY hjN HHS HHE HHL HY0 hlt ho hj hGw
          go_wp2_with fail
          rw [e0]
          clear e0
          go_simp
          go_loopw [19, 20] (fun v i wr => ∃ r : Nat, r ≤ 8 ∧ i = .int .i64 r ∧ v = .string (Y r) ∧ Gr w9 wr) (fun _ i _ => 8 - (intOf i).toNat)
          case atStart => exact ⟨0, by omega, rfl, rfl, Gr.refl _⟩
          case round =>
            obtain ⟨r, hr8, rfl, rfl, hG9⟩ := hrel
            by_cases hlt : r < 8
            · obtain ⟨x, hx⟩ : ∃ x, X[r]? = some x := ⟨_, List.getElem?_eq_getElem (by omega)⟩
              have c4 := ((hW.at_ 0 rfl).gr hG9).cell (i := r) (u32s_at hx)
              have hYs := HYS.out r x hx
              have hxl := x.toNat_lt
              have hput := fun w => refPut_any x.toNat (by omega) 4 true w
              rw [show (min (4 : Int) 64).toNat = 4 from rfl, show putL true 4 x.toNat = (leBytes 4 x.toNat).reverse from rfl] at hput
              obtain ⟨ub, hub⟩ : ∃ u : ByteArray, u = ⟨(leBytes 4 x.toNat).reverse.toArray⟩ := ⟨_, rfl⟩
              have hus : ub.size ≤ 4 := by rw [hub]; show (leBytes 4 x.toNat).reverse.length ≤ 4; simp
              rw [← hub] at hput hYs
              obtain ⟨yb, hyb⟩ : ∃ y, y = Y r := ⟨_, rfl⟩
              have hyl : yb.size ≤ 32 := by rw [hyb]; exact HYL.out r
              rw [← hyb] at hYs ⊢
              have HYs := Lib.hid hYs
              have HPUT := Lib.hid hput
              clear hx hYs hput hub hyb
              go_wp2_with (go_at_call 35; refine (HPUT.out _).mono ?_; rintro e wp ⟨rfl, hBp⟩)
              have hG10 := hG9.trans hBp
              have HG10 := Lib.hid hG10
              clear hG10 hBp c4
              exact ⟨⟨r + 1, by omega, by go_num, by rw [HYs.out], HG10.out⟩, by simp [intOf]; omega⟩
            · obtain rfl : r = 8 := by omega
              have h8 := HY8.out 8 rfl
              rw [h8]
              clear h8
              go_wp2_with fail
              go_ret
              exact ⟨rfl, hBw.trans (hG9.mono hBw.size)⟩
end Go.Proofs.YthpgldfjcancjaaDoor

