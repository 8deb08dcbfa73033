/- The walk of sha2.Sum. No condition. -/
import Derived.Test.YtmcnnjcbgbdeeaaDoorShaM
import Derived.Test.YtmcnnjcbgbdeeaaDoorParts
import Derived.Test.YtmcnnjcbgbdeeaaDoorKitA
namespace Go.Proofs.YtmcnnjcbgbdeeaaDoor
open Go.RowKit
/-- A slice's length. -/
def lenSl : Value → Nat
  | .slice _ n _ => n
  | _ => 0
theorem own_lenSl {w : World} {b : Nat} {e : TypeId} {size n : Nat} {v : Value} {xs : List Value} (h : w.ownsRow b e size v n xs) : lenSl v = n := by
  obtain ⟨A, c, rfl, _⟩ := own_form h
  rfl
theorem own_range {w : World} {base : Nat} {e : TypeId} {n : Nat} {v : Value} {l : List UInt8} (h : w.ownsRow base e 1 v n (u8s l)) (hn : 0 < n) :
    ∃ g c, v = .slice (some ⟨g, 0, none⟩) n c ∧ n ≤ c ∧ base ≤ g ∧ g < w.heap.size ∧ w.rangeAt g 0 (u8s l) := by
  obtain ⟨g, c, rfl, hc, hb, hl, _⟩ := own_at h hn
  exact ⟨g, c, rfl, hc, hb, hl, fun j v hv => by have := h.cells (g := g) rfl j v hv; rw [add_row] at this; exact this⟩
theorem infoU8_32 (l : List UInt8) (h : l.length = 32) : (Tryd.prog.info? 22).map (·.size) = some (u8s l).length := by simp only [u8s_length, h]; kernel_rfl
/-- The text, its mark, so many noughts. -/
def markS (l : List UInt8) (k : Nat) : List UInt8 := l ++ [0x80] ++ List.replicate k 0
theorem markS_length (l : List UInt8) (k : Nat) : (markS l k).length = l.length + 1 + k := by simp [markS]; omega
theorem markS_succ (l : List UInt8) (k : Nat) : u8s (markS l (k + 1)) = u8s (markS l k) ++ [.int .u8 ((0 : UInt8).toNat : Int)] := by
  have e : markS l (k + 1) = markS l k ++ [0] := by simp only [markS, List.replicate_succ', List.append_assoc]
  rw [e, u8s_append]; rfl
set_option maxRecDepth 100000 in
set_option maxHeartbeats 8000000 in
theorem shaSum_any (A : Option Addr) (n c : Nat) (ps : List Part) (hn : n ≤ 1000000) (l : List UInt8) (hal : allP ps = l) (hl : l.length ≤ 1000000) (w : World) (h : Parts w A n ps) (gw : Glob w) :
    Calls Tryd.prog 16 #[.slice A n c] w fun e w' => e = .returned (.agg (u8s (shaL l)).toArray) ∧ Below w.heap.size w w' := by
  obtain ⟨i0, hi0, hz0, hz1, hz2⟩ := info_parts Tryd.info5
  obtain ⟨m, hm⟩ : ∃ m, m = l.length := ⟨_, rfl⟩
  have hcc := fun w h => concat_any A n c ps hn (by rw [hal]; exact hl) w h
  rw [hal, ← hm] at hcc
  have HCC := Lib.hid hcc
  rw [← hm] at hl
  have HM := Lib.hid hm
  clear hcc hal hm
  go_enter Tryd.func16, Tryd.ntmps16
  go_wp2_with fail
  generalize hW : w.alloc _ = W
  obtain ⟨g2, hg2⟩ : ∃ g, g = w.heap.size := ⟨_, rfl⟩
  have hM : Mem g2 w W [(g2, 22, u8s (List.replicate 32 0))] := by
    have h := ((Mem.nil w).new (t := 22) (C := (u8s (List.replicate 32 0)).toArray) (cs := u8s (List.replicate 32 0)) (Nat.le_refl _) (by simp))
    rw [← hW, hg2]
    exact h
  have hB0 : g2 ≤ w.heap.size := by omega
  simp only [← hg2]
  have HG := Lib.hid hg2
  have hGW : Gr w W := by have := hM.below; rw [HG.out] at this; exact this
  have hps := h.gr hGW
  clear hW hg2 h
  go_wp2_with first
    | (go_at_call 30; refine (HCC.out _ hps).mono ?_; rintro e w1 ⟨v1, rfl, ho1, hB1⟩; obtain ⟨A1, c1, rfl, _, _⟩ := own_form ho1)
    | (at_builtin; go_must (refine wpList_app1 w1 rfl (.tmp 14) (.tmp 15) 42 rfl W.heap.size 5 i0 (.int .u8 0) 1 Tryd.underlying42 hi0 hz0 hz1 hz2 rfl (.slice A1 m c1) m _ rfl ho1 _ (.int .u8 ((128 : UInt8).toNat : Int)) rfl rfl rfl (by omega) (by unfold maxLen; omega) hB1.size ?_); intro v2 w2 hA2)
  have ho2 := hA2.own
  have hG2 : Gr W w2 := Below.trans hB1 (hA2.below ho1 hB1.size)
  rw [show u8s l ++ [Value.int .u8 ((128 : UInt8).toNat : Int)] = u8s (markS l 0) by simp [markS, u8s]] at ho2
  clear hA2 ho1 hB1
  go_simp
  obtain ⟨z, hz⟩ : ∃ z, z = (119 - m % 64) % 64 := ⟨_, rfl⟩
  have hzl : z < 64 := by rw [hz]; exact Nat.mod_lt _ (by omega)
  have HZ : Hid (∀ k, k ≤ z → ((m + 1 + k) % 64 = 56 ↔ k = z)) := by intro k hk; omega
  have HZE := Lib.hid hz
  clear hz
  go_loopw [3] (fun v wr => ∃ k : Nat, k ≤ z ∧ wr.ownsRow W.heap.size 5 1 v (m + 1 + k) (u8s (markS l k)) ∧ Gr W wr) (fun v _ => m + 1 + z - lenSl v)
  case atStart => exact ⟨0, by omega, ho2, hG2⟩
  case round =>
    clear ho2 hG2
    obtain ⟨k, hk, hown, hG2⟩ := hrel
    have hz1 := HZ.out k hk
    obtain ⟨A3, c3, rfl, _, _⟩ := own_form hown
    obtain ⟨q, hq⟩ : ∃ q, q = m + 1 + k := ⟨_, rfl⟩
    rw [← hq] at hown hz1 ⊢
    have hbs := hG2.size
    have HQ := Lib.hid hq
    have hql : q ≤ 1000100 := by omega
    by_cases hlt : k < z
    · have t1 : (((q : Int) % 64) == 56) = false := by rw [beq_eq_false_iff_ne]; omega
      have t2 : (((q : Int) % 64) != 56) = true := by rw [bne_iff_ne]; omega
      clear hz1 hq
      go_wp2_with (at_builtin; go_must (refine wpList_app1 wr rfl (.tmp 21) (.tmp 22) 42 rfl W.heap.size 5 i0 (.int .u8 0) 1 Tryd.underlying42 hi0 hz0 hz1 hz2 rfl (.slice A3 q c3) q _ rfl hown _ (.int .u8 ((0 : UInt8).toNat : Int)) rfl rfl rfl (by omega) (by unfold maxLen; omega) hbs ?_); intro v' w1 hA)
      have ho := hA.own
      have hG3 : Gr W w1 := Below.trans hG2 (hA.below hown hbs)
      have hs1 := own_lenSl ho
      rw [← markS_succ] at ho
      clear hA hown hG2
      go_simp
      refine ⟨⟨k + 1, by omega, by rw [show m + 1 + (k + 1) = q + 1 by have := HQ.out; omega]; exact ho⟩, ?_⟩
      show _ < m + 1 + z - q
      have := HQ.out
      omega
    · obtain rfl : k = z := by omega
      have t1 : (((q : Int) % 64) == 56) = true := by rw [beq_iff_eq]; omega
      have t2 : (((q : Int) % 64) != 56) = false := by rw [bne_eq_false_iff_eq]; omega
      have hpad : markS l k ++ (leBytes 8 (m * 8)).reverse = padS l := by rw [markS, padS, HZE.out, HM.out]
      have HPAD := Lib.hid hpad
      clear hz1 hq hzl HZ hk hlt hpad
      obtain ⟨A1', hA1'⟩ : ∃ A1' : Option Addr, A1' = A1 := ⟨_, rfl⟩
      have hM1 := hM.gr hB0 hG2
      have gW1 := gw.below (hGW.trans hG2)
      obtain ⟨N, hN1, hN2⟩ := padS_length l
      obtain ⟨p, hp⟩ : ∃ p, p = padS l := ⟨_, rfl⟩
      have hpad := HPAD.out
      rw [← hp] at hpad hN1
      rw [← HM.out] at hN2
      have HP := Lib.hid hp
      have HPAD2 := Lib.hid hpad
      have hpl : p.length = 64 * N := hN1
      have hNl : 64 * N ≤ 1000100 := by omega
      have hq8 : q + 8 = 64 * N := by
        rw [← hpl, ← hpad, List.length_append, markS_length]
        have e1 := HQ.out
        have e2 := HM.out
        simp
        omega
      have HQ8 := Lib.hid hq8
      have HPL := Lib.hid hpl
      clear hp hN1 hN2 hpl hq8 hA1' A1' hpad HPAD
      go_wp2_with first
        | (go_at_call 31; refine (putHigh_k (m * 8) 8 (by omega) (by omega) _).mono ?_; rintro e w3 ⟨v3, rfl, ho3, hB3⟩; obtain ⟨A4, c4, rfl, _, _⟩ := own_form ho3; have hr4 := Rd.of_own ho3; have hown3 := Gr.own hB3 hown; have hbs3 := hB3.size)
        | (at_builtin; go_must (refine wpList_app _ rfl (.tmp 24) (.tmp 27) 42 rfl W.heap.size 5 i0 (.int .u8 0) 1 Tryd.underlying42 hi0 hz0 hz1 hz2 rfl (.slice A3 q c3) q _ rfl hown3 A4 8 c4 _ rfl hr4 (u8s_oneCell _) (by omega) (by unfold maxLen; omega) (by omega) ?_; rintro v5 w5 hA5; have ho5 := hA5.own; rw [← u8s_append, HPAD2.out, HQ8.out] at ho5; have hG5 : Gr W w5 := Below.trans (Below.trans hG2 (Below.mono hB3 hbs)) (hA5.below hown3 (by omega)); clear hA5 hown3 hown ho3 hB3 hr4; replace hM1 := hM.gr hB0 hG5; replace gW1 := gw.below (hGW.trans hG5); obtain ⟨A5, c5, rfl, hc5, _⟩ := own_form ho5; have hr5 := Rd.of_own ho5))
        | (refine wpList_load_mid rfl 73 (.global 0) rfl 0 0 rfl (u32s startL) _ gW1.start Tryd.underlying73 rfl (info8 _ rfl) ?_)
        | (refine wpList_newM (Mem.nil w5) (Nat.le_refl _) rfl 73 (.tmp 5) (.tmp 29) rfl _ (u32s startL) rfl rfl rfl (by simp only [u32s_length]; rfl) (info8 startL rfl) (u32s_oneCell _) ?_; intro w6 hM6 _)
      go_simp
      obtain ⟨g5, hg5⟩ : ∃ g, g = w5.heap.size := ⟨_, rfl⟩
      rw [← hg5] at hM6
      simp only [← hg5]
      have hB5 : g5 ≤ w5.heap.size := by omega
      have HG5 := Lib.hid hg5
      obtain ⟨H, hH⟩ : ∃ H : Nat → List UInt32, H = hashN p := ⟨_, rfl⟩
      have HHL : Hid (∀ k, (H k).length = 8) := by intro k; rw [hH]; exact hashN_length p k
      have HHS : Hid (∀ k, mixU (H k) (blkS p k) = H (k + 1)) := by intro k; rw [hH]; rfl
      have HHE : Hid (∀ k, k = N → shaL l = outS (H k)) := by
        intro k hk
        rw [hk, hH, shaL, ← HP.out, HPL.out, Nat.mul_div_cancel_left _ (by omega)]
      have hH0 : u32s startL = u32s (H 0) := by rw [hH]; rfl
      rw [hH0] at hM6
      clear hg5 hH hH0 hM hG2 hps
      go_loopw [3] (fun v wr => ∃ (k : Nat) (A : Option Addr) (c : Nat), k ≤ N ∧ v = .slice A (64 * (N - k)) c ∧ 64 * (N - k) ≤ c ∧ Rd w5 A (64 * (N - k)) (u8s (p.drop (64 * k))) ∧ Mem g5 w5 wr [(g5, 73, u32s (H k))]) (fun v _ => lenSl v)
      case atStart => exact ⟨0, A5, c5, by omega, rfl, hc5, by simpa using hr5, hM6⟩
      case round =>
        clear hM6 hr5 hc5
        obtain ⟨j, Aj, cj, hj, rfl, hcj, hrj, hM6⟩ := hrel
        obtain ⟨n1, hn1⟩ : ∃ n1, n1 = 64 * (N - j) := ⟨_, rfl⟩
        rw [← hn1] at hcj hrj ⊢
        have hG6 : Gr w5 wr := by have := hM6.below; rw [HG5.out] at this; exact this
        have gwr := gW1.below hG6
        by_cases hlt : j < N
        · have hn64 : 64 ≤ n1 := by omega
          have hn0 : 0 < n1 := by omega
          have hnl : n1 ≤ 1000100 := by omega
          have hrb := (hG6.rd hrj).take (k := 64) hn64
          rw [u8s_take] at hrb
          obtain ⟨b, hb⟩ : ∃ b, b = blkS p j := ⟨_, rfl⟩
          rw [show (p.drop (64 * j)).take 64 = b by rw [hb]; rfl] at hrb
          have hrn := hrj.cutL (lo := 64) hn64 hcj
          rw [u8s_drop, List.drop_drop, show 64 * j + 64 = 64 * (j + 1) by omega, show n1 - 64 = 64 * (N - (j + 1)) by omega] at hrn
          have hcut1 := fun w1 => run_cut_h (P := Tryd.prog) Tryd.underlying42 (by kernel_rfl) (A := Aj) (n := n1) (c := cj) (hi := 64) (h := 64) rfl (by omega) w1
          have hcut2 := fun w1 => run_cut_l (P := Tryd.prog) Tryd.underlying42 (by kernel_rfl) (A := Aj) (n := n1) (c := cj) (lo := 64) (l := 64) rfl hn64 w1
          rw [show n1 - 64 = 64 * (N - (j + 1)) by omega] at hcut2
          obtain ⟨h0, hh0⟩ : ∃ h, h = H j := ⟨_, rfl⟩
          have hh0l : h0.length = 8 := by rw [hh0]; exact HHL.out j
          obtain ⟨h1, hh1⟩ : ∃ h, h = H (j + 1) := ⟨_, rfl⟩
          have hh1l : h1.length = 8 := by rw [hh1]; exact HHL.out _
          have hmx := fun w hr gw => mix2_any h0 hh0l Aj cj b (by omega) w hr gw
          have hst := HHS.out j
          rw [← hh0, ← hb, ← hh1] at hst
          rw [hst] at hmx
          rw [← hh0] at hM6
          have HMX := Lib.hid hmx
          have HH1 := Lib.hid hh1
          have HC1 := Lib.hid hcut1
          have HN1 := Lib.hid hn1
          clear hb hh0 hh1 hst hmx hcut1 hn1
          go_wp2_with fail
          refine wp_region_cut (by kernel_rfl) [IsV (.agg (u32s h0).toArray), IsV (.slice Aj n1 cj), IsV (.slice Aj 64 cj), IsV (.agg (u32s h1).toArray)] 4 (by decide) (by kernel_rfl) (by kernel_rfl) (by kernel_rfl) ?_ ?_ ?_
          · intro φ hφ v w1 w2 h hg
            simp only [List.mem_cons, List.not_mem_nil, or_false] at hφ
            rcases hφ with rfl | rfl | rfl | rfl
            all_goals first | exact h | exact RdV.gr h hg
          · refine ⟨?_, ?_, ?_, ?_, trivial⟩
            · intro a1 w1 hG hF
              have e5 : a1.eval (.tmp 5) = .pointer (some ⟨g5, 0, none⟩) := hF.ol 5 (by kernel_rfl)
              exact s_wp rfl (wants0 rfl) (wp_load_mid _ _ rfl g5 0 e5 (u32s h0) _ ((hM6.gr hB5 ((Gr.drew wr).trans hG)).at_ 0 rfl).range Tryd.underlying73 rfl (info8 h0 hh0l) ⟨_, rfl, rfl, Gr.refl _⟩)
            · intro a1 w1 hG hF
              exact s_old rfl (wants0 rfl) (.tmp 3) (.inr rfl) (.slice Aj n1 cj) (hF.ol 3 (by kernel_rfl)) rfl
            · intro a1 w1 hG hF
              obtain ⟨_, e36, rfl⟩ := hF.dp 1 36 (by kernel_rfl)
              exact s_is rfl (wants0 rfl) _ rfl (by simp only [execOp, e36, show a1.eval (.const (.int .i64 64)) = .int .i64 64 from rfl, Option.map, Sem.run_bind, HC1.out, Result.andThen_ok, Sem.run_pure])
            · intro a1 w1 hG hF
              obtain ⟨_, e35, rfl⟩ := hF.dp 0 35 (by kernel_rfl)
              obtain ⟨_, e37, rfl⟩ := hF.dp 2 37 (by kernel_rfl)
              exact s_call rfl (wants0 rfl) _ rfl _ _ (by simp only [execOp, resolve, invoke, List.map_toArray, List.map_cons, List.map_nil, e35, e37]; go_simp) ((HMX.out w1 (((Gr.drew wr).trans hG).rd hrb) (gwr.below ((Gr.drew wr).trans hG))).mono fun e w2 ⟨he, hb⟩ => ⟨_, he, rfl, hb⟩)
          · intro vs w1 hG hf
            have z38 : vs 3 = .agg (u32s h1).toArray := hf.2.2.2.1
            clear hf
            simp only [List.take_succ_cons, List.take_zero, List.drop_succ_cons, List.drop_zero, putAll, Nat.zero_add, Nat.reduceAdd, z38]
            have hM7 := hM6.gr hB5 ((Gr.drew wr).trans hG)
            refine wpList_putM hM7 0 rfl rfl 73 (.tmp 5) (.tmp 38) rfl (u32s h1) (by kernel_rfl) (by kernel_rfl) (by simp [hh0l, hh1l]) (info8 _ hh1l) (u32s_oneCell _) ?_
            intro w8 hM8 _
            simp only [List.set] at hM8
            rw [HH1.out] at hM8
            clear hM6 hM7 hG gwr hrb HMX
            unfold wpList
            go_simp
            go_wp2_with fail
            have hn1' := HN1.out
            exact ⟨⟨j + 1, cutA Aj cj 64, cj - 64, by omega, rfl, by omega, hrn, hM8⟩, by show 64 * (N - (j + 1)) < n1; have := HN1.out; omega⟩
        · have hjN : j = N := by omega
          have hn0 : n1 = 0 := by omega
          subst hn0
          obtain ⟨X, hX⟩ : ∃ X, X = H j := ⟨_, rfl⟩
          have hXl : X.length = 8 := by rw [hX]; exact HHL.out j
          have hXe : shaL l = outS X := by rw [hX]; exact HHE.out j hjN
          rw [← hX] at hM6
          have HXE := Lib.hid hXe
          have hM9 := hM1.gr hB0 hG6
          obtain ⟨Y, hY⟩ : ∃ Y : Nat → List UInt8, Y = fun r => outS (X.take r) := ⟨_, rfl⟩
          have HY0 : Hid (Y 0 = []) := by show _ = _; rw [hY]; rfl
          have HY8 : Hid (∀ r, r = 8 → Y r = shaL l) := by intro r hr; rw [hr, hY, hXe]; simp only []; rw [List.take_of_length_le (by omega)]
          have HYS : Hid (∀ r x, X[r]? = some x → Y (r + 1) = Y r ++ (leBytes 4 x.toNat).reverse) := by
            intro r x hx
            rw [hY]
            simp only [outS]
            rw [take_snoc_ X r x hx, List.flatMap_append]
            simp
          have hlS : (shaL l).length = 32 := shaL_length l
          obtain ⟨D, hD⟩ : ∃ D, D = shaL l := ⟨_, rfl⟩
          rw [← hD] at hlS HY8
          have HD := Lib.hid hD
          clear hX hXe hY hD hjN hn1 hrj hcj HHS HHE HHL HXE
          obtain ⟨w7, hw7⟩ : ∃ w7, w7 = wr := ⟨_, rfl⟩
          subst hw7
          go_wp2_with (refine wpList_load_mid rfl 73 (.tmp 5) rfl g5 0 rfl (u32s X) _ (hM6.at_ 0 rfl).range Tryd.underlying73 rfl (info8 _ hXl) ?_)
          go_simp
          go_loopw [6, 40] (fun v i w' => ∃ r : Nat, r ≤ 8 ∧ i = .int .i64 r ∧ w'.ownsRow w7.heap.size 5 1 v (4 * r) (u8s (Y r)) ∧ Gr w7 w') (fun _ i _ => 8 - (intOf i).toNat)
          case atStart => exact ⟨0, by omega, rfl, by rw [HY0.out]; exact World.ownsRow_nil _ _ _ _, Gr.refl _⟩
          case round =>
            obtain ⟨r, hr8, rfl, hown, hG7⟩ := hrel
            obtain ⟨A7, c7, rfl, hc7, _⟩ := own_form hown
            obtain ⟨z, hz⟩ : ∃ z, z = 4 * r := ⟨_, rfl⟩
            rw [← hz] at hown hc7 ⊢
            have hzl : z ≤ 32 := by omega
            have hbs := hG7.size
            by_cases hlt : r < 8
            · obtain ⟨x, hx⟩ : ∃ x, X[r]? = some x := ⟨_, List.getElem?_eq_getElem (by omega)⟩
              have hix := fun w => run_indexA (P := Tryd.prog) Tryd.underlying73 Tryd.underlying72 (by kernel_rfl) (C := u32s X) (i := r) (u32s_at hx) hlt w
              have hYs := HYS.out r x hx
              have HYs := Lib.hid hYs
              have HZ2 := Lib.hid hz
              have hxl := x.toNat_lt
              clear hx hYs hz
              go_wp2_with first
                | (go_at_call 31; refine (putHigh_k x.toNat 4 (by omega) (by omega) _).mono ?_; rintro e w9 ⟨v9, rfl, ho9, hB9⟩; obtain ⟨A9, c9, rfl, _, _⟩ := own_form ho9; have hr9 := Rd.of_own ho9; have hown9 := Gr.own hB9 hown; have hbs9 := hB9.size)
                | (at_builtin; go_must (refine wpList_app _ rfl (.tmp 43) (.tmp 46) 42 rfl w7.heap.size 5 i0 (.int .u8 0) 1 Tryd.underlying42 hi0 hz0 hz1 hz2 rfl (.slice A7 z c7) z _ rfl hown9 A9 4 c9 _ rfl hr9 (u8s_oneCell _) (by omega) (by unfold maxLen; omega) (by omega) ?_; rintro v10 w10 hA10))
              have ho10 := hA10.own
              have hG10 : Gr w7 w10 := Below.trans (Below.trans hG7 (Below.mono hB9 hbs)) (hA10.below hown9 (by omega))
              rw [← u8s_append, ← HYs.out, HZ2.out, show 4 * r + 4 = 4 * (r + 1) by omega] at ho10
              clear hA10 hown9 hown ho9 hB9 hr9 hix
              go_simp
              go_wp2_with fail
              go_roundw
              case rel => exact ⟨r + 1, by omega, by go_num, ho10⟩
              case measure => simp [intOf]; omega
            · obtain rfl : r = 8 := by omega
              obtain rfl : z = 32 := by omega
              rw [HY8.out 8 rfl] at hown
              obtain ⟨go, co, hgo, _, _, _, hrg⟩ := own_range hown (by omega)
              injection hgo with hgo1 hgo2 hgo3
              subst hgo1 hgo3
              have ha := fun w => run_arrAt (P := Tryd.prog) Tryd.underlying22 (A := some ⟨go, 0, none⟩) (c := c7) (Nat.le_refl 32) w
              have hM10 := hM9.gr hB0 hG7
              simp only [show ((8 : Nat) : Int) = 8 from rfl]
              go_wp2_with first
                | (refine wpList_load_mid rfl 22 (.tmp 50) rfl go 0 rfl (u8s D) _ hrg Tryd.underlying22 rfl (infoU8_32 _ hlS) ?_)
                | (refine wpList_putM hM10 0 rfl rfl 22 (.tmp 2) (.tmp 51) rfl (u8s D) rfl rfl (by simp [hlS]) (infoU8_32 _ hlS) (u8s_oneCell _) ?_; intro w11 hM11 _)
              simp only [List.set] at hM11
              refine bodyPost_ret (results_cell_row rfl _ _ g2 _ _ _ _ rfl (hM11.at_ 0 rfl) Tryd.underlying22 rfl (by have := infoU8_32 _ hlS; simpa using this)) rfl ?_
              exact ⟨by rw [HD.out], by have := hM11.below; rw [HG.out] at this; exact this⟩
end Go.Proofs.YtmcnnjcbgbdeeaaDoor

