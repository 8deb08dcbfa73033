/- Texts of one proof, laid as one: part 41. No condition. -/
import Derived.Test.YtjpphldojbfpfaaGreatDoorZf02
import Derived.Test.YtjpphldojbfpfaaGreatDoorZf31
import Derived.Test.YtjpphldojbfpfaaGreatDoorZf37
import Derived.Test.YtjpphldojbfpfaaGreatDoorZf39
import Derived.Test.YtjpphldojbfpfaaGreatDoorZf40
namespace Go.Proofs.YtjpphldojbfpfaaGreatDoor
open Go.RowKit
def rowP (k : Nat) (f : Nat → Nat) : List Value := [if 0 < k then .pointer (some ⟨f 0, 0, none⟩) else .pointer none, if 1 < k then .pointer (some ⟨f 1, 0, none⟩) else .pointer none]
theorem rowP_set (k : Nat) (f : Nat → Nat) (hk : k < 2) : (rowP k f).set k (.pointer (some ⟨f k, 0, none⟩)) = rowP (k + 1) f := by
  have h : k = 0 ∨ k = 1 := by omega
  rcases h with rfl | rfl <;> rfl
theorem rowP_congr {k : Nat} {f f' : Nat → Nat} (h : ∀ j, j < k → f j = f' j) : rowP k f = rowP k f' := by
  unfold rowP
  by_cases h0 : 0 < k
  · by_cases h1 : 1 < k
    · simp only [h0, h1, if_true, h 0 h0, h 1 h1]
    · simp only [h0, h1, if_true, if_false, h 0 h0]
  · simp only [h0, show ¬ 1 < k by omega, if_false]
theorem Fresh.ins {lo hi : Nat} {S : ShSt} {T : Nat → Prop} {w w' : World} (h : Fresh lo hi S w) (hS : InS T w w') (hT : ∀ i, T i → i < lo) : Fresh lo hi S w' := by
  obtain ⟨L, hL⟩ := h.log
  have hn : ∀ i, S.All i → ¬ T i := fun i hi e => by
    have h1 := h.rng i hi; have h2 := hT i e; omega
  exact ⟨hS.arr h.shelf (hn _ (.inr rfl)), ⟨L, hL.ins hS (hn _ (.inl (.inl rfl))) (hn _ (.inl (.inr (.inl rfl)))) (hn _ (.inl (.inr (.inr (.inl rfl))))) (hn _ (.inl (.inr (.inr (.inr (.inl rfl)))))) (fun ad e => by cases e)⟩, h.map.ins hS (hn _ (.inl (.inr (.inr (.inr (.inr rfl)))))), h.n, h.rng, h.dif, h.difS⟩
structure L1S (lo g7 g8 : Nat) (w0 : World) (v9 : Value) (wr : World) : Prop where
  ex : ∃ (k : Nat) (S : Nat → ShSt) (bd : Nat → Nat), k ≤ 2 ∧ v9 = .int .i64 (k : Int) ∧ Arr wr g7 25 (rowP k fun j => (S j).sh) ∧ Arr wr g8 27 (rowP k fun j => (S j).D.d) ∧ (∀ j, j < k → Fresh (bd j) (bd (j + 1)) (S j) wr) ∧ bd 0 = lo ∧ bd k ≤ wr.heap.size ∧ Gr w0 wr
theorem L1S.next {lo g7 g8 k : Nat} {w0 wr w3 w5 : World} {S : Nat → ShSt} {bd : Nat → Nat} {T : ShSt} (hk : k < 2) (h7 : Arr w5 g7 25 ((rowP k fun j => (S j).sh).set k (.pointer (some ⟨T.sh, 0, none⟩)))) (h8 : Arr w5 g8 27 ((rowP k fun j => (S j).D.d).set k (.pointer (some ⟨T.D.d, 0, none⟩))))
    (hF : ∀ j, j < k → Fresh (bd j) (bd (j + 1)) (S j) w5) (hb0 : bd 0 = lo) (hbk : bd k ≤ wr.heap.size) (hT : Fresh wr.heap.size w3.heap.size T w5) (h35 : w3.heap.size ≤ w5.heap.size) (hG : Gr w0 w5) : L1S lo g7 g8 w0 (.int .i64 ((k + 1 : Nat) : Int)) w5 := by
  obtain ⟨S', hS'⟩ : ∃ S' : Nat → ShSt, S' = fun j => if j = k then T else S j := ⟨_, rfl⟩
  obtain ⟨bd', hbd'⟩ : ∃ bd' : Nat → Nat, bd' = fun j => if j = k + 1 then w3.heap.size else bd j := ⟨_, rfl⟩
  have e1 : ∀ j, j < k → S' j = S j := fun j hj => by rw [hS']; simp only; rw [if_neg (by omega)]
  have e2 : S' k = T := by rw [hS']; simp
  have e3 : ∀ j, j ≤ k → bd' j = bd j := fun j hj => by rw [hbd']; simp only; rw [if_neg (by omega)]
  have e4 : bd' (k + 1) = w3.heap.size := by rw [hbd']; simp
  refine ⟨k + 1, S', bd', by omega, rfl, ?_, ?_, fun j hj => ?_, by rw [e3 0 (Nat.zero_le _), hb0], by rw [e4]; exact h35, hG⟩
  · rw [rowP_congr (f' := fun j => (S' j).sh) (fun j hj => by rw [e1 j hj]), show T.sh = (fun j => (S' j).sh) k by simp only [e2], rowP_set _ _ hk] at h7; exact h7
  · rw [rowP_congr (f' := fun j => (S' j).D.d) (fun j hj => by rw [e1 j hj]), show T.D.d = (fun j => (S' j).D.d) k by simp only [e2], rowP_set _ _ hk] at h8; exact h8
  · rcases Nat.lt_or_ge j k with h | h
    · rw [e1 j h, e3 j (by omega), e3 (j + 1) (by omega)]; exact hF j h
    · obtain rfl : j = k := by omega
      rw [e2, e3 j (Nat.le_refl _), e4]; exact hT.wide hbk
structure L2S (lo mi hi g7 g8 g14 : Nat) (S0 S1 : ShSt) (n : Nat) (w0 : World) (v15 : Value) (wr : World) : Prop where
  ex : ∃ (m : Nat) (R0 R1 : List (Nm × List SibV)) (W : Nat → Bool), m ≤ 10 ∧ m ≤ n ∧ v15 = .int .i64 (m : Int) ∧ PlainS m R0 ∧ PlainS m R1 ∧ WantP W R0 R1 ∧ L2M S0 S1 R0 R1 W g7 g8 g14 w0 wr
structure L2E (lo mi hi g7 g8 g14 : Nat) (S0 S1 : ShSt) (w0 wr : World) : Prop where
  ex : ∃ (m : Nat) (R0 R1 : List (Nm × List SibV)) (W : Nat → Bool), m ≤ 10 ∧ PlainS m R0 ∧ PlainS m R1 ∧ WantP W R0 R1 ∧ L2M S0 S1 R0 R1 W g7 g8 g14 w0 wr
def TreeV (V : Nm → List KV) (v : Value) (w : World) : Prop := ∃ g b n T, v = .pointer (some ⟨g, 0, none⟩) ∧ TreeIs w g b n T ∧ TreeOf V T
theorem TreeV.gr {V : Nm → List KV} {v : Value} {w w' : World} (h : TreeV V v w) (hG : Gr w w') : TreeV V v w' := by
  obtain ⟨g, b, n, T, e, h1, h2⟩ := h; exact ⟨g, b, n, T, e, h1.gr hG, h2⟩
def L3R (G : List Nat) (w0 : World) (v30 v31 : Value) (wr : World) : Prop := ∃ a : Nat, a ≤ 256 ∧ v31 = .int .i64 (a : Int) ∧ v30 = .int .i64 (cntL G a : Int) ∧ Gr w0 wr
theorem L3R.out {G : List Nat} {w0 : World} {v30 v31 : Value} {wr : World} (h : L3R G w0 v30 v31 wr) : ∃ a : Nat, a ≤ 256 ∧ v31 = .int .i64 (a : Int) ∧ v30 = .int .i64 (cntL G a : Int) ∧ Gr w0 wr := h
def keyK (n : Nat) : Nm := ⟨UInt8.ofNat (n * 28) :: UInt8.ofNat n :: List.replicate 30 0, rfl⟩
theorem keyK_leaf {n : Nat} (hn : n < 9) : leafOf (keyK n) = n * 28 := by
  unfold leafOf keyK; simp only [List.getD_cons_zero, UInt8.toNat_ofNat']; omega
theorem key_val {n : Nat} (hn : n < 9) : Value.agg (Value.int .u8 ((n : Int) * 28) :: .int .u8 (n : Int) :: List.replicate 30 (.int .u8 0)).toArray = .agg (u8s (keyK n).1).toArray := by
  unfold u8s keyK; congr 1
  simp only; rw [List.map_cons, List.map_cons, List.map_replicate, UInt8.toNat_ofNat', UInt8.toNat_ofNat', Nat.mod_eq_of_lt (by omega), Nat.mod_eq_of_lt (by omega)]; congr 3
theorem wrap_u9 (z : Int) : ∃ n : Nat, n < 9 ∧ (IntKind.u64.wrap z).tmod 9 = (n : Int) := by
  have h0 : 0 ≤ z % 18446744073709551616 := Int.emod_nonneg _ (by omega); have h1 := Int.emod_lt_of_pos (z % 18446744073709551616) (b := 9) (by omega); have h2 := Int.emod_nonneg (z % 18446744073709551616) (b := 9) (by omega); refine ⟨((z % 18446744073709551616) % 9).toNat, by omega, ?_⟩; rw [IntKind.wrap_u64, Int.tmod_eq_emod_of_nonneg h0, Int.toNat_of_nonneg h2]
set_option maxRecDepth 100000 in
set_option maxHeartbeats 40000000 in
theorem law_finds {A1 A2 A3 : Option Addr} {n1 n2 n3 c1 c2 c3 : Nat} {zs ys : List Int} (w : World) (hz : Rd w A1 n1 (zs.map (Value.int .i64))) (hy : Rd w A2 n2 (ys.map (Value.int .i64))) (h3 : n3 ≤ c3) (hn1 : c1 ≤ maxLen) (hn2 : c2 ≤ maxLen) (hn3 : c3 ≤ maxLen) (h1 : n1 ≤ c1) (h2 : n2 ≤ c2) (gw : Glob w) :
    Calls Tryz.prog 3 #[.slice A1 n1 c1, .slice A2 n2 c2, .slice A3 n3 c3] w fun e w' => e = .returned (.bool true) ∧ Gr w w' := by
  have HZ := Lib.hid hz; have HY := Lib.hid hy; have HGw := Lib.hid gw; have hzl : zs.length = n1 := by have := hz.1; rwa [List.length_map] at this
  have hyl : ys.length = n2 := by have := hy.1; rwa [List.length_map] at this
  have HZl := Lib.hid hzl; have HYl := Lib.hid hyl; have hb1 : n1 ≤ 9223372036854775807 := by unfold maxLen at *; omega
  have hb2 : n2 ≤ 9223372036854775807 := by unfold maxLen at *; omega
  have hb3 : n3 ≤ 9223372036854775807 := by unfold maxLen at *; omega
  clear hz hy gw hzl hyl hn1 hn2 hn3 h1 h2
  go_enter Tryz.func3, Tryz.ntmps3
  go_upto_region 4 with fail
  have hA7 : Arr ((w.alloc (.cells #[.pointer none, .pointer none] 25)).alloc (.cells #[.pointer none, .pointer none] 27)) w.heap.size 25 (rowP 0 fun j => j) := Arr.alloc (Arr.newAt rfl rfl) _; have hA8 : Arr ((w.alloc (.cells #[.pointer none, .pointer none] 25)).alloc (.cells #[.pointer none, .pointer none] 27)) (w.heap.size + 1) 27 (rowP 0 fun j => j) := Arr.newAt (by simp only [asz]) rfl; have hGa : Gr w ((w.alloc (.cells #[.pointer none, .pointer none] 25)).alloc (.cells #[.pointer none, .pointer none] 27)) := (Gr.alloc _ _).trans (Gr.alloc _ _); have hza : ((w.alloc (.cells #[.pointer none, .pointer none] 25)).alloc (.cells #[.pointer none, .pointer none] 27)).heap.size = w.heap.size + 2 := by simp
  have HNew : Hid (∀ w1, Calls Tryz.prog 4 #[.int .i64 300] w1 fun e w' => DNewQ 300 w1 e w') := Lib.hid (fun w1 => dnew_any 300 (by omega) w1); generalize (w.alloc (.cells #[.pointer none, .pointer none] 25)).alloc (.cells #[.pointer none, .pointer none] 27) = wa at hA7 hA8 hGa hza ⊢; obtain ⟨g7, hg7⟩ : ∃ g, g = w.heap.size := ⟨_, rfl⟩; obtain ⟨g8, hg8⟩ : ∃ g, g = g7 + 1 := ⟨_, rfl⟩; obtain ⟨lo, hlo⟩ : ∃ g, g = wa.heap.size := ⟨_, rfl⟩; simp only [← hg7, ← hg8] at hA7 hA8 hza ⊢; have hw7 : w.heap.size ≤ g7 := by omega
  have h7lo : g7 < lo := by omega
  have h8lo : g8 < lo := by omega
  have h78 : g7 < g8 := by omega
  have HLo : Hid (lo ≤ wa.heap.size) := Lib.hid (by omega); clear hg7 hg8 hlo hza
  go_loopw [9] (fun v9 wr => L1S lo g7 g8 w v9 wr) (fun v _ => 2 - (intOf v).toNat)
  case atStart => exact ⟨0, fun _ => ⟨⟨0, 0, 0, 0, 0, 0⟩, 0, 0, 0⟩, fun _ => lo, by omega, rfl, hA7, hA8, fun j hj => absurd hj (by omega), rfl, HLo.out, hGa⟩
  case round =>
    obtain ⟨k, S, bd, hk, rfl, h7, h8, hF, hb0, hbk, hG⟩ := hrel.ex; clear hrel hA7 hA8 hGa HLo; have HF := Lib.hid hF; have HB0 := Lib.hid hb0; clear hF hb0
    by_cases hlt : k < 2
    · have hki : (k : Int) < 2 := by omega
      go_upto_region 7 with (go_at_call 4; refine (HNew.out _).mono ?_; rintro e w1 ⟨D, rfl, hDN, hd1, hd2, hd3, hdI, hG1⟩)
      have HForm := Lib.hid (sformat_any (D := D) (B := 0) (F := List.replicate 300 zeroSec) (by rw [hDN]; exact hdI) (by omega)); have HDI := Lib.hid hdI; have HDN := Lib.hid hDN; clear hdI hDN
      go_upto_region 8 with (go_at_call 5; refine HForm.out.mono ?_; rintro e w3 ⟨sh, lg, mp, L', rfl, s1, s2, s3, e1, e2, e3, hS3, hL3, hM3, hI3⟩)
      have HT := Lib.hid (fresh_of hd1 hd2 hd3 HDN.out HDI.out hG1 s1 s2 s3 e1 e2 e3 hS3 hL3 hM3 hI3); have h73 := h7.gr HT.out.2; have h83 := h8.gr HT.out.2; have hGw3 := hG.trans HT.out.2; have hrl7 : k < (rowP k fun j => (S j).sh).length := hlt; have hrl8 : k < (rowP k fun j => (S j).D.d).length := hlt; obtain ⟨g, hg⟩ : ∃ g, g = D.d := ⟨_, rfl⟩; have HGD := Lib.hid hg; simp only [← hg]; clear hd1 hd2 hd3 s1 s2 s3 e1 e2 e3 hS3 hL3 hM3 hI3 HDI HForm h7 h8 hG hG1 hg
      go_wp2_with first
        | (refine wpList_setV h73 rfl 24 (.tmp 59) (.tmp 57) rfl (by kernel_rfl) k (.pointer (some ⟨sh, 0, none⟩)) rfl rfl hrl7 (.inr (.inr (.inr (.inl ⟨_, rfl⟩)))) ?_; intro w4 h74 hK4; have hI4 := InS.of_ink (S := fun i => i = g7) hK4 rfl; have h84 := hI4.arr h83 (by omega))
        | (refine wpList_setV h84 rfl 26 (.tmp 60) (.tmp 58) rfl (by kernel_rfl) k (.pointer (some ⟨g, 0, none⟩)) rfl rfl hrl8 (.inr (.inr (.inr (.inl ⟨_, rfl⟩)))) ?_; intro w5 h85 hK5; have hI5 := InS.of_ink (S := fun i => i = g8) hK5 rfl; have h75 := hI5.arr h74 (by omega))
      have hR : L1S lo g7 g8 w (.int .i64 ((k + 1 : Nat) : Int)) w5 := by
        rw [HGD.out] at h85; have hI35 : InS (fun i => i = g7 ∨ i = g8) w3 w5 := (hI4.wide fun i e => .inl e).trans (hI5.wide fun i e => .inr e); have hk01 : k = 0 ∨ k = 1 := by omega
        have hlw : lo ≤ wr.heap.size := by
          rcases hk01 with rfl | rfl
          · rw [← HB0.out]; exact hbk
          · have h1 := (HF.out 0 (by omega)).rng _ (.inr rfl); rw [← HB0.out]; simp only [Nat.zero_add] at h1; omega
        refine L1S.next (T := ⟨D, sh, lg, mp⟩) (w3 := w3) hlt h75 h85 (fun j hj => ((HF.out j hj).gr HT.out.2).ins hI35 fun i e => ?_) HB0.out hbk (HT.out.1.ins hI35 fun i e => ?_) (Nat.le_trans hI4.size hI5.size) (InS.gr_after hGw3 hI35 fun i _ e => by omega)
        · obtain rfl : j = 0 := by omega
          rw [HB0.out]; omega
        · omega
      exact ⟨by rw [show (k : Int) + 1 = ((k + 1 : Nat) : Int) by omega]; exact hR, by simp [intOf]; omega⟩
    · obtain rfl : k = 2 := by omega
      have hki : ¬ ((2 : Nat) : Int) < 2 := by omega
      go_upto_region 12 with fail
      have hA14 : Arr (wr.alloc (.cells Tryz.zeroCells33 33)) wr.heap.size 33 (wantC fun _ => false) := Arr.newAt rfl (by kernel_rfl); have hGb : Gr wr (wr.alloc (.cells Tryz.zeroCells33 33)) := Gr.alloc _ _; obtain ⟨g14, hg14⟩ : ∃ g, g = wr.heap.size := ⟨_, rfl⟩; rw [← hg14] at hA14; simp only [← hg14]; obtain ⟨hGeo, hL0⟩ := L2M.start (S0 := S 0) (S1 := S 1) (by have := HF.out 0 (by omega); rw [HB0.out] at this; exact this) (HF.out 1 (by omega)) h7 h8 h7lo h8lo hbk hG hGb (by omega) hA14; have hg14b : g14 < (wr.alloc (.cells Tryz.zeroCells33 33)).heap.size := hA14.lt; generalize wr.alloc (.cells Tryz.zeroCells33 33) = wb at hL0 hg14b ⊢; obtain ⟨mi, hmi⟩ : ∃ q, q = bd 1 := ⟨_, rfl⟩; obtain ⟨hi, hhi⟩ : ∃ q, q = bd 2 := ⟨_, rfl⟩; rw [← hmi] at hGeo; have hGeo : Geo lo mi hi g7 g8 g14 (S 0) (S 1) := by rw [hhi]; exact hGeo
      have HGeo := Lib.hid hGeo; have HL0 := Lib.hid hL0; clear hmi hhi; generalize S 0 = S0 at HGeo HL0 ⊢; generalize S 1 = S1 at HGeo HL0 ⊢; clear hGeo hL0 hA14 hGb hg14 HF HB0 h7 h8 hbk hG HNew hlt hki hk; have hwlo : w.heap.size ≤ lo := by omega
      go_upto_block 2 with fail
      go_cut [15] from 15 to 122 (fun _ wx => L2E lo mi hi g7 g8 g14 S0 S1 w wx)
      case first =>
        go_wp2_with fail
        go_simp
        go_loopw [15] (fun v wr => L2S lo mi hi g7 g8 g14 S0 S1 n1 w v wr) (fun v _ => 10 - (intOf v).toNat)
        case atStart => exact ⟨0, [], [], _, by omega, by omega, rfl, PlainS.nil, PlainS.nil, WantP.nil _, HL0.out⟩
        case round =>
          obtain ⟨m, R0, R1, W, hm10, hmn, rfl, hp0, hp1, hW, hL⟩ := hrel.ex; clear hrel HL0; have HP0 := Lib.hid hp0; have HP1 := Lib.hid hp1; have HW := Lib.hid hW; have HL := Lib.hid hL; clear hp0 hp1 hW hL; have hE : Hid (L2E lo mi hi g7 g8 g14 S0 S1 w wr) := Lib.hid ⟨m, R0, R1, W, hm10, HP0.out, HP1.out, HW.out, HL.out⟩
          by_cases hlt1 : m < n1
          · have hc1 : (m : Int) < (n1 : Int) := by omega
            by_cases hlt2 : m < 10
            · have hc2 : (m : Int) < 10 := by omega
              obtain ⟨z, hz⟩ : ∃ z, zs[m]? = some z := ⟨_, List.getElem?_eq_getElem (by rw [HZl.out]; exact hlt1)⟩; obtain ⟨ad, rfl, hcz⟩ := HZ.out.2 m (.int .i64 z) (by rw [List.getElem?_map, hz]; rfl); have kz : wr.cell? (ad.add m) = some (.int .i64 z) := Gr.cell HL.out.gr hcz; obtain ⟨n, hn9, hv⟩ := wrap_u9 z; have HK := Lib.hid (key_val hn9); have HKl := Lib.hid (keyK_leaf hn9); have hkl := (keyK n).2; have HIk := Lib.hid (show (Tryz.prog.info? 36).map (·.size) = some (u8s (keyK n).1).length by rw [u8s_length, hkl]; kernel_rfl); have hl20 : (sibC (sibI m)).length = 20 := rfl; have HCz : Hid (Value.agg #[.int .i64 1, .int .i64 ((m : Int) + 1), .int .i64 0, .int .i64 0, .int .i64 0, .int .i64 0, .int .i64 0, .int .i64 0, .int .i64 0, .int .i64 0, .int .i64 0, .int .i64 0, .int .i64 0, .int .i64 0, .int .i64 0, .int .i64 0, .int .i64 0, .int .i64 0, .slice none 0 0, .slice none 0 0] = .agg (sibC (sibI m)).toArray) := Lib.hid rfl; clear hz hcz
              go_upto_region 17 with (refine wpList_new (w := wr) (t := 36) rfl _ _ _ rfl wr.heap.size (u8s (keyK n).1) rfl HK.out rfl (by rw [u8s_length, hkl]; kernel_rfl) HIk.out (u8s_oneCell _) ?_; intro w2 hA17 hG2)
              go_upto_region 18 with (refine wpList_valW rfl (.slice (some ⟨w2.heap.size, 0, none⟩) 1 1) _ (run_buildSib (x := .tmp 86) hl20 HCz.out) ?_)
              have hA18 : Arr (w2.alloc (.cells (sibC (sibI m)).toArray 45)) w2.heap.size 45 (sibC (sibI m)) := Arr.newAt rfl rfl; have hG3 : Gr w2 (w2.alloc (.cells (sibC (sibI m)).toArray 45)) := Gr.alloc _ _; generalize w2.alloc (.cells (sibC (sibI m)).toArray 45) = w3 at hA18 hG3 ⊢; obtain ⟨g17, hg17⟩ : ∃ g, g = wr.heap.size := ⟨_, rfl⟩; obtain ⟨g18, hg18⟩ : ∃ g, g = w2.heap.size := ⟨_, rfl⟩; rw [← hg17] at hA17; rw [← hg18] at hA18; simp only [← hg17, ← hg18]; have hB17 : wr.heap.size ≤ g17 := Nat.le_of_eq hg17.symm; have hB18 : wr.heap.size ≤ g18 := by have := hG2.size; omega
              have hG23 := hG2.trans hG3; have hA173 := hA17.gr hG3; have HL3 := Lib.hid (HL.out.grow hG23); have c70 := HL3.out.a7.cell (i := 0) (v := .pointer (some ⟨S0.sh, 0, none⟩)) rfl; have HM0 := Lib.hid (law_mrg0 (wr := wr) (c := 1) HL3.out HP0.out hlt2 HGeo.out hwlo HL.out.a14.lt (keyK n) hA18); clear hg17 hg18 hA17 hG2 hG3 hG23 kz HK HCz hl20
              go_upto_region 21 with first
                | (refine wpList_loadW rfl 36 (.tmp 17) rfl rfl hA173 ⟨_, _, Tryz.underlying36⟩ HIk.out ?_)
                | (go_at_call 6; refine HM0.out.mono ?_; rintro e w4 ⟨⟨L0', rfl, hp0', hk0, hL4, hkp⟩⟩; have HP04 := Lib.hid hp0'; have HKV := Lib.hid hk0; have HL4 := Lib.hid hL4; have HK4 := Lib.hid hkp; clear hp0' hk0 hL4 hkp)
              clear HL3 HM0 c70
              by_cases hy1 : m < n2
              · have hc3 : (m : Int) < (n2 : Int) := by omega
                obtain ⟨y, hy⟩ : ∃ y, ys[m]? = some y := ⟨_, List.getElem?_eq_getElem (by rw [HYl.out]; exact hy1)⟩; obtain ⟨ad2, rfl, hcy⟩ := HY.out.2 m (.int .i64 y) (by rw [List.getElem?_map, hy]; rfl); have ky : w4.cell? (ad2.add m) = some (.int .i64 y) := Gr.cell HL4.out.gr hcy; clear hy hcy
                by_cases hev : y.tmod 2 = 0
                · have hevb : (y.tmod 2 == 0) = true := by rw [hev]; rfl
                  have hA174 := HK4.out _ _ _ hB17 hA173; obtain ⟨p, hp⟩ : ∃ p, p = n * 28 := ⟨_, rfl⟩; have hp256 : p < 256 := by omega
                  have c17 : w4.cell? ⟨g17, 0, none⟩ = some (.int .u8 (p : Int)) := by
                    refine hA174.cell ?_; show some (Value.int .u8 ((UInt8.ofNat (n * 28)).toNat : Int)) = _; rw [← hp, UInt8.toNat_ofNat', Nat.mod_eq_of_lt hp256]
                  have h144 := HL4.out.a14; have hpl : p < (wantC W).length := by rw [wantC_len]; exact hp256
                  have HPl : Hid (p = leafOf (keyK n)) := Lib.hid (hp.trans HKl.out.symm); have HOne := Lib.hid (HW.out.one (keyK n) L0'); rw [← HPl.out] at HOne; clear hev hA174 hp hA173 hA18
                  go_wp2_with (refine wpList_setV h144 rfl 4 (.tmp 112) (.const (.bool true)) rfl (by kernel_rfl) p (.bool true) rfl rfl hpl (.inr (.inr (.inl ⟨_, rfl⟩))) ?_; intro w5 hA145 hK5; have HR : Hid (L2S lo mi hi g7 g8 g14 S0 S1 n1 w (.int .i64 ((m + 1 : Nat) : Int)) w5) := Lib.hid ⟨m + 1, _, _, _, by omega, by omega, rfl, HP04.out, HP1.out.later, HOne.out, HL4.out.put HGeo.out hwlo hA145 hK5⟩; clear hA145 hK5)
                  exact ⟨by rw [show (m : Int) + 1 = ((m + 1 : Nat) : Int) by omega]; exact HR.out, by simp [intOf]; omega⟩
                · have hevb : (y.tmod 2 == 0) = false := beq_false_of_ne hev; clear hev; have hA174 := HK4.out _ _ _ hB17 hA173; have hA184 := HK4.out _ _ _ hB18 hA18; have c71 := HL4.out.a7.cell (i := 1) (v := .pointer (some ⟨S1.sh, 0, none⟩)) rfl; have HM1 := Lib.hid (law_mrg1 (wr := wr) (c := 1) HL4.out HP1.out hlt2 HGeo.out hwlo (keyK n) hA184); clear hA184 hA173 hA18
                  go_wp2_with first
                    | (refine wpList_loadW rfl 36 (.tmp 17) rfl rfl hA174 ⟨_, _, Tryz.underlying36⟩ HIk.out ?_)
                    | (go_at_call 6; refine HM1.out.mono ?_; rintro e w5 ⟨⟨L1', rfl, hp1', hk1, hL5⟩⟩; have HR : Hid (L2S lo mi hi g7 g8 g14 S0 S1 n1 w (.int .i64 ((m + 1 : Nat) : Int)) w5) := Lib.hid ⟨m + 1, _, _, _, by omega, by omega, rfl, HP04.out, hp1', HW.out.both HKV.out hk1, hL5⟩; clear hp1' hk1 hL5)
                  exact ⟨by rw [show (m : Int) + 1 = ((m + 1 : Nat) : Int) by omega]; exact HR.out, by simp [intOf]; omega⟩
              · have hc3 : ¬ (m : Int) < (n2 : Int) := by omega
                have hA174 := HK4.out _ _ _ hB17 hA173; have hA184 := HK4.out _ _ _ hB18 hA18; have c71 := HL4.out.a7.cell (i := 1) (v := .pointer (some ⟨S1.sh, 0, none⟩)) rfl; have HM1 := Lib.hid (law_mrg1 (wr := wr) (c := 1) HL4.out HP1.out hlt2 HGeo.out hwlo (keyK n) hA184); clear hA184 hA173 hA18
                go_wp2_with first
                  | (refine wpList_loadW rfl 36 (.tmp 17) rfl rfl hA174 ⟨_, _, Tryz.underlying36⟩ HIk.out ?_)
                  | (go_at_call 6; refine HM1.out.mono ?_; rintro e w5 ⟨⟨L1', rfl, hp1', hk1, hL5⟩⟩; have HR : Hid (L2S lo mi hi g7 g8 g14 S0 S1 n1 w (.int .i64 ((m + 1 : Nat) : Int)) w5) := Lib.hid ⟨m + 1, _, _, _, by omega, by omega, rfl, HP04.out, hp1', HW.out.both HKV.out hk1, hL5⟩; clear hp1' hk1 hL5)
                exact ⟨by rw [show (m : Int) + 1 = ((m + 1 : Nat) : Int) by omega]; exact HR.out, by simp [intOf]; omega⟩
            · have hc2 : ¬ (m : Int) < 10 := by omega
              go_wp2_with fail
              go_meet
              exact hE.out
          · have hc1 : ¬ (m : Int) < (n1 : Int) := by omega
            go_wp2_with fail
            go_meet
            exact hE.out
      case rest =>
        obtain ⟨m, R0, R1, W, hm10, hp0, hp1, hW, hL⟩ := hcut.ex; have HP0 := Lib.hid hp0; have HP1 := Lib.hid hp1; have HW := Lib.hid hW; have HL := Lib.hid hL; clear hcut hp0 hp1 hW hL HL0
        go_upto_region 26 with fail
        obtain ⟨L1, Al, cl, hlog, hal⟩ := HL.out.sh1.log; have HLog := Lib.hid hlog; have c81 := HL.out.a8.cell (i := 1) (v := .pointer (some ⟨S1.D.d, 0, none⟩)) rfl; obtain ⟨q, hq⟩ : ∃ q, q = min n3 30 := ⟨_, rfl⟩; have hqm : min (n3 : Int) 30 = (q : Int) := by omega
        have HCut : Hid (∀ w1, (Instr.sliceAt 23 (.slice A3 n3 c3) none (some (.int .i64 (min (n3 : Int) 30))) none).run Tryz.prog w1 = .ok (.slice A3 q c3) w1) := Lib.hid (fun w1 => by
          rw [hqm]; exact run_cut_h (P := Tryz.prog) Tryz.underlying23 (by kernel_rfl) (A := A3) (n := n3) (c := c3) (hi := q) (h := (q : Int)) rfl (by omega) w1)
        have HCr := Lib.hid (fun w1 (g : Gr wc w1) => dcrash_any (hlog.disk.gr g) (.slice A3 q c3)); clear hq hqm hlog hal; refine wp_region_cut (by kernel_rfl) [IsV (.pointer (some ⟨g8, 1, none⟩)), IsV (.pointer (some ⟨S1.D.d, 0, none⟩)), IsV (.slice A3 n3 c3), IsV (.slice A3 n3 c3), IsV (.int .i64 ((n3 : Nat) : Int)), IsV (.int .i64 (min (n3 : Int) 30)), IsV (.slice A3 q c3)] 7 (by decide) (by kernel_rfl) (by kernel_rfl) (by kernel_rfl) ?_ ?_ ?_
        · intro φ hφ v w1 w2 h hg; simp only [List.mem_cons, List.not_mem_nil, or_false] at hφ; rcases hφ with rfl | rfl | rfl | rfl | rfl | rfl | rfl
          all_goals first | exact h | exact RdV.gr h hg
        · refine ⟨?_, ?_, ?_, ?_, ?_, ?_, ?_, trivial⟩
          · intro a1 w1 hG hF; have e8 : a1.eval (.tmp 8) = .pointer (some ⟨g8, 0, none⟩) := hF.ol 8 (by kernel_rfl); exact s_is rfl (wants0 rfl) _ rfl (run_idx (i := 1) Tryz.underlying27 (by kernel_rfl) e8 rfl (by omega))
          · intro a1 w1 hG hF; obtain ⟨_, e123, rfl⟩ := hF.dp 0 123 (by kernel_rfl); exact s_is rfl (wants0 rfl) _ rfl (run_load1B (.inr (.inr (.inr (.inr ⟨_, Tryz.underlying26⟩)))) e123 (Gr.cell ((Gr.drew wc).trans hG) c81))
          · intro a1 w1 hG hF; exact s_old rfl (wants0 rfl) (.tmp 2) (.inr rfl) (.slice A3 n3 c3) (hF.ol 2 (by kernel_rfl)) rfl
          · intro a1 w1 hG hF; exact s_old rfl (wants0 rfl) (.tmp 2) (.inr rfl) (.slice A3 n3 c3) (hF.ol 2 (by kernel_rfl)) rfl
          · intro a1 w1 hG hF; obtain ⟨_, e126, rfl⟩ := hF.dp 3 126 (by kernel_rfl); exact s_is rfl (wants0 rfl) _ rfl (run_len_slice Tryz.underlying23 e126)
          · intro a1 w1 hG hF; obtain ⟨_, e127, rfl⟩ := hF.dp 4 127 (by kernel_rfl); exact s_is rfl (wants0 rfl) _ rfl (by simp only [execOp, resolve, invoke, List.map_toArray, List.map_cons, List.map_nil, e127]; go_simp)
          · intro a1 w1 hG hF; obtain ⟨_, e125, rfl⟩ := hF.dp 2 125 (by kernel_rfl); obtain ⟨_, e128, rfl⟩ := hF.dp 5 128 (by kernel_rfl); exact s_is rfl (wants0 rfl) _ rfl (by simp only [execOp, e125, e128, Option.map, Sem.run_bind, HCut.out, Result.andThen_ok, Sem.run_pure])
        · intro vs w9 hG hf; have z124 : vs 1 = .pointer (some ⟨S1.D.d, 0, none⟩) := hf.2.1; have z129 : vs 6 = .slice A3 q c3 := hf.2.2.2.2.2.2.1; clear hf; simp only [List.take_succ_cons, List.take_zero, List.drop_succ_cons, List.drop_zero, putAll, Nat.zero_add, Nat.reduceAdd, z124, z129]; have hGc : Gr wc w9 := (Gr.drew wc).trans hG; have HGc := Lib.hid hGc; clear c81 hG; unfold wpList; go_simp; try refine .inl ?_
          refine (HCr.out _ hGc).mono ?_; rintro e w5 ⟨D', rfl, hd, hgf, hDN, hgn, hdI, hI5⟩; have hGw9 : Gr w w9 := HL.out.gr.trans HGc.out; have hXd : S1.D.d < w9.heap.size := Nat.lt_of_lt_of_le HLog.out.disk.arr.lt HGc.out.size; have hr1 := HGeo.out.r1 S1.D.d (.inl (.inl rfl)); have hlm : lo < mi := by have := HGeo.out.r0 S0.sh (.inr rfl); omega
          have HSh0 : Hid (ShelfIs (Both S0 S1 g7 g14) w5 S0.D S0.sh S0.lg S0.mp (1 + R0.length) R0.length R0) := Lib.hid ((HL.out.sh0.gr HGc.out).ins hI5 (fun i e => .inr (.inl (by rw [e]; exact .inl rfl))) fun i q e => by
            have h1 := HGeo.out.r0 i (.inl q); omega)
          have h75 := hI5.arr (HL.out.a7.gr HGc.out) (by have := HGeo.out.h7; omega); have h85 := hI5.arr (HL.out.a8.gr HGc.out) (by have := HGeo.out.h8; omega); have h145 := hI5.arr (HL.out.a14.gr HGc.out) (by have := HGeo.out.h14; omega); have hGw5 : Gr w w5 := InS.gr_after hGw9 hI5 fun i hi e => by omega
          have hl7 : g7 < w5.heap.size := h75.lt; have hgn5 : D'.gn < w5.heap.size := by obtain ⟨X, hX⟩ := hdI.now; exact hX.lt
          have hgf5 : D'.gf < w5.heap.size := by obtain ⟨X, hX⟩ := hdI.fast; exact hX.lt
          have hR1 := HP1.out.len
          have HOp := Lib.hid (sopen_any (t := 1 + R1.length) (m := R1.length) (R := R1) (X := fun i => i = D'.d ∨ i = D'.gn ∨ i = D'.gf ∨ i = g7) hdI (by rw [hDN, HGeo.out.n1]; omega) (by rw [hDN]; exact HLog.out.heads) (by rw [hDN]; exact HLog.out.area) (by rw [hDN]; exact HLog.out.fit) (by omega) rfl (by omega) HL.out.sh1.recs
            (fun i e => by
              rcases e with rfl | rfl | rfl | rfl
              · exact hdI.arr.lt
              · exact hgn5
              · exact hgf5
              · exact hl7) ⟨.inl rfl, .inr (.inl rfl), .inr (.inr (.inl rfl))⟩)
          rw [hd] at HOp; have c81 := h85.cell (i := 1) (v := .pointer (some ⟨S1.D.d, 0, none⟩)) rfl; have HG7 : Hid (∀ i, ShB D' (0 : Nat) 0 i → True) := Lib.hid (fun _ _ => trivial)
          have hd7 : D'.d ≠ g7 ∧ D'.gn ≠ g7 ∧ D'.gf ≠ g7 := by
            have h1 := HGeo.out.h7; have h2 := HGeo.out.r1 S1.D.gf (.inl (.inr (.inr (.inl rfl)))); have h3 := HGeo.out.r0 S0.sh (.inr rfl); refine ⟨by omega, ?_, by omega⟩; have h4 := (HL.out.a7.gr HGc.out).lt; omega
          have HD7 := Lib.hid hd7; clear hd hgf hDN hgn hdI hI5 hGw9 hXd hr1 hgn5 hgf5 hR1 hd7 HCr HCut HG7; go_simp
          go_upto_region 28 with (go_at_call 8; refine HOp.out.mono ?_; rintro e w6 ⟨sh, lg, mp, rfl, o1, o2, o3, hSh, hG6⟩)
          have hGw6 := hGw5.trans hG6; have HSt := Lib.hid (stands_any (HGw.out.gr hGw6)); have HSh1 := Lib.hid hSh; have h76 := h75.gr hG6; have h146 := h145.gr hG6; have HSh06 := Lib.hid (HSh0.out.gr hG6); clear hSh c81 HOp h75 h85 h145 HSh0; have HR0l := Lib.hid HP0.out.len; have HR1l := Lib.hid HP1.out.len
          go_upto_region 30 with (go_at_call 9; refine HSt.out.mono ?_; rintro e w7 ⟨rfl, hG7⟩)
          have hGw7 := hGw6.trans hG7; have h77 := h76.gr hG7; have h147 := h146.gr hG7; have HSh07 := Lib.hid (HSh06.out.gr hG7); have HSh17 := Lib.hid (HSh1.out.gr hG7); clear hG7 hG6 hGw6 hGw5 h76 h146 HSh06 HSh1 HSt
          go_upto_region 31 with (refine wpList_setV h77 rfl 24 (.tmp 144) (.tmp 143) rfl (by kernel_rfl) 1 (.pointer (some ⟨sh, 0, none⟩)) rfl rfl (by simp) (.inr (.inr (.inr (.inl ⟨_, rfl⟩)))) ?_; intro w8 h78' hK8)
          have hI8 := InS.of_ink (S := fun i => i = g7) hK8 rfl; have h148 := hI8.arr h147 (by have := HGeo.out.h14; have := HGeo.out.h7; have := HGeo.out.r1 S1.sh (.inr rfl); have := HGeo.out.r0 S0.sh (.inr rfl); omega); have hGw8 : Gr w w8 := InS.gr_after hGw7 hI8 fun i hi e => by omega
          obtain ⟨M0, hM0⟩ := (HSh07.out.ins hI8 (fun i e => .inr (.inr (.inl e))) fun i q e => by
            have h1 := HGeo.out.r0 i (.inl q); have h2 := HGeo.out.h7; omega).read
          obtain ⟨M1, hM1⟩ := (HSh17.out.ins hI8 (fun i e => .inl (.inr (.inr (.inr e)))) fun i q e => by
            have h2 := HD7.out; rcases q with q | q | q | q | q
            · exact h2.1 (by omega)
            · exact h2.2.1 (by omega)
            · exact h2.2.2 (by omega)
            · omega
            · omega).read
          have HT0 := Lib.hid (fun w1 (g : Gr w8 w1) => tree_any (hM0.gr g) (by have := HR0l.out; omega) (HGw.out.gr (hGw8.trans g))); have HT1 := Lib.hid (fun w1 (g : Gr w8 w1) => tree_any (hM1.gr g) (by have := HR1l.out; omega) (HGw.out.gr (hGw8.trans g))); have c70 := h78'.cell (i := 0) (v := .pointer (some ⟨S0.sh, 0, none⟩)) rfl; have c71 := h78'.cell (i := 1) (v := .pointer (some ⟨sh, 0, none⟩)) rfl; clear hI8 hK8 hM0 hM1 HSh07 HSh17 h77 h147 hGw7 h78' HR0l HR1l; refine wp_region_ssaL (by kernel_rfl) [IsV (.pointer (some ⟨g7, 0, none⟩)), IsV (.pointer (some ⟨S0.sh, 0, none⟩)), TreeV (lastV R0), IsV (.pointer (some ⟨g7, 1, none⟩)), IsV (.pointer (some ⟨sh, 0, none⟩)), TreeV (lastV R1), TreeV (lastV R0), TreeV (lastV R1)] (by kernel_rfl) ?_ ?_ ?_
          · intro φ hφ v w1 w2 h hg; simp only [List.mem_cons, List.not_mem_nil, or_false] at hφ; rcases hφ with rfl | rfl | rfl | rfl | rfl | rfl | rfl | rfl
            all_goals first | exact h | exact RdV.gr h hg | exact TreeV.gr h hg
          · refine ⟨?_, ?_, ?_, ?_, ?_, ?_, ?_, ?_, trivial⟩
            · intro a1 w1 hG hF; have e7 : a1.eval (.tmp 7) = .pointer (some ⟨g7, 0, none⟩) := hF.ol 7 (by kernel_rfl); exact s_is rfl (wants0 rfl) _ rfl (run_idx (i := 0) Tryz.underlying25 (by kernel_rfl) e7 rfl (by omega))
            · intro a1 w1 hG hF; obtain ⟨_, e145, rfl⟩ := hF.dp 0 145 (by kernel_rfl); exact s_is rfl (wants0 rfl) _ rfl (run_load1B (.inr (.inr (.inr (.inr ⟨_, Tryz.underlying24⟩)))) e145 (Gr.cell ((Gr.drew w8).trans hG) c70))
            · intro a1 w1 hG hF; obtain ⟨_, e146, rfl⟩ := hF.dp 1 146 (by kernel_rfl); exact s_call rfl (wants0 rfl) _ rfl _ _ (by simp only [execOp, resolve, invoke, List.map_toArray, List.map_cons, List.map_nil, e146]; go_simp) ((HT0.out w1 ((Gr.drew w8).trans hG)).mono fun e w2 ⟨g, b, n, T, he, h1, h2, _, _, hb⟩ => ⟨_, he, ⟨g, b, n, T, rfl, h1, h2⟩, hb⟩)
            · intro a1 w1 hG hF; have e7 : a1.eval (.tmp 7) = .pointer (some ⟨g7, 0, none⟩) := hF.ol 7 (by kernel_rfl); exact s_is rfl (wants0 rfl) _ rfl (run_idx (i := 1) Tryz.underlying25 (by kernel_rfl) e7 rfl (by omega))
            · intro a1 w1 hG hF; obtain ⟨_, e148, rfl⟩ := hF.dp 3 148 (by kernel_rfl); exact s_is rfl (wants0 rfl) _ rfl (run_load1B (.inr (.inr (.inr (.inr ⟨_, Tryz.underlying24⟩)))) e148 (Gr.cell ((Gr.drew w8).trans hG) c71))
            · intro a1 w1 hG hF; obtain ⟨_, e149, rfl⟩ := hF.dp 4 149 (by kernel_rfl); exact s_call rfl (wants0 rfl) _ rfl _ _ (by simp only [execOp, resolve, invoke, List.map_toArray, List.map_cons, List.map_nil, e149]; go_simp) ((HT1.out w1 ((Gr.drew w8).trans hG)).mono fun e w2 ⟨g, b, n, T, he, h1, h2, _, _, hb⟩ => ⟨_, he, ⟨g, b, n, T, rfl, h1, h2⟩, hb⟩)
            · intro a1 w1 hG hF; exact s_same rfl (wants0 rfl) (.tmp 147) (.inl rfl) (hF.dp 2 147 (by kernel_rfl))
            · intro a1 w1 hG hF; exact s_same rfl (wants0 rfl) (.tmp 150) (.inl rfl) (hF.dp 5 150 (by kernel_rfl))
          · intro vs w9 hG hf; have y25 : (TreeV (lastV R0)) (vs 6) w9 := hf.2.2.2.2.2.2.1; have y26 : (TreeV (lastV R1)) (vs 7) w9 := hf.2.2.2.2.2.2.2.1; clear hf; simp only [putAll, Nat.zero_add, Nat.reduceAdd]; obtain ⟨ga, ba, na, Ta, e25, hTa, hOa⟩ := y25; obtain ⟨gb', bb, nb, Tb, e26, hTb, hOb⟩ := y26; simp only [e25, e26]; have hG89 : Gr w8 w9 := (Gr.drew w8).trans hG; have HTa := Lib.hid hTa; have HTb := Lib.hid hTb; have HOa := Lib.hid hOa; have HOb := Lib.hid hOb; have h149 := h148.gr hG89; have hGw9' := hGw8.trans hG89; clear e25 e26 hTa hTb hOa hOb hG hG89 h148 hGw8 HT0 HT1 c70 c71; obtain ⟨G, hGd⟩ : ∃ G, G = levelL Ta Tb 5 := ⟨_, rfl⟩; obtain ⟨T, hTd⟩ : ∃ T, T = toldL Ta Tb 5 := ⟨_, rfl⟩; have HLv : Hid (Calls Tryz.prog 11 #[.pointer (some ⟨ga, 0, none⟩), .pointer (some ⟨gb', 0, none⟩)] w9 fun e w' => ∃ (A : Option Addr) (m c : Nat), e = .returned (.tuple #[.slice A m c, .int .i64 (T : Int), .int .i64 0]) ∧ m = G.length ∧ w'.ownsRow w9.heap.size 3 1 (.slice A m c) m (intV G) ∧ Gr w9 w') := Lib.hid ((leaves_any HTa.out HTb.out).mono fun e w' ⟨A, m, c, h1, h2, h3, h4⟩ => ⟨A, m, c, by rw [hTd]; exact h1, by rw [hGd]; exact h2, by rw [hGd]; exact h3, h4⟩); have HUp : Hid (G.Pairwise (· < ·)) := Lib.hid (by rw [hGd]; exact levelL_up Ta Tb 5); have HWant : Hid (∀ a, a ∈ G → W a = true) := Lib.hid (fun a ha => want_of HW.out HOa.out HOb.out (by rw [← hGd]; exact ha)); have H256 : Hid (∀ a ∈ G, a < 256) := Lib.hid (fun a ha => (leaves_unlike (R := Ta) (S := Tb) (by rw [← hGd]; exact ha)).1); have HMet : Hid (∀ a, a < 256 → a ∉ G → ∀ w1, Gr w9 w1 → Calls Tryz.prog 12 #[.pointer (some ⟨ga, 0, none⟩), .pointer (some ⟨gb', 0, none⟩), .int .i64 (a : Int)] w1 fun e w' => e = .returned (.bool true) ∧ Gr w1 w') := Lib.hid (fun a ha hn w1 g => met_any (HTa.out.gr g) (HTb.out.gr g) ha (met_of ha (by rw [← hGd]; exact hn))); have HGl : Hid (G.length ≤ 1024) := Lib.hid (by rw [hGd]; exact Nat.le_trans (levelL_length Ta Tb 5) (by decide)); clear hGd hTd; go_simp
            go_upto_region 35 with (go_at_call 11; refine HLv.out.mono ?_; rintro e w10 ⟨A, q9, c9, rfl, hqG, ho10, hG10⟩; have HqG := Lib.hid hqG; clear hqG)
            have HRow := Lib.hid (Rd.of_own ho10); have hA := h149.gr hG10; have hGw10 := hGw9'.trans hG10; have HG10 := Lib.hid hG10; clear ho10 hG10 h149 hGw9' HLv
            go_upto_region 37 with fail
            go_simp
            go_loopw [30, 31] (fun v30 v31 wr => L3R G w10 v30 v31 wr) (fun _ v _ => 256 - (intOf v).toNat)
            case atStart => exact ⟨0, by omega, rfl, by rw [cntL_zero]; rfl, Gr.refl _⟩
            case round =>
              obtain ⟨a, ha, rfl, rfl, hG⟩ := L3R.out hrel; clear hrel; have HG := Lib.hid hG; obtain ⟨n, hn⟩ : ∃ n, n = cntL G a := ⟨_, rfl⟩; have hnq : n ≤ q9 := by rw [hn, HqG.out]; exact cntL_le G a
              have hq9 : q9 ≤ 1024 := by rw [HqG.out]; exact HGl.out
              have HN := Lib.hid hn; rw [← hn]; clear hn hG
              by_cases hlt : a < 256
              · have hai : (a : Int) < 256 := by omega
                have ca := (hA.gr HG.out).cell (wantC_at W hlt); cases hWa : W a with
                | false =>
                  have hna : a ∉ G := fun h => by
                    have := HWant.out a h; rw [hWa] at this; cases this
                  rw [hWa] at ca; have HSk : Hid (n = cntL G (a + 1)) := Lib.hid (by rw [cntL_skip hna]; exact HN.out); clear hWa hna; go_wp2_with fail
                  exact ⟨⟨a + 1, by omega, by go_num, by rw [← HSk.out], HG.out⟩, by simp [intOf]; omega⟩
                | true =>
                  rw [hWa] at ca; clear hWa
                  by_cases hm2 : a ∈ G
                  · have hat := (cntL_at HUp.out).1 hm2; rw [← HN.out] at hat; have hnl : n < q9 := by rw [HqG.out]; exact (List.getElem?_eq_some_iff.1 hat).1
                    obtain ⟨ad, rfl, hcn⟩ := HRow.out.2 n (.int .i64 (a : Int)) (by unfold intV; rw [List.getElem?_map, hat]; rfl); have kn : wr.cell? (ad.add n) = some (.int .i64 (a : Int)) := Gr.cell HG.out hcn; have HHit : Hid (((n : Int) + 1) = ((cntL G (a + 1) : Nat) : Int)) := Lib.hid (by rw [cntL_hit HUp.out hm2, HN.out]; rfl); have hge : ¬ (q9 : Int) ≤ (n : Int) := by omega
                    have hnl2 : (n : Int) < (q9 : Int) := by omega
                    clear hat hcn hm2; go_wp2_with fail
                    exact ⟨⟨a + 1, by omega, by go_num, by rw [← HHit.out], HG.out⟩, by simp [intOf]; omega⟩
                  · have HM := Lib.hid (HMet.out a hlt hm2 wr (HG10.out.trans HG.out))
                    by_cases hnl : n < q9
                    · obtain ⟨b, hb⟩ : ∃ b, G[n]? = some b := ⟨_, List.getElem?_eq_getElem (by rw [← HqG.out]; exact hnl)⟩; have hne : b ≠ a := fun e => hm2 ((cntL_at HUp.out).2 (by rw [← HN.out, hb, e])); obtain ⟨ad, rfl, hcn⟩ := HRow.out.2 n (.int .i64 (b : Int)) (by unfold intV; rw [List.getElem?_map, hb]; rfl); have kn : wr.cell? (ad.add n) = some (.int .i64 (b : Int)) := Gr.cell HG.out hcn; have hge : ¬ (q9 : Int) ≤ (n : Int) := by omega
                      have hnl2 : (n : Int) < (q9 : Int) := by omega
                      have hneb : ((b : Int) == (a : Int)) = false := beq_false_of_ne fun e => hne (Int.ofNat.inj e); have hnei : ¬ (b : Int) = (a : Int) := fun e => hne (Int.ofNat.inj e); clear hb hcn hm2 hne
                      go_wp2_with (go_at_call 12; refine HM.out.mono ?_; rintro e w11 ⟨rfl, hG11⟩)
                      go_ret
                      exact ⟨rfl, (hGw10.trans HG.out).trans hG11⟩
                    · have hge : (q9 : Int) ≤ (n : Int) := by omega
                      clear hm2
                      go_wp2_with (go_at_call 12; refine HM.out.mono ?_; rintro e w11 ⟨rfl, hG11⟩)
                      go_ret
                      exact ⟨rfl, (hGw10.trans HG.out).trans hG11⟩
              · obtain rfl : a = 256 := by omega
                have hai : ¬ ((256 : Nat) : Int) < 256 := by omega
                have hnq2 : n = q9 := by rw [HN.out, HqG.out]; exact cntL_end H256.out
                subst hnq2; go_wp2_with fail
                go_ret
                exact ⟨rfl, hGw10.trans HG.out⟩
end Go.Proofs.YtjpphldojbfpfaaGreatDoor
namespace Go.Proofs.YtjpphldojbfpfaaGreatDoor
open Go.ChangeShapes Go.WideShapes Go.ChangeAt Go.RowKit
section
variable {H : Type} {enc : TypeId × Value → H} {P : Program} {w : World} {base : Nat} {held : Bool}
theorem open_nums {r : Reach} {b0 : Nat} {t e : TypeId} {k : IntKind} {v : Value} {d : DataW H} {p : List MemPlace} (ht : P.underlying t = some (.slice e)) (he : P.underlying e = some (.int k)) (hc : P.cellsOf e = 1)
    (hv : Value.okWide P w r b0 t v) (h : DataW.Trod enc P w base (fun _ => true) held t v d p) :
    ∃ (A : Option Addr) (n c : Nat) (zs : List Int), v = .slice A n c ∧ n ≤ c ∧ c ≤ maxLen ∧ Rd w A n (zs.map (Value.int k)) ∧ ∀ z ∈ zs, (Lit.int k z).wf = true := by
  obtain ⟨A, n, c, rfl⟩ := okWide_slice ht hv; obtain ⟨fuel, hf⟩ := h; rcases open_ints ht he hc hf with ⟨hcs, _⟩ | ⟨x, l, c', zs, hcs, _, hl, hm, hz, _, hcell, hwz⟩
  · simp [Value.cells] at hcs; obtain ⟨rfl, rfl, rfl⟩ := hcs; exact ⟨none, 0, 0, [], rfl, Nat.le_refl _, Nat.zero_le _, Rd.nil _ _, by simp⟩
  · simp [Value.cells] at hcs; obtain ⟨rfl, rfl, rfl⟩ := hcs; have hzl : zs.length = c := by simpa using hz
    refine ⟨some x, n, c, zs.take n, rfl, hl, hm, ⟨by simp; omega, fun i u hu => ⟨x, rfl, ?_⟩⟩, fun z hz' => hwz z (List.mem_of_mem_take hz')⟩; rw [List.getElem?_map, Option.map_eq_some_iff] at hu; obtain ⟨z, hz1, rfl⟩ := hu; rw [List.getElem?_take] at hz1; split at hz1
    · rw [hcell i (by omega), List.getD_eq_getElem?_getD, hz1]; rfl
    · cases hz1
end
end Go.Proofs.YtjpphldojbfpfaaGreatDoor
