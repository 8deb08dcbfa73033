/- Texts of one proof, laid as one: part 21. No condition. -/
import Derived.Test.YtjpphldojbfpfaaGreatDoorZf01
import Derived.Test.YtjpphldojbfpfaaGreatDoorZf19
import Derived.Test.YtjpphldojbfpfaaGreatDoorZf20
namespace Go.Proofs.YtjpphldojbfpfaaGreatDoor
open Go.RowKit
def recB (l : List UInt8) : List UInt8 := crcL (outBs l)
theorem outBs_length (l : List UInt8) : (outBs l).length = 4 + l.length := by rw [outBs, List.length_append, hiB_length]
theorem recB_len (l : List UInt8) : (recB l).length = l.length + 8 := by rw [recB, crcL_len, outBs_length]; omega
theorem out_new (w : World) : OutIs (w.alloc (.cells #[.slice none 0 0, .bool false] 178)) w.heap.size w.heap.size none 0 [] :=
  ⟨Arr.newAt rfl rfl, World.ownsRow_nil _ _ _ _, Nat.le_refl _⟩
def outW (w : World) : World := w.alloc (.cells #[.slice none 0 0, .bool false] 178)
set_option maxRecDepth 100000 in
set_option maxHeartbeats 2000000 in
theorem recb_any {A : Option Addr} {n c : Nat} {l : List UInt8} {w : World} (hr : Rd w A n (u8s l)) (hl : l.length = n) (hn : n ≤ 800000) :
    Calls Tryz.prog 78 #[.slice A n c] w fun e w' => RowQ (recB l) w e w' := by
  have hG5 : Gr w (outW w) := Gr.alloc _ _; have HB := Lib.hid (bytes_any (cX := c) (w := outW w) (out_new w) hG5.size (by simp) hl (by omega) (hG5.rd hr) (ApartO.old hr (Nat.le_refl _) hG5.size (Nat.le_refl _) (fun ad e => by cases e))); obtain ⟨g5, hg5⟩ : ∃ g, g = w.heap.size := ⟨_, rfl⟩; have HG5 := Lib.hid hg5; have hL1 : ([] ++ outBs l).length ≤ 900000 := by rw [List.nil_append, outBs_length]; omega
  clear hr hl hg5
  go_enter Tryz.func78, Tryz.ntmps78
  go_wp2_with fail
  refine HB.out.mono ?_; rintro e w3 ⟨A3, c3, rfl, hO3, hK3⟩; have hG3 : Gr w w3 := Below.trans hG5 hK3.below; have HD := Lib.hid (done_any hO3 (by omega)); clear hO3 hK3 HB; go_wp2_with fail
  refine HD.out.mono ?_; rintro e w4 ⟨A4, c4, rfl, ho4, hn4, hG4⟩; have hG14 := hG3.trans hG4; have HC := Lib.hid (close_crc (c := c4) (Rd.of_own ho4) rfl hL1 hn4); clear ho4 hn4 HD hG3 hG4; go_wp2_with fail
  refine HC.out.mono ?_; rintro e w5 ⟨A5, c5, rfl, ho5, hn5, hG5'⟩; have HQ : Hid (RowQ (recB l) w (.returned (.slice A5 (recB l).length c5)) w5) := Lib.hid ⟨A5, c5, rfl, own_downS (by rw [List.nil_append] at ho5; exact ho5) hG14.size, hn5, hG14.trans hG5'⟩; clear ho5 hn5 HC; go_wp2_with fail
  go_ret
  exact HQ.out
set_option maxRecDepth 100000 in
theorem lsize_any {A : Option Addr} {n c : Nat} {l : List UInt8} {w : World} (hr : Rd w A n (u8s l)) (hl : l.length = n) (hn : n ≤ 800000) :
    Calls Tryz.prog 72 #[.slice A n c] w fun e w' => e = .returned (.int .i64 ((n + 8 : Nat) : Int)) ∧ Gr w w' := by
  have HB := Lib.hid (recb_any (c := c) hr hl hn); have HN := Lib.hid (show (recB l).length = n + 8 by rw [recB_len, hl]); clear hr hl
  go_enter Tryz.func72, Tryz.ntmps72
  go_wp2_with fail
  refine HB.out.mono ?_; rintro e w3 ⟨A3, c3, rfl, _, _, hG3⟩; rw [HN.out]; go_wp2_with fail
  go_ret
  exact ⟨by simp, hG3⟩
def areaN (N : Nat) : Nat := (N - 2) / 2
set_option maxRecDepth 100000 in
theorem area_any (N : Nat) (hN : 4 ≤ N ∧ N ≤ 8192) (w : World) : Calls Tryz.prog 76 #[.int .i64 (N : Int)] w fun e w' => e = .returned (.int .i64 (areaN N : Int)) ∧ w = w' := by
  obtain ⟨h1, h2⟩ := hN; obtain ⟨m, hm⟩ : ∃ m, N = m + 2 := ⟨N - 2, by omega⟩; have h3 : ¬ (N : Int) < 4 := by omega
  have h4 : (N : Int) - 2 = (m : Int) := by omega
  have h5 : ((m : Int).tdiv 2) = (areaN N : Int) := by
    rw [Int.tdiv_eq_ediv_of_nonneg (by omega)]; unfold areaN; omega
  have h6 : areaN N ≤ 8192 := by unfold areaN; omega
  have h7 : m ≤ 8192 := by omega
  clear hm h1
  go_enter Tryz.func76, Tryz.ntmps76
  go_wp2_with fail
  go_ret
  exact ⟨rfl, rfl⟩
set_option maxRecDepth 100000 in
theorem room_any (N : Nat) (hN : 4 ≤ N ∧ N ≤ 8192) (w : World) : Calls Tryz.prog 55 #[.int .i64 (N : Int)] w fun e w' => e = .returned (.int .i64 ((areaN N * 64 : Nat) : Int)) ∧ w = w' := by
  have HA := Lib.hid (area_any N hN w); have h6 : areaN N ≤ 8192 := by unfold areaN; omega
  clear hN
  go_enter Tryz.func55, Tryz.ntmps55
  go_wp2_with fail
  refine HA.out.mono ?_; rintro e w3 ⟨rfl, rfl⟩; go_wp2_with fail
  go_ret
  exact ⟨by simp, rfl⟩
def headI (turn area count : Nat) : List UInt8 := ((hiB 1 108 ++ hiB 8 turn) ++ hiB 1 area) ++ hiB 8 count
def headB (turn area count : Nat) : List UInt8 := crcL (headI turn area count)
theorem headI_len (t a c : Nat) : (headI t a c).length = 18 := by simp [headI, hiB_length]
theorem headB_len (t a c : Nat) : (headB t a c).length = 22 := by rw [headB, crcL_len, headI_len]
def headS (t a c : Nat) : Sec := padSec (headB t a c)
theorem pad_cells {l : List UInt8} (hl : l.length ≤ 64) : (encS zeroSec).take 0 ++ u8s l ++ (encS zeroSec).drop (0 + l.length) = encS (padSec l) := by
  rw [List.take_zero, List.nil_append, Nat.zero_add]; unfold encS padSec zeroSec; simp only; rw [u8s_drop, ← u8s_append, List.drop_replicate]; congr 1
  rw [List.take_append, List.take_of_length_le hl, List.take_replicate, Nat.min_eq_left (by omega)]
set_option maxRecDepth 100000 in
set_option maxHeartbeats 8000000 in
theorem head_any (t a c : Nat) (ht : t < 9223372036854775808) (ha : a < 256) (hc : c < 9223372036854775808) (w : World) :
    Calls Tryz.prog 57 #[.int .i64 (t : Int), .int .i64 (a : Int), .int .i64 (c : Int)] w fun e w' => e = .returned (.agg (encS (headS t a c)).toArray) ∧ Gr w w' := by
  have hA6 : Arr (w.alloc (.cells (encS zeroSec).toArray 71)) w.heap.size 71 (encS zeroSec) := Arr.newAt rfl rfl; have hG6 : Gr w (w.alloc (.cells (encS zeroSec).toArray 71)) := Gr.alloc _ _
  go_enter Tryz.func57, Tryz.ntmps57
  go_upto_region 1 with fail
  change Code.wp _ _ _ _ (w.alloc (.cells (encS zeroSec).toArray 71)); generalize w.alloc (.cells (encS zeroSec).toArray 71) = w1 at hA6 hG6 ⊢; obtain ⟨g6, hg6⟩ : ∃ g, g = w.heap.size := ⟨_, rfl⟩; rw [← hg6] at hA6; simp only [← hg6]; have hg6w : w.heap.size ≤ g6 := Nat.le_of_eq hg6.symm; clear hg6; have hG5 : Gr w1 (outW w1) := Gr.alloc _ _; have HS := Lib.hid (small_any (x := 108) (w := outW w1) (out_new w1) hG5.size (by omega) (by simp)); go_wp2_with fail
  refine HS.out.mono ?_; rintro e w2 ⟨A2, c2, rfl, hO2, hK2⟩; have hG2 := Below.trans hG5 hK2.below; have HN := Lib.hid (num_any (x := t) hO2 hG2.size ht (by simp [hiB_length])); clear HS hO2 hK2 hG5; go_wp2_with fail
  refine HN.out.mono ?_; rintro e w3 ⟨A3, c3, rfl, hO3, hK3⟩; have hG3 := Below.trans hG2 hK3.below; have HS := Lib.hid (small_any (x := a) hO3 hG3.size ha (by simp [hiB_length])); clear HN hO3 hK3 hG2; go_wp2_with fail
  refine HS.out.mono ?_; rintro e w4 ⟨A4, c4, rfl, hO4, hK4⟩; have hG4 := Below.trans hG3 hK4.below; have HN := Lib.hid (num_any (x := c) hO4 hG4.size hc (by simp [hiB_length])); clear HS hO4 hK4 hG3; go_wp2_with fail
  refine HN.out.mono ?_; rintro e w5 ⟨A5, c5, rfl, hO5, hK5⟩; have hG5 := Below.trans hG4 hK5.below; rw [List.nil_append] at hO5; change OutIs w5 _ _ _ _ (headI t a c) at hO5; have HD := Lib.hid (done_any hO5 (by rw [headI_len]; omega)); clear HN hO5 hK5 hG4; go_wp2_with fail
  refine HD.out.mono ?_; rintro e w7 ⟨A7, c7, rfl, ho7, hn7, hG7⟩; rw [headI_len] at ho7 ⊢; have hG17 : Gr w1 w7 := Gr.trans hG5 hG7; have hA67 := hA6.gr hG17; have HR7 := Lib.hid (Rd.of_own ho7); have HN7 := Lib.hid hn7; clear HD ho7 hn7 hA6 hG5 hG7
  go_upto_region 3 with fail
  have hA9 : Arr (w7.alloc (.cells (encS zeroSec).toArray 71)) w7.heap.size 71 (encS zeroSec) := Arr.newAt rfl rfl; have hG9 : Gr w7 (w7.alloc (.cells (encS zeroSec).toArray 71)) := Gr.alloc _ _; change Code.wp _ _ _ _ (w7.alloc (.cells (encS zeroSec).toArray 71)); generalize w7.alloc (.cells (encS zeroSec).toArray 71) = w9 at hA9 hG9 ⊢; obtain ⟨g9, hg9⟩ : ∃ g, g = w7.heap.size := ⟨_, rfl⟩; rw [← hg9] at hA9; simp only [← hg9]; have hg9w : w7.heap.size ≤ g9 := Nat.le_of_eq hg9.symm; clear hg9; have hA69 := hA67.gr hG9; have hg69 : g6 ≠ g9 := by have := hA67.lt; omega
  have HC := Lib.hid (fun w1 (h : Gr w9 w1) => close_crc (c := c7) ((hG9.trans h).rd HR7.out) (headI_len t a c) (by omega) HN7.out); clear hA67; refine wp_region_cut (by kernel_rfl) [IsV (.slice (some ⟨g9, 0, none⟩) 64 64), IsV (.slice A7 18 c7), RdV 22 (headB t a c)] 3 (by decide) (by kernel_rfl) (by kernel_rfl) (by kernel_rfl) ?_ ?_ ?_
  · intro φ hφ v w1 w2 h hg; simp only [List.mem_cons, List.not_mem_nil, or_false] at hφ; rcases hφ with rfl | rfl | rfl
    all_goals first | exact h | exact RdV.gr h hg
  · refine ⟨?_, ?_, ?_, trivial⟩
    · intro a1 w1 hG hF; have e9 : a1.eval (.tmp 9) = .pointer (some ⟨g9, 0, none⟩) := hF.ol 9 (by kernel_rfl); exact s_is rfl (wants0 rfl) _ rfl (by simp only [execOp, e9, Option.map, Sem.run_bind, run_cutAll (P := Tryz.prog) Tryz.underlying71 (by kernel_rfl), Result.andThen_ok, Sem.run_pure])
    · intro a1 w1 hG hF; exact s_old rfl (wants0 rfl) (.tmp 7) (.inr rfl) (.slice A7 18 c7) (hF.ol 7 (by kernel_rfl)) rfl
    · intro a1 w1 hG hF; obtain ⟨_, e24, rfl⟩ := hF.dp 1 24 (by kernel_rfl); exact s_call rfl (wants0 rfl) _ rfl _ _ (by simp only [execOp, resolve, invoke, List.map_toArray, List.map_cons, List.map_nil, e24]; go_simp) ((HC.out w1 ((Gr.drew w9).trans hG)).mono fun e w2 ⟨A8, c8, he, ho, _, hb⟩ => ⟨_, he, by obtain ⟨A9, c9, e9, h1, h2⟩ := RdV.own ho; rw [show (crcL (headI t a c)).length = 22 from headB_len t a c] at e9 h1 h2 ⊢; exact ⟨A9, c9, e9, h1, h2⟩, hb⟩)
  · intro vs w1' hG hf; have z23 : vs 0 = .slice (some ⟨g9, 0, none⟩) 64 64 := hf.1; have y25 : (RdV 22 (headB t a c)) (vs 2) w1' := hf.2.2.1; clear hf; simp only [List.take_succ_cons, List.take_zero, List.drop_succ_cons, List.drop_zero, putAll, Nat.zero_add, Nat.reduceAdd, z23]; have hG91 : Gr w9 w1' := (Gr.drew w9).trans hG; obtain ⟨Ac, cc, hy25, _, hoc⟩ := y25; simp only [hy25]; refine wpList_copyA (hA9.gr hG91) rfl (.tmp 23) (.tmp 25) 43 43 rfl 5 Tryz.underlying43 (by kernel_rfl) 0 64 64 (by kernel_rfl) Ac 22 cc (by kernel_rfl) (u8s (headB t a c)) hoc (u8s_oneCell _) (by omega) (by rw [encS_len]; omega) ?_; intro w10 hA10 hB10 hoth; have hA610 := hoth g6 _ _ hg69 (hA69.gr hG91)
    have hA10' : Arr w10 g9 71 (encS (headS t a c)) := by
      have := pad_cells (l := headB t a c) (by rw [headB_len]; omega); rw [headB_len] at this; rw [this] at hA10; exact hA10
    have hGw10 : Below w.heap.size w w10 := by
      have h1 : Gr w w1' := ((hG6.trans hG17).trans hG9).trans hG91; exact Below.trans h1 (hB10.mono (by have := (hG6.trans hG17).size; omega))
    clear hA10 hB10 hoth hG91 hG hA9 hA69 HC hy25; unfold wpList; go_simp; have hr9 := Arr.range hA10'
    go_wp2_with first
      | (refine wpList_load_mid rfl _ _ rfl g9 0 rfl (encS (headS t a c)) _ hr9 Tryz.underlying71 rfl (infoSec _) ?_)
      | (refine wpList_put hA610 rfl 71 (.tmp 6) (.tmp 27) rfl (encS (headS t a c)) (by kernel_rfl) (by kernel_rfl) (by rw [encS_len, encS_len]) (infoSec _) (encS_one _) ?_; intro w11 hA11 hB11 _)
    refine bodyPost_ret (results_cell_row rfl _ _ g6 _ _ _ _ rfl hA11 Tryz.underlying71 rfl (infoSec _)) rfl ?_; exact ⟨rfl, Below.trans hGw10 (hB11.mono hg6w)⟩
theorem pad_take {l : List UInt8} {n : Nat} (hl : l.length = n) (hn : n ≤ 64) : (padSec l).1.take n = l := by
  unfold padSec; simp only; rw [List.take_take, Nat.min_eq_left hn, List.take_append_of_le_length (by omega), List.take_of_length_le (by omega)]
theorem sec_rd {w : World} {g : Nat} {t : TypeId} {x : Sec} (h : Arr w g t (encS x)) {n : Nat} (hn : n ≤ 64) : Rd w (some ⟨g, 0, none⟩) n (u8s (x.1.take n)) := by
  have := h.rd 0 n (by rw [encS_len]; omega); rw [List.drop_zero] at this; unfold encS at this; rw [u8s_take] at this; exact this
def placeC (t a c : Nat) : List Value := [.int .i64 (t : Int), .int .i64 (a : Int), .int .i64 (c : Int)]
theorem infoPlace (t a c : Nat) : (Tryz.prog.info? 97).map (·.size) = some (placeC t a c).length := by
  show _ = some 3
  kernel_rfl
theorem placeC_one (t a c : Nat) : ∀ v ∈ placeC t a c, v.oneCell' = true := by simp [placeC, Value.oneCell']
theorem crc_zero : crcL (List.replicate 18 0) ≠ List.replicate 22 0 := by decide +kernel
set_option maxRecDepth 100000 in
set_option maxHeartbeats 8000000 in
theorem lread_no (at_ room : Int) (w : World) : Calls Tryz.prog 54 #[.agg (encS zeroSec).toArray, .int .i64 at_, .int .i64 room] w fun e w' => e = .returned (.agg (placeC 0 0 0).toArray) ∧ Gr w w' := by
  have hA3 : Arr (w.alloc (.cells (encS zeroSec).toArray 71)) w.heap.size 71 (encS zeroSec) := Arr.newAt rfl rfl; have hG3 : Gr w (w.alloc (.cells (encS zeroSec).toArray 71)) := Gr.alloc _ _; have hS : (encS zeroSec).toArray.toList = encS zeroSec := rfl; obtain ⟨Z, hZ⟩ : ∃ Z, Z = (encS zeroSec).toArray := ⟨_, rfl⟩; rw [← hZ] at hA3 hG3 hS ⊢; clear hZ
  go_enter Tryz.func54, Tryz.ntmps54
  go_upto_region 1 with fail
  have hA6 : Arr ((w.alloc (.cells Z 71)).alloc (.cells (placeC 0 0 0).toArray 97)) (w.heap.size + 1) 97 (placeC 0 0 0) := Arr.newAt (asz _ _) rfl; have hG6 : Gr (w.alloc (.cells Z 71)) ((w.alloc (.cells Z 71)).alloc (.cells (placeC 0 0 0).toArray 97)) := Gr.alloc _ _; change Code.wp _ _ _ _ ((w.alloc (.cells Z 71)).alloc (.cells (placeC 0 0 0).toArray 97)); have hG16 := hG3.trans hG6; have hA36 := hA3.gr hG6; generalize (w.alloc (.cells Z 71)).alloc (.cells (placeC 0 0 0).toArray 97) = w1 at hA6 hA36 hG16 ⊢; have hcut := fun w1 => run_acut_h (P := Tryz.prog) (T := 71) Tryz.underlying71 (by kernel_rfl) w.heap.size 22 (by omega) 22 rfl w1; have HO := Lib.hid (open_crc (A := some ⟨w.heap.size, 0, none⟩) (c := 64) (n := 22) (m := 18) (b := List.replicate 22 0) (l := List.replicate 18 0) (sec_rd hA36 (by omega)) (by simp) (by omega) (by omega) (by intro h; cases h) rfl rfl); obtain ⟨g6, hg6⟩ : ∃ g, g = w.heap.size + 1 := ⟨_, rfl⟩; rw [← hg6] at hA6; simp only [← hg6]; have hg6w : w.heap.size ≤ g6 := by omega
  clear hg6 hA3 hG3 hG6 hA36; go_wp2_with fail
  refine HO.out.mono ?_; rintro e w2 ⟨_, h2⟩; obtain ⟨rfl, hG2⟩ := h2 crc_zero; have hA62 := hA6.gr hG2; clear HO h2 hcut
  go_wp2_with (refine wpList_put hA62 rfl 97 (.tmp 6) (.tmp 19) rfl (placeC 0 0 0) (by kernel_rfl) (by kernel_rfl) rfl (infoPlace 0 0 0) (placeC_one 0 0 0) ?_; intro w3 hA3 hB3 _)
  refine bodyPost_ret (results_cell_row rfl _ _ g6 _ _ _ _ rfl hA3 Tryz.underlying97 rfl (infoPlace 0 0 0)) rfl ?_; exact ⟨rfl, Below.trans (hG16.trans hG2) (hB3.mono hg6w)⟩
theorem run_remK {P : Program} {ev : Operand → Value} {d : Option Tmp} {t T U : TypeId} {p : String} {af : Array Edge} {gd : Option (Nat × Bool)} {w : World} {x y : Operand} {a b r : Nat} (h : a % b = r) (hb : 0 < b) (ha : a < 9223372036854775808) (h1 : ev x = .int .i64 (a : Int)) (h2 : ev y = .int .i64 (b : Int)) :
    (execOp ev ⟨d, .binOp .rem T x y U, t, p, af, gd⟩).run P w = .ok (.value (.int .i64 (r : Int))) w := by
  have hb0 : (b : Int) ≠ 0 := by omega
  have hm : ((a : Int).tmod (b : Int)) = (r : Int) := by rw [← h]; rfl
  have hr : r < 9223372036854775808 := by have := Nat.mod_le a b; omega
  simp only [execOp, h1, h2]; go_simp; omega
theorem headI_parts (t a c : Nat) : headI t a c = hiB 1 108 ++ (hiB 8 t ++ (hiB 1 a ++ (hiB 8 c ++ []))) := by simp [headI]
set_option maxRecDepth 100000 in
set_option maxHeartbeats 16000000 in
theorem lread_yes (t a c room q : Nat) (hq : t % 2 = q) (ht : 1 ≤ t ∧ t < 4611686018427387904) (ha : a ≤ 1) (hc : c ≤ room) (hroom : room < 4611686018427387904) (w : World) : Calls Tryz.prog 54 #[.agg (encS (headS t a c)).toArray, .int .i64 (q : Int), .int .i64 (room : Int)] w fun e w' => e = .returned (.agg (placeC t a c).toArray) ∧ Gr w w' := by
  obtain ⟨ht1, ht2⟩ := ht; have hA3 : Arr (w.alloc (.cells (encS (headS t a c)).toArray 71)) w.heap.size 71 (encS (headS t a c)) := Arr.newAt rfl rfl; have hG3 : Gr w (w.alloc (.cells (encS (headS t a c)).toArray 71)) := Gr.alloc _ _; obtain ⟨Z, hZ⟩ : ∃ Z, Z = (encS (headS t a c)).toArray := ⟨_, rfl⟩; rw [← hZ] at hA3 hG3 ⊢; clear hZ
  go_enter Tryz.func54, Tryz.ntmps54
  go_upto_region 1 with fail
  have hA6 : Arr ((w.alloc (.cells Z 71)).alloc (.cells (placeC 0 0 0).toArray 97)) (w.heap.size + 1) 97 (placeC 0 0 0) := Arr.newAt (asz _ _) rfl; have hG6 : Gr (w.alloc (.cells Z 71)) ((w.alloc (.cells Z 71)).alloc (.cells (placeC 0 0 0).toArray 97)) := Gr.alloc _ _; change Code.wp _ _ _ _ ((w.alloc (.cells Z 71)).alloc (.cells (placeC 0 0 0).toArray 97)); have hG16 := hG3.trans hG6; have hA36 := hA3.gr hG6; generalize (w.alloc (.cells Z 71)).alloc (.cells (placeC 0 0 0).toArray 97) = w1 at hA6 hA36 hG16 ⊢; have hcut := fun w1 => run_acut_h (P := Tryz.prog) (T := 71) Tryz.underlying71 (by kernel_rfl) w.heap.size 22 (by omega) 22 rfl w1; have HO := Lib.hid (open_crc (A := some ⟨w.heap.size, 0, none⟩) (c := 64) (n := 22) (m := 18) (b := headB t a c) (l := headI t a c) (by have := sec_rd hA36 (n := 22) (by omega); rwa [show (headS t a c).1.take 22 = headB t a c from pad_take (headB_len t a c) (by omega)] at this) (headB_len t a c) (by omega) (by omega) (by intro h; cases h) rfl (by unfold headB crcL; rw [List.take_append_of_le_length (by rw [headI_len]; omega), List.take_of_length_le (by rw [headI_len]; omega)])); obtain ⟨g3, hg3⟩ : ∃ g, g = w.heap.size := ⟨_, rfl⟩; obtain ⟨g6, hg6⟩ : ∃ g, g = w.heap.size + 1 := ⟨_, rfl⟩; rw [← hg3] at hA36 HO hcut; rw [← hg6] at hA6; simp only [← hg6]; simp only [← hg3]; have hg6w : w.heap.size ≤ g6 := by omega
  clear hg6 hg3 hA3 hG3 hG6; go_wp2_with fail
  refine HO.out.mono ?_; rintro e w2 ⟨h1, _⟩; obtain ⟨A7, c7, rfl, ho7, hn7, hG2⟩ := h1 rfl; rw [headI_len] at ho7 ⊢; have hA62 := hA6.gr hG2; have hA32 := hA36.gr hG2; have hG02 := hG16.trans hG2; have HOf := Lib.hid (of_any (c := c7) (Rd.of_own ho7) (by omega) (by omega) (headI_len t a c) hn7); clear HO h1 hcut hA6 hA36 ho7 hn7 hG2 hG16; go_wp2_with fail
  refine HOf.out.mono ?_; rintro e w3 ⟨gi, p, A8, c8, rfl, hgi, hgil, _, _, hI, hG3⟩; rw [headI_parts] at hI; have HK := Lib.hid (ismall_any (most := 108) hI (by omega) (by omega) (by simp [hiB_length])); have hA63 := hA62.gr hG3; have hA33 := hA32.gr hG3; have hG03 := hG02.trans hG3; have hgi6 : gi ≠ g6 := by have := hA62.lt; omega
  have hgi3 : gi ≠ g3 := by have := hA32.lt; omega
  have hgiw : w.heap.size ≤ gi := Nat.le_trans hG02.size hgi; clear HOf hI hA62 hA32 hG02 hG3 hgi hgil; go_wp2_with fail
  refine HK.out.mono ?_; rintro e w4 ⟨A9, c9, rfl, hI4, hK4⟩; have HN := Lib.hid (inum_any (x := t) (most := 4611686018427387904) hI4 (by omega) (by omega) (by simp [hiB_length])); clear HK hI4; go_wp2_with fail
  refine HN.out.mono ?_; rintro e w5 ⟨A10, c10, rfl, hI5, hK5⟩; have HS := Lib.hid (ismall_any (x := a) (most := 1) hI5 (by omega) (by omega) (by simp [hiB_length])); clear HN hI5; go_wp2_with fail
  refine HS.out.mono ?_; rintro e w6 ⟨A11, c11, rfl, hI6, hK6⟩; have HN := Lib.hid (inum_any (x := c) (most := room) hI6 hc (by omega) (by simp)); clear HS hI6; go_wp2_with fail
  refine HN.out.mono ?_; rintro e w7 ⟨A12, c12, rfl, hI7, hK7⟩; have hK37 := ((hK4.trans hK5).trans hK6).trans hK7; have hA67 := hK37.arr hA63 (Ne.symm hgi6); have hA37 := hK37.arr hA33 (Ne.symm hgi3); have hG07 : Gr w w7 := hK37.gr_after hG03 hgiw; have HI7 := Lib.hid hI7; clear HN hI7 hK4 hK5 hK6 hK7 hK37 hA63 hA33 hG03
  go_upto_region 7 with first
    | (refine wpList_new (w := w7) (t := 97) rfl _ _ _ rfl w7.heap.size (placeC t a c) rfl rfl rfl rfl (infoPlace t a c) (placeC_one t a c) ?_; intro w8 hA11 hG8)
  obtain ⟨g11, hg11⟩ : ∃ g, g = w7.heap.size := ⟨_, rfl⟩; rw [← hg11] at hA11; simp only [← hg11]; clear hg11; have hA68 := hA67.gr hG8; have hA38 := hA37.gr hG8; have HI8 := Lib.hid (HI7.out.gr hG8); have hG08 := hG07.trans hG8; have cT := hA11.cell (i := 0) (v := .int .i64 (t : Int)) rfl; have cA := hA11.cell (i := 1) (v := .int .i64 (a : Int)) rfl; have cC := hA11.cell (i := 2) (v := .int .i64 (c : Int)) rfl; have ht3 : ¬ (t : Int) < 1 := by omega
  clear hA67 hA37 hG07 HI7 hG8; refine wp_region_ssaL (by kernel_rfl) [IsV (.pointer (some ⟨gi, 0, none⟩)), IsV (.int .i64 ((0 : Nat) : Int)), IsV (.bool false), IsV (.bool false), IsV (.int .i64 ((108 : Nat) : Int)), IsV (.bool false), IsV (.bool false), IsV (.bool false), IsV (.pointer (some ⟨g11, 0, none⟩)), IsV (.int .i64 ((t : Nat) : Int)), IsV (.bool false), IsV (.bool false), IsV (.bool false), IsV (.pointer (some ⟨g11, 0, none⟩)), IsV (.int .i64 ((t : Nat) : Int)), IsV (.int .i64 ((q : Nat) : Int)), IsV (.int .i64 ((q : Nat) : Int)), IsV (.bool false), IsV (.bool false), IsV (.bool false), IsV (.agg (u8s ((headS t a c).1)).toArray), IsV (.pointer (some ⟨g11, 0, none⟩)), IsV (.int .i64 ((t : Nat) : Int)), IsV (.pointer (some ⟨g11, 1, none⟩)), IsV (.int .i64 ((a : Nat) : Int)), IsV (.pointer (some ⟨g11, 2, none⟩)), IsV (.int .i64 ((c : Nat) : Int)), IsV (.agg (u8s ((headS t a c).1)).toArray), IsV (.bool false), IsV (.bool false)] (by kernel_rfl) ?_ ?_ ?_
  · intro φ hφ v w1 w2 h hg; simp only [List.mem_cons, List.not_mem_nil, or_false] at hφ; rcases hφ with rfl | rfl | rfl | rfl | rfl | rfl | rfl | rfl | rfl | rfl | rfl | rfl | rfl | rfl | rfl | rfl | rfl | rfl | rfl | rfl | rfl | rfl | rfl | rfl | rfl | rfl | rfl | rfl | rfl | rfl
    all_goals first | exact h | exact RdV.gr h hg
  · refine ⟨?_, ?_, ?_, ?_, ?_, ?_, ?_, ?_, ?_, ?_, ?_, ?_, ?_, ?_, ?_, ?_, ?_, ?_, ?_, ?_, ?_, ?_, ?_, ?_, ?_, ?_, ?_, ?_, ?_, ?_, trivial⟩
    · intro a1 w1 hG hF; exact s_old rfl (wants0 rfl) (.tmp 9) (.inr rfl) (.pointer (some ⟨gi, 0, none⟩)) (hF.ol 9 (by kernel_rfl)) rfl
    · intro a1 w1 hG hF; obtain ⟨_, e32, rfl⟩ := hF.dp 0 32 (by kernel_rfl); exact s_call rfl (wants0 rfl) _ rfl _ _ (by simp only [execOp, resolve, invoke, List.map_toArray, List.map_cons, List.map_nil, e32]; go_simp) (((iend_any (HI8.out.gr ((Gr.drew w8).trans hG)))).mono fun e w2 ⟨he, hw⟩ => ⟨_, he, rfl, hw ▸ Gr.refl _⟩)
    · intro a1 w1 hG hF; obtain ⟨_, e33, rfl⟩ := hF.dp 1 33 (by kernel_rfl); exact s_is rfl (wants0 rfl) _ rfl (by simp only [execOp, e33]; go_simp)
    · intro a1 w1 hG hF; exact s_same rfl (wants0 rfl) (.tmp 34) (.inr rfl) (hF.dp 2 34 (by kernel_rfl))
    · intro a1 w1 hG hF; exact s_old rfl (wantsG hF 3 35 false rfl (by kernel_rfl) rfl) (.tmp 10) (.inr rfl) (.int .i64 ((108 : Nat) : Int)) (hF.ol 10 (by kernel_rfl)) rfl
    · intro a1 w1 hG hF; obtain ⟨_, e36, rfl⟩ := hF.dp 4 36 (by kernel_rfl); exact s_is rfl (wantsG hF 3 35 false rfl (by kernel_rfl) rfl) _ rfl (by simp only [execOp, e36]; go_simp)
    · intro a1 w1 hG hF; obtain ⟨_, e35, rfl⟩ := hF.dp 3 35 (by kernel_rfl); obtain ⟨_, e37, rfl⟩ := hF.dp 5 37 (by kernel_rfl); exact s_pickF rfl (wants0 rfl) (.tmp 35) _ (.tmp 37) rfl e35 _ e37 rfl
    · intro a1 w1 hG hF; exact s_same rfl (wants0 rfl) (.tmp 38) (.inr rfl) (hF.dp 6 38 (by kernel_rfl))
    · intro a1 w1 hG hF; have e11 : a1.eval (.tmp 11) = .pointer (some ⟨g11, 0, none⟩) := hF.ol 11 (by kernel_rfl); exact s_is rfl (wantsG hF 7 39 false rfl (by kernel_rfl) rfl) _ rfl (run_fieldR (o := 0) (k := 0) Tryz.underlying97 rfl rfl (by kernel_rfl) e11)
    · intro a1 w1 hG hF; obtain ⟨_, e40, rfl⟩ := hF.dp 8 40 (by kernel_rfl); exact s_is rfl (wantsG hF 7 39 false rfl (by kernel_rfl) rfl) _ rfl (run_load1 Tryz.underlying3 e40 (Gr.cell ((Gr.drew w8).trans hG) cT))
    · intro a1 w1 hG hF; obtain ⟨_, e41, rfl⟩ := hF.dp 9 41 (by kernel_rfl); exact s_is rfl (wantsG hF 7 39 false rfl (by kernel_rfl) rfl) _ rfl (by simp only [execOp, e41]; go_simp)
    · intro a1 w1 hG hF; obtain ⟨_, e39, rfl⟩ := hF.dp 7 39 (by kernel_rfl); obtain ⟨_, e42, rfl⟩ := hF.dp 10 42 (by kernel_rfl); exact s_pickF rfl (wants0 rfl) (.tmp 39) _ (.tmp 42) rfl e39 _ e42 rfl
    · intro a1 w1 hG hF; exact s_same rfl (wants0 rfl) (.tmp 43) (.inr rfl) (hF.dp 11 43 (by kernel_rfl))
    · intro a1 w1 hG hF; have e11 : a1.eval (.tmp 11) = .pointer (some ⟨g11, 0, none⟩) := hF.ol 11 (by kernel_rfl); exact s_is rfl (wantsG hF 12 44 false rfl (by kernel_rfl) rfl) _ rfl (run_fieldR (o := 0) (k := 0) Tryz.underlying97 rfl rfl (by kernel_rfl) e11)
    · intro a1 w1 hG hF; obtain ⟨_, e45, rfl⟩ := hF.dp 13 45 (by kernel_rfl); exact s_is rfl (wantsG hF 12 44 false rfl (by kernel_rfl) rfl) _ rfl (run_load1 Tryz.underlying3 e45 (Gr.cell ((Gr.drew w8).trans hG) cT))
    · intro a1 w1 hG hF; obtain ⟨_, e46, rfl⟩ := hF.dp 14 46 (by kernel_rfl); exact s_is rfl (wantsG hF 12 44 false rfl (by kernel_rfl) rfl) _ rfl (run_remK (b := 2) hq (by omega) (by omega) e46 rfl)
    · intro a1 w1 hG hF; exact s_old rfl (wantsG hF 12 44 false rfl (by kernel_rfl) rfl) (.tmp 1) (.inr rfl) (.int .i64 ((q : Nat) : Int)) (hF.ol 1 (by kernel_rfl)) rfl
    · intro a1 w1 hG hF; obtain ⟨_, e47, rfl⟩ := hF.dp 15 47 (by kernel_rfl); obtain ⟨_, e48, rfl⟩ := hF.dp 16 48 (by kernel_rfl); exact s_is rfl (wantsG hF 12 44 false rfl (by kernel_rfl) rfl) _ rfl (by simp only [execOp, e47, e48]; go_simp)
    · intro a1 w1 hG hF; obtain ⟨_, e44, rfl⟩ := hF.dp 12 44 (by kernel_rfl); obtain ⟨_, e49, rfl⟩ := hF.dp 17 49 (by kernel_rfl); exact s_pickF rfl (wants0 rfl) (.tmp 44) _ (.tmp 49) rfl e44 _ e49 rfl
    · intro a1 w1 hG hF; exact s_same rfl (wants0 rfl) (.tmp 50) (.inr rfl) (hF.dp 18 50 (by kernel_rfl))
    · intro a1 w1 hG hF; have e3 : a1.eval (.tmp 3) = .pointer (some ⟨g3, 0, none⟩) := hF.ol 3 (by kernel_rfl); exact s_is rfl (wantsG hF 19 51 false rfl (by kernel_rfl) rfl) _ rfl (run_loadArr ⟨_, _, Tryz.underlying71⟩ (infoSec (headS t a c)) e3 (hA38.gr ((Gr.drew w8).trans hG)))
    · intro a1 w1 hG hF; have e11 : a1.eval (.tmp 11) = .pointer (some ⟨g11, 0, none⟩) := hF.ol 11 (by kernel_rfl); exact s_is rfl (wantsG hF 19 51 false rfl (by kernel_rfl) rfl) _ rfl (run_fieldR (o := 0) (k := 0) Tryz.underlying97 rfl rfl (by kernel_rfl) e11)
    · intro a1 w1 hG hF; obtain ⟨_, e53, rfl⟩ := hF.dp 21 53 (by kernel_rfl); exact s_is rfl (wantsG hF 19 51 false rfl (by kernel_rfl) rfl) _ rfl (run_load1 Tryz.underlying3 e53 (Gr.cell ((Gr.drew w8).trans hG) cT))
    · intro a1 w1 hG hF; have e11 : a1.eval (.tmp 11) = .pointer (some ⟨g11, 0, none⟩) := hF.ol 11 (by kernel_rfl); exact s_is rfl (wantsG hF 19 51 false rfl (by kernel_rfl) rfl) _ rfl (run_fieldR (o := 1) (k := 0) Tryz.underlying97 rfl rfl (by kernel_rfl) e11)
    · intro a1 w1 hG hF; obtain ⟨_, e55, rfl⟩ := hF.dp 23 55 (by kernel_rfl); exact s_is rfl (wantsG hF 19 51 false rfl (by kernel_rfl) rfl) _ rfl (run_load1 Tryz.underlying3 e55 (Gr.cell ((Gr.drew w8).trans hG) cA))
    · intro a1 w1 hG hF; have e11 : a1.eval (.tmp 11) = .pointer (some ⟨g11, 0, none⟩) := hF.ol 11 (by kernel_rfl); exact s_is rfl (wantsG hF 19 51 false rfl (by kernel_rfl) rfl) _ rfl (run_fieldR (o := 2) (k := 0) Tryz.underlying97 rfl rfl (by kernel_rfl) e11)
    · intro a1 w1 hG hF; obtain ⟨_, e57, rfl⟩ := hF.dp 25 57 (by kernel_rfl); exact s_is rfl (wantsG hF 19 51 false rfl (by kernel_rfl) rfl) _ rfl (run_load1 Tryz.underlying3 e57 (Gr.cell ((Gr.drew w8).trans hG) cC))
    · intro a1 w1 hG hF; obtain ⟨_, e54, rfl⟩ := hF.dp 22 54 (by kernel_rfl); obtain ⟨_, e56, rfl⟩ := hF.dp 24 56 (by kernel_rfl); obtain ⟨_, e58, rfl⟩ := hF.dp 26 58 (by kernel_rfl); exact s_call rfl (wantsG hF 19 51 false rfl (by kernel_rfl) rfl) _ rfl _ _ (by simp only [execOp, resolve, invoke, List.map_toArray, List.map_cons, List.map_nil, e54, e56, e58]; go_simp) (((head_any t a c (by omega) (by omega) (by omega) w1)).mono fun e w2 ⟨he, hb⟩ => ⟨_, he, rfl, hb⟩)
    · intro a1 w1 hG hF; obtain ⟨_, e52, rfl⟩ := hF.dp 20 52 (by kernel_rfl); obtain ⟨_, e59, rfl⟩ := hF.dp 27 59 (by kernel_rfl); exact s_is rfl (wantsG hF 19 51 false rfl (by kernel_rfl) rfl) _ rfl ((run_neBy (by kernel_rfl) Tryz.underlying71 Tryz.underlying5 (fun w => by kernel_rfl) (headS t a c).2 (headS t a c).2 e52 e59).trans (by simp))
    · intro a1 w1 hG hF; obtain ⟨_, e51, rfl⟩ := hF.dp 19 51 (by kernel_rfl); obtain ⟨_, e60, rfl⟩ := hF.dp 28 60 (by kernel_rfl); exact s_pickF rfl (wants0 rfl) (.tmp 51) _ (.tmp 60) rfl e51 _ e60 rfl
  · intro vs w9 hG hf; have z61 : vs 29 = .bool false := hf.2.2.2.2.2.2.2.2.2.2.2.2.2.2.2.2.2.2.2.2.2.2.2.2.2.2.2.2.2.1; clear hf; simp only [putAll, Nat.zero_add, Nat.reduceAdd, z61]; have hG9 : Gr w8 w9 := (Gr.drew w8).trans hG; have hA69 := hA68.gr hG9; have hr11 : w9.rangeAt g11 0 (placeC t a c) := Arr.range (hA11.gr hG9); have hG09 := hG08.trans hG9; clear hG9 hA68 hA11 hG08 cT cA cC hG; go_simp
    go_wp2_with first
      | (refine wpList_load_mid rfl _ _ rfl g11 0 rfl (placeC t a c) _ hr11 Tryz.underlying97 rfl (infoPlace t a c) ?_)
      | (refine wpList_put hA69 rfl 97 (.tmp 6) (.tmp 63) rfl (placeC t a c) (by kernel_rfl) (by kernel_rfl) rfl (infoPlace t a c) (placeC_one t a c) ?_; intro w10 hA10 hB10 _)
    refine bodyPost_ret (results_cell_row rfl _ _ g6 _ _ _ _ rfl hA10 Tryz.underlying97 rfl (infoPlace t a c)) rfl ?_; exact ⟨rfl, Below.trans hG09 (hB10.mono hg6w)⟩
end Go.Proofs.YtjpphldojbfpfaaGreatDoor
