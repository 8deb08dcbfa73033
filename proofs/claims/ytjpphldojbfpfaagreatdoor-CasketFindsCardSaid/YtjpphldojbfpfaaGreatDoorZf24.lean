/- Texts of one proof, laid as one: part 24. No condition. -/
import Derived.Test.YtjpphldojbfpfaaGreatDoorZf23
namespace Go.Proofs.YtjpphldojbfpfaaGreatDoor
open Go.RowKit
theorem run_buildLg {ev : Operand → Value} {d : Option Tmp} {t : TypeId} {p : String} {af : Array Edge} {gd : Option (Nat × Bool)} {w : World} {x y : Operand} {g tu : Nat} (h1 : ev x = .pointer (some ⟨g, 0, none⟩)) (h2 : ev y = .int .i64 (tu : Int)) :
    (execOp ev ⟨d, .build 101 #[(0, x), (1, y)], t, p, af, gd⟩).run Tryz.prog w = .ok (.value (.agg (logC g tu 0 none 0 0).toArray)) w := by
  have h := run_build (P := Tryz.prog) w 101 #[(0, .pointer (some ⟨g, 0, none⟩)), (1, .int .i64 (tu : Int))] (logC g tu 0 none 0 0).toArray (by kernel_rfl); simp only [execOp, List.map_toArray, List.map_cons, List.map_nil, h1, h2, Sem.run_bind, h, Result.andThen_ok, Sem.run_pure]
theorem run_buildLg3 {ev : Operand → Value} {d : Option Tmp} {t : TypeId} {p : String} {af : Array Edge} {gd : Option (Nat × Bool)} {w : World} {x y z : Operand} {g tu ar : Nat} (h1 : ev x = .pointer (some ⟨g, 0, none⟩)) (h2 : ev y = .int .i64 (tu : Int)) (h3 : ev z = .int .i64 (ar : Int)) :
    (execOp ev ⟨d, .build 101 #[(0, x), (1, y), (2, z)], t, p, af, gd⟩).run Tryz.prog w = .ok (.value (.agg (logC g tu ar none 0 0).toArray)) w := by
  have h := run_build (P := Tryz.prog) w 101 #[(0, .pointer (some ⟨g, 0, none⟩)), (1, .int .i64 (tu : Int)), (2, .int .i64 (ar : Int))] (logC g tu ar none 0 0).toArray (by kernel_rfl); simp only [execOp, List.map_toArray, List.map_cons, List.map_nil, h1, h2, h3, Sem.run_bind, h, Result.andThen_ok, Sem.run_pure]
def LFormQ (D : Dk) (w : World) (e : Ending) (w' : World) : Prop := ∃ lg L', e = .returned (.tuple #[.pointer (some ⟨lg, 0, none⟩), .int .i64 0]) ∧ w.heap.size ≤ lg ∧ LogIs w' D lg 1 0 [] L' none 0 ∧ InS (fun i => i = D.d ∨ i = D.gn ∨ i = D.gf) w w'
def padB (b : List UInt8) : List UInt8 := b ++ List.replicate 64 0
theorem padB_len (b : List UInt8) : (padB b).length = b.length + 64 := by rw [padB, List.length_append, List.length_replicate]
theorem padB_sec {b : List UInt8} {j : Nat} (h : j * 64 ≤ b.length) : (padB b).take (j * 64) ++ (padSec (b.drop (j * 64))).1 = (padB b).take ((j + 1) * 64) := by
  unfold padSec padB; simp only; rw [← List.drop_append_of_le_length h, Nat.add_mul, Nat.one_mul, List.take_add]
theorem own_takeU {w : World} {B m c k : Nat} {A : Option Addr} {e : TypeId} {xs : List Value} (h : w.ownsRow B e 1 (.slice A m c) m xs) (hk : k ≤ m) : w.ownsRow B e 1 (.slice A k c) k (xs.take k) := by
  refine ⟨by rw [List.length_take, h.1]; omega, ?_⟩; rcases h.2 with ⟨e1, e2⟩ | ⟨g, cap, cur, e1, h1, h2, h3, h4, h5, h6⟩
  · injection e1 with e3 _ e5
    subst e3 e5; obtain rfl : k = 0 := by omega
    exact .inl ⟨rfl, rfl⟩
  · injection e1 with e3 _ e5
    subst e3 e5; exact .inr ⟨g, c, cur, rfl, h1, h2, by omega, h4, h5, by rw [← h6, List.take_take, Nat.mul_one, Nat.mul_one, Nat.min_eq_left hk]⟩
section
variable {w : World} {D : Dk} {B : Nat} {L F : List Sec}
set_option maxRecDepth 100000 in
set_option maxHeartbeats 8000000 in
theorem lformat_any (h : DiskIs w D B (List.replicate D.N zeroSec) F none 0 0) (hN : 4 ≤ D.N) : Calls Tryz.prog 13 #[.pointer (some ⟨D.d, 0, none⟩)] w fun e w' => LFormQ D w e w' := by
  have hN2 := h.few.2; have H := Lib.hid h; have HM := Lib.hid (lmay_any h hN); have hz : ∀ i, i < 2 → (List.replicate D.N zeroSec)[i]? = some zeroSec := fun i hi => by rw [List.getElem?_replicate, if_pos (by omega)]
  have HLa := Lib.hid (latest_any h hN (fun _ => (0, 0, 0)) (fun _ => zeroSec) hz (fun _ _ => by omega) (fun i hi w1 => lread_no _ _ w1)); have HZ := Lib.hid hz; clear h hz
  go_enter Tryz.func13, Tryz.ntmps13
  go_upto_region 5 with first
    | (go_at_call 28; refine HM.out.mono ?_; rintro e w1 ⟨rfl, rfl⟩)
    | (go_at_call 29; refine HLa.out.mono ?_; rintro e w1 ⟨rfl, hG1⟩)
    | (refine wpList_new (w := w1) (t := 97) rfl _ _ _ rfl w1.heap.size (placeC 0 0 0) rfl rfl rfl rfl (infoPlace 0 0 0) (placeC_one 0 0 0) ?_; intro w2 hA5 hG2)
  have c5 := hA5.cell (i := 0) (v := .int .i64 ((0 : Nat) : Int)) rfl; have hGw2 := hG1.trans hG2; clear hA5 hG1 hG2 HM HLa
  go_upto_region 8 with (refine wpList_valW rfl (.agg (logC D.d 0 0 none 0 0).toArray) _ (run_buildLg (x := .tmp 22) (y := .tmp 24) (g := D.d) (tu := 0) rfl rfl) ?_)
  have hA7 : Arr (w2.alloc (.cells (logC D.d 0 0 none 0 0).toArray 101)) w2.heap.size 101 (logC D.d 0 0 none 0 0) := Arr.newAt rfl rfl; have hG7 : Gr w2 (w2.alloc (.cells (logC D.d 0 0 none 0 0).toArray 101)) := Gr.alloc _ _; generalize w2.alloc (.cells (logC D.d 0 0 none 0 0).toArray 101) = w3 at hA7 hG7 ⊢; obtain ⟨lg, hlg⟩ : ∃ g, g = w2.heap.size := ⟨_, rfl⟩; rw [← hlg] at hA7; simp only [← hlg]; have hlgw : w.heap.size ≤ lg := by have := hGw2.size; omega
  clear hlg; have hGw3 := hGw2.trans hG7; have HC := Lib.hid (lclose_any (a := 0) (A2 := none) (n2 := 0) (c2 := 0) (H.out.gr hGw3) hN hA7 (by omega) (by omega) (by omega)); clear hA7 hG7 c5 hGw2
  go_wp2_with (go_at_call 30; refine HC.out.mono ?_; rintro e w4 ⟨rfl, hD4, hl4, hI4⟩)
  refine bodyPost_ret (results_tmp2 rfl _ _ _) rfl ?_; refine ⟨lg, _, rfl, hlgw, ⟨hD4, hN, hl4, World.ownsRow_nil _ _ _ _, ?_, fun k hk => absurd hk (by simp), by simp, by omega⟩, (InS.of_gr hGw3).after hI4 fun i hi h => ?_⟩
  · have hl : ((List.replicate D.N zeroSec).set ((0 + 1) % 2) (headS (0 + 1) 0 0)).length = D.N := by simp
    refine ⟨by omega, by omega, Nat.zero_le _, ?_, .inl ?_⟩
    · rw [show (0 + 1) % 2 = 1 from rfl, List.getElem?_set, if_pos rfl, if_pos (by simp; omega)]; rfl
    · rw [show (0 + 1) % 2 = 1 from rfl, show (1 + 1) % 2 = 0 from rfl, List.getElem?_set, if_neg (by omega), HZ.out 0 (by omega)]
  · rcases h with h | h | h | h
    · exact .inl h
    · exact .inr (.inl h)
    · exact .inr (.inr h)
    · omega
def LoadR (D : Dk) (lg t a s0 n : Nat) (b : List UInt8) (B : Nat) (w : World) (v : Value) (wr : World) : Prop := ∃ (j : Nat) (A : Option Addr) (c : Nat), v = .int .i64 ((s0 + j : Nat) : Int) ∧ (j = 0 ∨ (j - 1) * 64 < n) ∧ Arr wr lg 101 (logC D.d t a A (j * 64) c) ∧ wr.ownsRow B 5 1 (.slice A (j * 64) c) (j * 64) (u8s ((padB b).take (j * 64))) ∧ InS (fun i => i = lg) w wr
def LoadQ (D : Dk) (lg t a : Nat) (b : List UInt8) (w : World) (e : Ending) (w' : World) : Prop := ∃ A c, e = .returned (.int .i64 0) ∧ Arr w' lg 101 (logC D.d t a A b.length c) ∧ w'.ownsRow w.heap.size 5 1 (.slice A b.length c) b.length (u8s b) ∧ InS (fun i => i = lg) w w'
set_option maxRecDepth 100000 in
set_option maxHeartbeats 16000000 in
theorem lload_any {lg t a n : Nat} {b : List UInt8} (h : DiskIs w D B L F none 0 0) (hN : 4 ≤ D.N) (hl : Arr w lg 101 (logC D.d t a none 0 0)) (ha : a ≤ 1) (hA : AreaOk L D.N a b) (hbl : b.length = n) (hn : n ≤ areaN D.N * 64) :
    Calls Tryz.prog 34 #[.pointer (some ⟨lg, 0, none⟩), .int .i64 (n : Int)] w fun e w' => LoadQ D lg t a b w e w' := by
  obtain ⟨i0, hi0, hz0, hz1, hz2⟩ : ∃ i, Tryz.prog.info? 5 = some i ∧ i.zero = some (.int .u8 0) ∧ i.size = 1 ∧ i.bytes = 1 := by
    have h := Tryz.info5; cases hi : Tryz.prog.info? 5 with
    | none => rw [hi] at h; simp at h
    | some i => rw [hi] at h; simp at h; exact ⟨i, rfl, h.1, h.2.1, h.2.2⟩
  have H := Lib.hid h; have hN2 := h.few.2; have hAN : areaN D.N * 2 + 2 ≤ D.N := by unfold areaN; omega
  obtain ⟨m, hm⟩ : ∃ m, m = areaN D.N := ⟨_, rfl⟩; have HS := Lib.hid (fun w1 (h' : Gr w w1) => dsize_any (h.gr h')); have HAr := Lib.hid (fun w1 => area_any D.N ⟨hN, hN2⟩ w1); have HAo := Lib.hid hA; rw [← hm] at hn hAN HAr; have cd := hl.cell (i := 0) (v := .pointer (some ⟨D.d, 0, none⟩)) rfl; have ca := hl.cell (i := 2) (v := .int .i64 (a : Int)) rfl
  have hlne : Hid (lg ≠ D.d ∧ lg ≠ D.gn ∧ lg ≠ D.gf) := Lib.hid (by
    obtain ⟨R1, p1⟩ := h.now; obtain ⟨R2, p2⟩ := h.fast; exact ⟨arr_ne hl h.arr (by decide), arr_ne hl p1 (by decide), arr_ne hl p2 (by decide)⟩)
  have hm8 : m ≤ 4095 := by omega
  have ham : a * m ≤ m := by
    have : a = 0 ∨ a = 1 := by omega
    rcases this with rfl | rfl <;> omega
  have ham8 : a * m ≤ 4095 := by omega
  obtain ⟨s0, hs0⟩ : ∃ s, s = 2 + a * m := ⟨_, rfl⟩; have hs0l : s0 + m ≤ D.N := by omega
  have hs08 : s0 ≤ 4097 := by omega
  have HBl := Lib.hid hbl; have HE : Hid (m = areaN D.N ∧ s0 = 2 + a * m) := Lib.hid ⟨hm, hs0⟩; have hlgl := hl.lt; have HR0 : Hid (LoadR D lg t a s0 n b w.heap.size w (.int .i64 (s0 : Int)) w) := Lib.hid ⟨0, none, 0, rfl, .inl rfl, by simpa using hl, by simpa using World.ownsRow_nil _ _ _ _, InS.refl _ _⟩; have hn8 : n ≤ 262080 := by omega
  clear h hA hm hbl
  go_enter Tryz.func34, Tryz.ntmps34
  go_upto_region 1 with fail
  refine wp_region_ssaL (by kernel_rfl) [IsV (.pointer (some ⟨lg, 0, none⟩)), IsV (.pointer (some ⟨lg, 0, none⟩)), IsV (.pointer (some ⟨lg, 2, none⟩)), IsV (.int .i64 ((a : Nat) : Int)), IsV (.pointer (some ⟨lg, 0, none⟩)), IsV (.pointer (some ⟨lg, 0, none⟩)), IsV (.pointer (some ⟨lg, 0, none⟩)), IsV (.pointer (some ⟨D.d, 0, none⟩)), IsV (.int .i64 ((D.N : Nat) : Int)), IsV (.int .i64 ((m : Nat) : Int)), IsV (.int .i64 ((a * m : Nat) : Int)), IsV (.int .i64 ((2 + (a * m) : Nat) : Int)), IsV (.int .i64 ((2 + (a * m) : Nat) : Int))] (by kernel_rfl) ?_ ?_ ?_
  · intro φ hφ v w1 w2 h hg; simp only [List.mem_cons, List.not_mem_nil, or_false] at hφ; rcases hφ with rfl | rfl | rfl | rfl | rfl | rfl | rfl | rfl | rfl | rfl | rfl | rfl | rfl
    all_goals first | exact h | exact RdV.gr h hg
  · refine ⟨?_, ?_, ?_, ?_, ?_, ?_, ?_, ?_, ?_, ?_, ?_, ?_, ?_, trivial⟩
    · intro a1 w1 hG hF; exact s_old rfl (wants0 rfl) (.tmp 0) (.inr rfl) (.pointer (some ⟨lg, 0, none⟩)) (hF.ol 0 (by kernel_rfl)) rfl
    · intro a1 w1 hG hF; obtain ⟨_, e8, rfl⟩ := hF.dp 0 8 (by kernel_rfl); exact s_is rfl (wants0 rfl) _ rfl (run_nil e8)
    · intro a1 w1 hG hF; obtain ⟨_, e9, rfl⟩ := hF.dp 1 9 (by kernel_rfl); exact s_is rfl (wants0 rfl) _ rfl (run_fieldR (o := 2) (k := 0) Tryz.underlying101 rfl rfl (by kernel_rfl) e9)
    · intro a1 w1 hG hF; obtain ⟨_, e10, rfl⟩ := hF.dp 2 10 (by kernel_rfl); exact s_is rfl (wants0 rfl) _ rfl (run_load1 Tryz.underlying3 e10 (Gr.cell ((Gr.drew w).trans hG) ca))
    · intro a1 w1 hG hF; exact s_old rfl (wants0 rfl) (.tmp 0) (.inr rfl) (.pointer (some ⟨lg, 0, none⟩)) (hF.ol 0 (by kernel_rfl)) rfl
    · intro a1 w1 hG hF; obtain ⟨_, e12, rfl⟩ := hF.dp 4 12 (by kernel_rfl); exact s_is rfl (wants0 rfl) _ rfl (run_nil e12)
    · intro a1 w1 hG hF; obtain ⟨_, e13, rfl⟩ := hF.dp 5 13 (by kernel_rfl); exact s_is rfl (wants0 rfl) _ rfl (run_fieldR (o := 0) (k := 0) Tryz.underlying101 rfl rfl (by kernel_rfl) e13)
    · intro a1 w1 hG hF; obtain ⟨_, e14, rfl⟩ := hF.dp 6 14 (by kernel_rfl); exact s_is rfl (wants0 rfl) _ rfl (run_load1B (.inr (.inr (.inr (.inr ⟨_, Tryz.underlying26⟩)))) e14 (Gr.cell ((Gr.drew w).trans hG) cd))
    · intro a1 w1 hG hF; obtain ⟨_, e15, rfl⟩ := hF.dp 7 15 (by kernel_rfl); exact s_call rfl (wants0 rfl) _ rfl _ _ (by simp only [execOp, resolve, invoke, List.map_toArray, List.map_cons, List.map_nil, e15]; go_simp) (((HS.out w1 ((Gr.drew w).trans hG))).mono fun e w2 ⟨he, hw⟩ => ⟨_, he, rfl, hw ▸ Gr.refl _⟩)
    · intro a1 w1 hG hF; obtain ⟨_, e16, rfl⟩ := hF.dp 8 16 (by kernel_rfl); exact s_call rfl (wants0 rfl) _ rfl _ _ (by simp only [execOp, resolve, invoke, List.map_toArray, List.map_cons, List.map_nil, e16]; go_simp) (((HAr.out w1)).mono fun e w2 ⟨he, hw⟩ => ⟨_, he, rfl, hw ▸ Gr.refl _⟩)
    · intro a1 w1 hG hF; obtain ⟨_, e11, rfl⟩ := hF.dp 3 11 (by kernel_rfl); obtain ⟨_, e17, rfl⟩ := hF.dp 9 17 (by kernel_rfl); exact s_is rfl (wants0 rfl) _ rfl (run_mulN (a := a) (b := m) e11 e17 (by omega))
    · intro a1 w1 hG hF; obtain ⟨_, e18, rfl⟩ := hF.dp 10 18 (by kernel_rfl); exact s_is rfl (wants0 rfl) _ rfl (run_addN (a := 2) (b := a * m) rfl e18 (by omega))
    · intro a1 w1 hG hF; exact s_same rfl (wants0 rfl) (.tmp 19) (.inl rfl) (hF.dp 11 19 (by kernel_rfl))
  · intro vs w9 hG hf; have z5 : vs 12 = .int .i64 ((2 + (a * m) : Nat) : Int) := hf.2.2.2.2.2.2.2.2.2.2.2.2.1; clear hf; simp only [putAll, Nat.zero_add, Nat.reduceAdd, z5]; have hGw9 : Gr w w9 := (Gr.drew w).trans hG; rw [← hs0]
    have HR9 : Hid (LoadR D lg t a s0 n b w.heap.size w (.int .i64 (s0 : Int)) w9) := Lib.hid (by
      exact ⟨0, none, 0, rfl, .inl rfl, by simpa using hl.gr hGw9, by simpa using World.ownsRow_nil _ _ _ _, InS.of_gr hGw9⟩)
    clear hG hGw9 hl cd ca HR0 hs0; go_simp; go_wp2_with fail
    go_simp
    go_loopw [5] (fun v wr => LoadR D lg t a s0 n b w.heap.size w v wr) (fun v _ => s0 + n + 64 - (intOf v).toNat)
    case atStart => exact HR9.out
    case round =>
      obtain ⟨j, A, c, rfl, hj, hlr, hor, hI⟩ := hrel; have cd1 := hlr.cell (i := 0) (v := .pointer (some ⟨D.d, 0, none⟩)) rfl; have cb1 := hlr.cell (i := 3) (v := .slice A (j * 64) c) rfl
      by_cases hlt : j * 64 < n
      · have hji : (j : Int) * 64 < (n : Int) := by omega
        have hj8 : j ≤ 4095 := by omega
        obtain ⟨X, hX⟩ : ∃ X, X = padSec (b.drop (j * 64)) := ⟨_, rfl⟩
        have hx : L[s0 + j]? = some X := by
          rw [hX, HE.out.2, HE.out.1]; exact HAo.out j (by rw [HBl.out]; exact hlt)
        have HX := Lib.hid hX; obtain ⟨n1, n2, n3⟩ := hlne.out; have HRd := Lib.hid (kread_any (H.out.ins hI (fun e => n1 e.symm) (fun e => n2 e.symm) (fun e => n3 e.symm) (fun ad e => by cases e)) hx); clear hx hX
        go_upto_region 6 with first
          | (go_at_call 53; refine HRd.out.mono ?_; rintro e w1 ⟨rfl, hG1⟩)
          | (refine wpList_new (w := w1) (t := 71) rfl _ _ _ rfl w1.heap.size (encS X) rfl rfl rfl (by rw [encS_len]; rfl) (infoSec X) (encS_one X) ?_; intro w2 hA6 hG2)
        obtain ⟨g6, hg6⟩ : ∃ g, g = w1.heap.size := ⟨_, rfl⟩; rw [← hg6] at hA6; simp only [← hg6]; clear hg6; have hG12 := hG1.trans hG2; have hl2 := hlr.gr hG12; have ho2 := Gr.own hG12 hor; have hI2 := hI.gr hG12; have hs2 : w.heap.size ≤ w2.heap.size := hI2.size; have hPl : ((padB b).take (j * 64)).length = j * 64 := by rw [List.length_take, padB_len, HBl.out]; omega
        obtain ⟨P, hP⟩ : ∃ P, P = (padB b).take (j * 64) := ⟨_, rfl⟩; rw [← hP] at ho2 hPl; have HP := Lib.hid hP; have hA6l : ∀ ad, A = some ad → ad.block ≠ g6 := own_arr_ne ho2 hA6 (by decide); have hAl : ∀ ad, A = some ad → ad.block ≠ lg := own_arr_ne ho2 hl2 (by decide); have cb2 := hl2.cell (i := 3) (v := .slice A (j * 64) c) rfl; have hcell : ∀ w1, NOz 5 1 w.heap.size A (j * 64) c 64 (u8s P) (encS X) w2.drew w1 → w1.cell? ⟨lg, 3, none⟩ = some (.slice A (j * 64) c) := fun w1 h => (InS.of_tn h.tn).cell (Gr.cell (Gr.drew w2) cb2) (fun ⟨ad, q1, q2⟩ => hAl ad q1 q2); have harr : ∀ w1, NOz 5 1 w.heap.size A (j * 64) c 64 (u8s P) (encS X) w2.drew w1 → Arr w1 g6 71 (encS X) := fun w1 h => (InS.of_tn h.tn).arr (hA6.gr (Gr.drew w2)) (fun ⟨ad, q1, q2⟩ => hA6l ad q1 q2); clear hG1 hG2 hG12 HRd hor hlr cd1 cb1 hI hP; refine wp_region_cutG (NOz 5 1 w.heap.size A (j * 64) c 64 (u8s P) (encS X)) NOz.refl (fun _ _ _ => NOz.trans) (by kernel_rfl) [IsV (.pointer (some ⟨lg, 0, none⟩)), IsV (.pointer (some ⟨lg, 0, none⟩)), IsV (.pointer (some ⟨lg, 0, none⟩)), IsV (.pointer (some ⟨lg, 3, none⟩)), IsV (.slice A (j * 64) c), IsV (.slice (some ⟨g6, 0, none⟩) 64 64), NewZ 5 1 w.heap.size w2.heap.size (j * 64 + 64) A (u8s P ++ encS X), IsV (.pointer (some ⟨lg, 0, none⟩)), IsV (.pointer (some ⟨lg, 3, none⟩))] 9 (by decide) (by kernel_rfl) (by kernel_rfl) (by kernel_rfl) ?_ ?_ ?_
        · intro φ hφ v w1 w2 h hg; simp only [List.mem_cons, List.not_mem_nil, or_false] at hφ; rcases hφ with rfl | rfl | rfl | rfl | rfl | rfl | rfl | rfl | rfl
          all_goals first | exact h | exact NewZ.no h hg
        · refine ⟨?_, ?_, ?_, ?_, ?_, ?_, ?_, ?_, ?_, trivial⟩
          · intro a1 w1 hG hF; exact gstep (fun _ h => NOz.of_gr h) (s_old rfl (wants0 rfl) (.tmp 0) (.inr rfl) (.pointer (some ⟨lg, 0, none⟩)) (hF.ol 0 (by kernel_rfl)) rfl)
          · intro a1 w1 hG hF; exact gstep (fun _ h => NOz.of_gr h) (s_old rfl (wants0 rfl) (.tmp 0) (.inr rfl) (.pointer (some ⟨lg, 0, none⟩)) (hF.ol 0 (by kernel_rfl)) rfl)
          · intro a1 w1 hG hF; obtain ⟨_, e40, rfl⟩ := hF.dp 1 40 (by kernel_rfl); exact gstep (fun _ h => NOz.of_gr h) (s_is rfl (wants0 rfl) _ rfl (run_nil e40))
          · intro a1 w1 hG hF; obtain ⟨_, e41, rfl⟩ := hF.dp 2 41 (by kernel_rfl); exact gstep (fun _ h => NOz.of_gr h) (s_is rfl (wants0 rfl) _ rfl (run_fieldR (o := 3) (k := 0) Tryz.underlying101 rfl rfl (by kernel_rfl) e41))
          · intro a1 w1 hG hF; obtain ⟨_, e42, rfl⟩ := hF.dp 3 42 (by kernel_rfl); exact gstep (fun _ h => NOz.of_gr h) (s_is rfl (wants0 rfl) _ rfl (run_load1B (.inr (.inr (.inr (.inl ⟨_, Tryz.underlying43⟩)))) e42 (hcell w1 hG)))
          · intro a1 w1 hG hF; have e6 : a1.eval (.tmp 6) = .pointer (some ⟨g6, 0, none⟩) := hF.ol 6 (by kernel_rfl); exact gstep (fun _ h => NOz.of_gr h) (s_is rfl (wants0 rfl) _ rfl (by simp only [execOp, e6, Option.map, Sem.run_bind, run_cutAll (P := Tryz.prog) Tryz.underlying71 (by kernel_rfl), Result.andThen_ok, Sem.run_pure]))
          · intro a1 w1 hG hF; obtain ⟨_, e43, rfl⟩ := hF.dp 4 43 (by kernel_rfl); obtain ⟨_, e44, rfl⟩ := hF.dp 5 44 (by kernel_rfl); have ho1 := hG.old (Gr.own (Gr.drew w2) ho2); have hX1 := harr w1 hG; obtain ⟨A', c', w', hr, h2, hT, hold, hnew, hl⟩ := run_append_keepL (P := Tryz.prog) (w := w1) w.heap.size 43 43 5 i0 (.int .u8 0) 1 1 Tryz.underlying43 hi0 hz0 hz1 hz2 rfl (by omega) A (j * 64) c (u8s P) ho1 ⟨g6, 0, none⟩ 64 64 (encS X) (by rw [encS_len]) (fun q u hq => by rw [add_row, Nat.zero_add]; exact hX1.cell hq) (encS_one X) (by unfold maxLen; omega) (by omega) (Nat.le_trans hs2 hG.tn.size); exact g_valW rfl rfl (.slice A' (j * 64 + 64) c') w' (by simp only [execOp, resolve, invoke, builtin, List.map_toArray, List.map_cons, List.map_nil, e43, e44, Sem.run_bind, Sem.run_pure, hr, Result.andThen_ok]) ⟨A', c', rfl, h2, hl.imp id fun h ad e => Nat.le_trans hG.tn.size (h ad e)⟩ ⟨hT, fun _ => hold, fun A2 d h => hnew A2 d h⟩
          · intro a1 w1 hG hF; obtain ⟨_, e39, rfl⟩ := hF.dp 0 39 (by kernel_rfl); exact gstep (fun _ h => NOz.of_gr h) (s_is rfl (wants0 rfl) _ rfl (run_nil e39))
          · intro a1 w1 hG hF; obtain ⟨_, e46, rfl⟩ := hF.dp 7 46 (by kernel_rfl); exact gstep (fun _ h => NOz.of_gr h) (s_is rfl (wants0 rfl) _ rfl (run_fieldR (o := 3) (k := 0) Tryz.underlying101 rfl rfl (by kernel_rfl) e46))
        · intro vs w9 hG hf; have y45 : (NewZ 5 1 w.heap.size w2.heap.size (j * 64 + 64) A (u8s P ++ encS X)) (vs 6) w9 := hf.2.2.2.2.2.2.1; have z47 : vs 8 = .pointer (some ⟨lg, 3, none⟩) := hf.2.2.2.2.2.2.2.2.1; clear hf; simp only [List.take_succ_cons, List.take_zero, List.drop_succ_cons, List.drop_zero, putAll, Nat.zero_add, Nat.reduceAdd, z47]; have hT : InS (fun i => ∃ ad, A = some ad ∧ ad.block = i) w2 w9 := (InS.of_gr (Gr.drew w2)).trans (InS.of_tn hG.tn); obtain ⟨A8, c8, hy8, ho8, hl8⟩ := y45; have hl9 := hT.arr hl2 (fun ⟨ad, q1, q2⟩ => hAl ad q1 q2); simp only [hy8]; clear hy8 z47 hG; refine wpList_setV hl9 rfl 43 (.tmp 47) (.tmp 45) rfl (by kernel_rfl) 3 (.slice A8 (j * 64 + 64) c8) (by kernel_rfl) (by kernel_rfl) (by simp [logC]) (.inl ⟨_, _, _, rfl⟩) ?_; intro w10 hA10 hK10; have hAl8 : ∀ ad, A8 = some ad → ad.block ≠ lg := own_arr_ne ho8 hl9 (by decide)
          have HREL : Hid (LoadR D lg t a s0 n b w.heap.size w (.int .i64 ((s0 + (j + 1) : Nat) : Int)) w10) := Lib.hid (by
            refine ⟨j + 1, A8, c8, rfl, .inr (by rw [Nat.add_sub_cancel]; exact hlt), ?_, ?_, ?_⟩
            · rw [show (j + 1) * 64 = j * 64 + 64 by omega]; exact hA10
            · rw [← padB_sec (by rw [HBl.out]; omega), ← HP.out, ← HX.out, u8s_append, show (j + 1) * 64 = j * 64 + 64 by omega]; exact (InS.of_ink (S := fun i => i = lg) hK10 rfl).own ho8 hAl8
            · refine (hI2.after hT fun i hi h => ?_).trans (InS.of_ink hK10 rfl); obtain ⟨ad, q1, q2⟩ := h; have := (ho2.lt ad.block (by rw [q1]; rfl)).1; omega)
          clear hA10 hK10 hl9 ho8 hl8 hT hAl8 hl2 ho2 hI2 hA6 hA6l hAl cb2 hcell harr; unfold wpList; go_simp; go_wp2_with fail
          exact ⟨by rw [show (s0 : Int) + (j : Int) + 1 = ((s0 + (j + 1) : Nat) : Int) by omega]; exact HREL.out, by simp [intOf]; omega⟩
      · have hji : ¬ (j : Int) * 64 < (n : Int) := by omega
        have hj8 : j ≤ 4096 := by omega
        have hjn : n ≤ j * 64 := by omega
        have ho3 := own_takeU hor hjn; rw [u8s_take, List.take_take, Nat.min_eq_left hjn, padB, List.take_append_of_le_length (by rw [HBl.out]; exact Nat.le_refl _), List.take_of_length_le (by rw [HBl.out]; exact Nat.le_refl _)] at ho3
        have hcn : n ≤ c := by
          obtain ⟨_, _, e1, h1, _⟩ := own_form3 hor; injection e1 with _ _ e1
          omega
        have hcut := fun w1 => run_cut_h (P := Tryz.prog) Tryz.underlying43 (by kernel_rfl) (A := A) (n := j * 64) (c := c) (hi := n) (h := (n : Int)) rfl hcn w1; have HO := Lib.hid ho3; have hcut2 : ∀ w1, (Instr.sliceAt 43 (.slice A (j * 64) c) none (some (.int .i64 (n : Int))) none).run Tryz.prog w1 = .ok (.slice A n c) w1 := hcut; clear ho3 hcut
        go_wp2_with (refine wpList_setV hlr rfl 43 (.tmp 58) (.tmp 56) rfl (by kernel_rfl) 3 (.slice A n c) rfl rfl (by simp [logC]) (.inl ⟨_, _, _, rfl⟩) ?_; intro w10 hA10 hK10)
        go_ret
        refine ⟨A, c, rfl, by rw [HBl.out]; exact hA10, ?_, hI.trans (InS.of_ink hK10 rfl)⟩; rw [HBl.out]; exact (InS.of_ink (S := fun i => i = lg) hK10 rfl).own HO.out (own_arr_ne hor hlr (by decide))
end
end Go.Proofs.YtjpphldojbfpfaaGreatDoor
