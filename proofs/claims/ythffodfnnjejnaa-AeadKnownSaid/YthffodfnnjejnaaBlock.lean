/- The walk of Block. No condition. -/
import Derived.Test.YthffodfnnjejnaaBegin
namespace Go.Proofs.Ythffodfnnjejnaa
open Go.RowKit
def roundsAt (s : List UInt32) : Nat → List UInt32
  | 0 => s
  | k + 1 => roundL (roundsAt s k)
@[simp] theorem roundsAt_length (s : List UInt32) (k : Nat) : (roundsAt s k).length = s.length := by
  induction k with
  | zero => rfl
  | succ k ih => rw [roundsAt, roundL_length, ih]
def outAt (s f : List UInt32) : Nat → List UInt8
  | 0 => []
  | k + 1 => outAt s f k ++ leBytes 4 (s.getD k 0 + f.getD k 0).toNat
@[simp] theorem outAt_length (s f : List UInt32) (k : Nat) : (outAt s f k).length = 4 * k := by
  induction k with
  | zero => rfl
  | succ k ih => rw [outAt, List.length_append, ih, leBytes_length]; omega
def blockL (K : List UInt8) (c : UInt32) (N : List UInt8) : List UInt8 := outAt (roundsAt (beginL K c N) 10) (beginL K c N) 16
@[simp] theorem blockL_length (K : List UInt8) (c : UInt32) (N : List UInt8) : (blockL K c N).length = 64 := by simp [blockL]
theorem block_start {w w1 : World} {k n : Array Value} {t1 t2 t3 : TypeId} {z : Array Value} (hz : z.size = 64) (hb : Below (((w.alloc (.cells k t1)).alloc (.cells n t2)).alloc (.cells z t3)).heap.size (((w.alloc (.cells k t1)).alloc (.cells n t2)).alloc (.cells z t3)) w1) :
    ∃ Z, Z.length = 64 ∧ Arr w1 (w.heap.size + 1 + 1) t3 Z ∧ Below w.heap.size w w1 := by
  refine ⟨z.toList, by simpa using hz, ?_, ?_⟩
  · exact (Arr.newAt (by simp only [asz]) rfl).below hb (by simp only [asz]; omega)
  · exact ((((Below.refl _ _).alloc (by omega) _).alloc (by simp only [asz]; omega) _).alloc (by simp only [asz]; omega) _).trans (hb.mono (by simp only [asz]; omega))
set_option maxHeartbeats 4000000 in
theorem block_any (K : List UInt8) (hK : K.length = 32) (c : UInt32) (N : List UInt8) (hN : N.length = 12) (w : World) :
    Calls Try.prog 18 #[.agg (u8s K).toArray, .int .u32 c.toNat, .agg (u8s N).toArray] w fun e w' => e = .returned (.agg (u8s (blockL K c N)).toArray) ∧ Below w.heap.size w w' := by
  have i1 : (Try.prog.info? 22).map (·.size) = some (u8s K).length := by simp only [u8s_length, hK]; kernel_rfl
  have HI1 := Lib.hid i1
  clear i1
  have i2 : (Try.prog.info? 23).map (·.size) = some (u8s N).length := by simp only [u8s_length, hN]; kernel_rfl
  have HI2 := Lib.hid i2
  clear i2
  obtain ⟨f, hf⟩ : ∃ f, f = beginL K c N := ⟨_, rfl⟩
  have hl : f.length = 16 := by rw [hf]; simp
  have i3 : (Try.prog.info? 58).map (·.size) = some (u32s f).length := by simp only [u32s_length, hl]; kernel_rfl
  have HI3 := Lib.hid i3
  have i4 : (Try.prog.info? 58).map (·.size) = some (u32s f).toArray.size := by simp only [List.size_toArray, u32s_length, hl]; kernel_rfl
  have HI4 := Lib.hid i4
  have hbeg := fun w => begin_any K hK c N hN w
  rw [← hf] at hbeg
  have HF := Lib.hid hf
  have HL := Lib.hid hl
  clear i3 i4 hf hl
  go_enter Try.func18, Try.ntmps18
  go_wp2_with first
    | (refine wpList_load_mid rfl 22 (.tmp 3) rfl w.heap.size 0 rfl (u8s K) _ (((Arr.newAt rfl rfl).alloc _).alloc _).range Try.underlying22 rfl HI1.out ?_)
    | (refine wpList_load_mid rfl 23 (.tmp 5) rfl (w.heap.size + 1) 0 rfl (u8s N) _ ((Arr.newAt (asz _ _) rfl).alloc _).range Try.underlying23 rfl HI2.out ?_)
    | (go_at_call 28; refine (hbeg _).mono ?_; rintro e w1 ⟨rfl, hB1⟩; obtain ⟨Z, hZ, h6, hB⟩ := block_start rfl hB1; clear hB1; have l6 := h6.lt)
    | (refine wpList_new rfl 58 (.tmp 7) (.tmp 15) rfl _ (u32s f) rfl rfl rfl (by simp only [u32s_length, HL.out]; rfl) HI3.out (u32s_oneCell f) ?_; intro w2 h7 hG2; have l7 := h7.lt)
    | (refine wpList_load_mid rfl 58 (.tmp 7) rfl w1.heap.size 0 rfl (u32s f) _ h7.range Try.underlying58 rfl HI3.out ?_)
    | (refine wpList_new rfl 58 (.tmp 8) (.tmp 16) rfl _ (u32s f) rfl rfl rfl (by simp only [u32s_length, HL.out]; rfl) HI3.out (u32s_oneCell f) ?_; intro w3 h8 hG3)
  have h6 := h6.gr (hG2.trans hG3)
  have h7 := h7.gr hG3
  have l6 : w.heap.size + 1 + 1 < w1.heap.size := by assumption
  have l7 : w1.heap.size < w2.heap.size := by assumption
  have hB3 : Below w.heap.size w w3 := hB.trans ((hG2.trans hG3).mono hB.size)
  clear hG2 hG3 hB hbeg
  have l5 : w.heap.size < w.heap.size + 1 + 1 := by omega
  generalize w.heap.size + 1 + 1 = g6 at h6 l5 l6 ⊢
  generalize w1.heap.size = g7 at h7 l6 l7 ⊢
  generalize w2.heap.size = g8 at h8 l7 ⊢
  go_loopw [17] (fun i wr => ∃ r : Nat, r ≤ 10 ∧ i = .int .i64 r ∧ Arr wr g8 58 (u32s (roundsAt f r)) ∧ Below g8 w3 wr) (fun i _ => 10 - (intOf i).toNat)
  case atStart => exact ⟨0, by omega, rfl, h8, Below.refl _ _⟩
  case round =>
    obtain ⟨r, hr, rfl, h8r, hBr⟩ := hrel
    by_cases hlt : r < 10
    · go_wp2_with (go_at_call 29; refine (rounds_any g8 (roundsAt f r) (by simp [HL.out]) _ h8r).mono ?_; rintro e w4 ⟨⟨v, rfl⟩, h8n, hBn⟩)
      go_roundw
      case rel => exact ⟨r + 1, by omega, by go_num, h8n, hBr.trans hBn⟩
      case measure => simp [intOf]; omega
    · obtain rfl : r = 10 := by omega
      have h6 := h6.below hBr (by omega)
      have h7 := h7.below hBr (by omega)
      obtain ⟨s, hs⟩ : ∃ s, s = roundsAt f 10 := ⟨_, rfl⟩
      have hls : s.length = 16 := by rw [hs]; simp [HL.out]
      rw [← hs] at h8r
      have i5 : (Try.prog.info? 58).map (·.size) = some (u32s s).length := by simp only [u32s_length, hls]; kernel_rfl
      have HI5 := Lib.hid i5
      have HS := Lib.hid hs
      have HLS := Lib.hid hls
      clear i5 hs hls
      simp only [show ((10 : Nat) : Int) = 10 from rfl]
      go_wp2_with (refine wpList_load_mid rfl 58 (.tmp 8) rfl g8 0 rfl (u32s s) _ h8r.range Try.underlying58 rfl HI5.out ?_)
      obtain ⟨i0, hi0, hz0, hz1, hz2⟩ := info_parts Try.info5
      obtain ⟨B, hBs⟩ : ∃ B, B = wr.heap.size := ⟨_, rfl⟩
      have g7B : g7 < B := by rw [hBs]; exact h7.lt
      have g6B : g6 < B := by rw [hBs]; exact h6.lt
      have hBw : Below w.heap.size w wr := hB3.trans (hBr.mono (by have := hB3.size; omega))
      generalize wr = W5 at h6 h7 h8r hBr hBw hBs ⊢
      go_loopw [9, 22] (fun v i wq => ∃ r : Nat, r ≤ 16 ∧ i = .int .i64 r ∧ wq.ownsRow B 5 1 v (4 * r) (u8s (outAt s f r)) ∧ Below B W5 wq) (fun _ i _ => 16 - (intOf i).toNat)
      case atStart => exact ⟨0, by omega, rfl, World.ownsRow_nil _ _ _ _, Below.refl _ _⟩
      case round =>
        obtain ⟨r, hr, rfl, hown, hBq⟩ := hrel
        by_cases hlt : r < 16
        · have h7q := h7.below hBq (by omega)
          have hbs : B ≤ wr.heap.size := by have := hBq.size; omega
          obtain ⟨x, hx⟩ : ∃ x, x = s.getD r 0 := ⟨_, rfl⟩
          obtain ⟨y, hy⟩ : ∃ y, y = f.getD r 0 := ⟨_, rfl⟩
          have c1 := h7q.u32 (a := r) (by rw [HL.out]; exact hlt)
          rw [← hy] at c1
          have hix := run_indexA (P := Try.prog) Try.underlying58 Try.underlying43 (by kernel_rfl) (u32s_at (l := s) (i := r) (x := x) (by rw [hx]; simp [List.getD_eq_getElem?_getD, HLS.out, hlt])) hlt wr
          have HO : Hid (outAt s f (r + 1) = outAt s f r ++ leBytes 4 (x + y).toNat) := by show _ = _; rw [hx, hy]; rfl
          have hp := putLow_k (x + y).toNat 4 (by have := (x + y).toNat_lt; omega) (by omega) wr
          rw [← wrap_add32, IntKind.wrap_u32'] at hp
          clear hx hy
          go_wp2_with first
            | (go_at_call 21; refine hp.mono ?_; rintro e w6 ⟨v6, rfl, ho6, hB6⟩; obtain ⟨A6, c6, rfl, hc6, hA6⟩ := own_form ho6; have hown6 := Gr.own hB6 hown)
            | (at_builtin; go_must (refine wpList_app _ rfl (.tmp 26) (.tmp 33) 26 rfl B 5 i0 (.int .u8 0) 1 Try.underlying26 hi0 hz0 hz1 hz2 rfl u9 (4 * r) _ rfl hown6 A6 4 c6 _ rfl (Rd.of_own ho6) (u8s_oneCell _) (by omega) (by unfold maxLen; omega) (by have := hB6.size; omega) ?_; rintro v7 w7 hA7))
          refine ⟨⟨r + 1, by omega, by go_num, ?_, hBq.trans ((hB6.mono hbs).trans (hA7.below hown6 (by have := hB6.size; omega)))⟩, by simp [intOf]; omega⟩
          rw [HO.out, u8s_append, show 4 * (r + 1) = 4 * r + 4 by omega]
          exact hA7.own
        · obtain rfl : r = 16 := by omega
          obtain ⟨o, ho⟩ : ∃ o, o = outAt s f 16 := ⟨_, rfl⟩
          have hlo : o.length = 64 := by rw [ho]; simp
          rw [← ho] at hown
          have HO := Lib.hid ho
          clear ho
          obtain ⟨go, co, rfl, _, hgB, hgo⟩ := own_at hown (by omega)
          have hrg : wr.rangeAt go 0 (u8s o) := fun j v hv => by have := hown.cells (g := go) rfl j v hv; rw [add_row] at this; exact this
          have h6q := h6.below hBq g6B
          have i6 : (Try.prog.info? 47).map (·.size) = some (u8s o).length := by simp only [u8s_length, hlo]; kernel_rfl
          have i7 : (Try.prog.info? 47).map (·.size) = some (u8s o).toArray.size := by simp only [List.size_toArray, u8s_length, hlo]; kernel_rfl
          have t6 : wr.there g6 0 (u8s o).toArray.size := by have := h6q.there; simpa [hlo, hZ] using this
          have HI6 := Lib.hid i6
          have HI7 := Lib.hid i7
          have HT6 := Lib.hid t6
          have ha := fun w => run_arrAt (P := Try.prog) Try.underlying47 (A := some ⟨go, 0, none⟩) (c := co) (Nat.le_refl 64) w
          clear i6 i7 t6
          simp only [show ((16 : Nat) : Int) = 16 from rfl, show 4 * 16 = 64 from rfl]
          go_wp2_with first
            | (refine wpList_load_mid rfl 47 (.tmp 37) rfl go 0 rfl (u8s o) _ hrg Try.underlying47 rfl HI6.out ?_)
            | (refine wpList_store_mid rfl 47 (.tmp 6) (.tmp 38) rfl g6 0 (u8s o).toArray rfl rfl HT6.out HI7.out (all_oneCell_toArray (u8s_oneCell o)) ?_)
          have h6s := h6q.setAll (u8s o) (by simp [hlo, hZ])
          have hE : o = blockL K c N := by rw [HO.out, HS.out, HF.out]; rfl
          refine bodyPost_ret (results_cell_row rfl _ _ g6 _ _ _ _ rfl h6s Try.underlying47 rfl HI7.out) rfl ?_
          rw [← hE]
          exact ⟨rfl, hBw.trans ((hBq.mono (by have := hBw.size; omega)).trans (below_setCells (by omega) _ _ _))⟩
end Go.Proofs.Ythffodfnnjejnaa
