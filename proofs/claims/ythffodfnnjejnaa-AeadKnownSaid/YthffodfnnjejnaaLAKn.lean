/- The walk of the law AeadKnown. No condition. -/
import Derived.Test.YthffodfnnjejnaaLATag
namespace Go.Proofs.Ythffodfnnjejnaa
open Go.RowKit
/-- The example's key, so far. -/
def keyAN : Nat → List UInt8
  | 0 => List.replicate 32 0
  | k + 1 => (keyAN k).set k (UInt8.ofNat (128 + k))
theorem keyAN_length (k : Nat) : (keyAN k).length = 32 := by
  induction k with
  | zero => rfl
  | succ k ih => rw [keyAN, List.length_set, ih]
def nonceN : List UInt8 := [7, 0, 0, 0, 64, 65, 66, 67, 68, 69, 70, 71]
def withN : List UInt8 := [80, 81, 82, 83, 192, 193, 194, 195, 196, 197, 198, 199]
def textN : List UInt8 := [76, 97, 100, 105, 101, 115, 32, 97, 110, 100, 32, 71, 101, 110, 116, 108, 101, 109, 101, 110, 32, 111, 102, 32, 116, 104, 101, 32, 99, 108, 97, 115, 115, 32, 111, 102, 32, 39, 57, 57, 58, 32, 73, 102, 32, 73, 32, 99, 111, 117, 108, 100, 32, 111, 102, 102, 101, 114, 32, 121, 111, 117, 32, 111, 110, 108, 121, 32, 111, 110, 101, 32, 116, 105, 112, 32, 102, 111, 114, 32, 116, 104, 101, 32, 102, 117, 116, 117, 114, 101, 44, 32, 115, 117, 110, 115, 99, 114, 101, 101, 110, 32, 119, 111, 117, 108, 100, 32, 98, 101, 32, 105, 116, 46]
def wantN : List UInt8 := [26, 225, 11, 89, 79, 9, 226, 106, 126, 144, 46, 203, 208, 96, 6, 145]
set_option maxRecDepth 100000 in
theorem knownA_is : aTag (keyAN 32) nonceN withN (hideL (keyAN 32) nonceN textN) = wantN := by decide +kernel
theorem textN_list : ((#[.int .u8 76, .int .u8 97, .int .u8 100, .int .u8 105, .int .u8 101, .int .u8 115, .int .u8 32, .int .u8 97, .int .u8 110, .int .u8 100, .int .u8 32, .int .u8 71, .int .u8 101, .int .u8 110, .int .u8 116, .int .u8 108, .int .u8 101, .int .u8 109, .int .u8 101, .int .u8 110, .int .u8 32, .int .u8 111, .int .u8 102, .int .u8 32, .int .u8 116, .int .u8 104, .int .u8 101, .int .u8 32, .int .u8 99, .int .u8 108, .int .u8 97, .int .u8 115, .int .u8 115, .int .u8 32, .int .u8 111, .int .u8 102, .int .u8 32, .int .u8 39, .int .u8 57, .int .u8 57, .int .u8 58, .int .u8 32, .int .u8 73, .int .u8 102, .int .u8 32, .int .u8 73, .int .u8 32, .int .u8 99, .int .u8 111, .int .u8 117, .int .u8 108, .int .u8 100, .int .u8 32, .int .u8 111, .int .u8 102, .int .u8 102, .int .u8 101, .int .u8 114, .int .u8 32, .int .u8 121, .int .u8 111, .int .u8 117, .int .u8 32, .int .u8 111, .int .u8 110, .int .u8 108, .int .u8 121, .int .u8 32, .int .u8 111, .int .u8 110, .int .u8 101, .int .u8 32, .int .u8 116, .int .u8 105, .int .u8 112, .int .u8 32, .int .u8 102, .int .u8 111, .int .u8 114, .int .u8 32, .int .u8 116, .int .u8 104, .int .u8 101, .int .u8 32, .int .u8 102, .int .u8 117, .int .u8 116, .int .u8 117, .int .u8 114, .int .u8 101, .int .u8 44, .int .u8 32, .int .u8 115, .int .u8 117, .int .u8 110, .int .u8 115, .int .u8 99, .int .u8 114, .int .u8 101, .int .u8 101, .int .u8 110, .int .u8 32, .int .u8 119, .int .u8 111, .int .u8 117, .int .u8 108, .int .u8 100, .int .u8 32, .int .u8 98, .int .u8 101, .int .u8 32, .int .u8 105, .int .u8 116, .int .u8 46]) : Array Value).toList = u8s textN := rfl
theorem withN_list : ((#[.int .u8 80, .int .u8 81, .int .u8 82, .int .u8 83, .int .u8 192, .int .u8 193, .int .u8 194, .int .u8 195, .int .u8 196, .int .u8 197, .int .u8 198, .int .u8 199]) : Array Value).toList = u8s withN := rfl
theorem nonceN_lit : (u8s nonceN).toArray = #[.int .u8 7, .int .u8 0, .int .u8 0, .int .u8 0, .int .u8 64, .int .u8 65, .int .u8 66, .int .u8 67, .int .u8 68, .int .u8 69, .int .u8 70, .int .u8 71] := rfl
theorem wantN_lit : (u8s wantN).toArray = #[.int .u8 26, .int .u8 225, .int .u8 11, .int .u8 89, .int .u8 79, .int .u8 9, .int .u8 226, .int .u8 106, .int .u8 126, .int .u8 144, .int .u8 46, .int .u8 203, .int .u8 208, .int .u8 96, .int .u8 6, .int .u8 145] := rfl
theorem wpList_vals {P : Program} {ops : Array Oper} {Q : Exit → Act → World → Prop} {rest : List Oper} {o : Oper} {a : Act} {w : World} (hgd : o.guard = none) (v : Value) (w' : World) (hrun : (execOp a.eval o).run P w = .ok (.value v) w') (h : wpList P ops Q rest (a.put o.dst v) w') : wpList P ops Q (o :: rest) a w := by
  refine wpList_plain hgd fun K hK => ?_
  unfold Oper.wp
  rw [hrun]
  exact hK _ _ h
theorem run_convs {P : Program} {ev : Operand → Value} {d : Option Tmp} {t S T : TypeId} {p : String} {af : Array Edge} {gd : Option (Nat × Bool)} {w w' : World} {x : Operand} {v u : Value} (h1 : ev x = v) (hc : (convert S T v).run P w = .ok u w') :
    (execOp ev ⟨d, .convert S T x, t, p, af, gd⟩).run P w = .ok (.value u) w' := by
  simp only [execOp, h1, Sem.run_bind, hc, Result.andThen_ok, Sem.run_pure]
theorem rd_made {w : World} {g : Nat} (hg : g = w.heap.size) (C : Array Value) (e : TypeId) (fr : Nat × Nat) (n : Nat) (l : List Value) (hC : C.toList = l) (hn : l.length = n) : Rd (w.alloc (.cells C e fr)) (some ⟨g, 0, none⟩) n l := by
  subst hg
  have hs : C.size = n := by rw [← Array.length_toList, hC, hn]
  have hg : (w.alloc (.cells C e fr)).heap[w.heap.size]? = some (.cells C e fr) := by
    show (w.heap.push (.cells C e fr))[w.heap.size]? = _
    simp
  have := Rd.of_row hg 0 n (by omega)
  rwa [hC, List.drop_zero, List.take_of_length_le (by simp [hn])] at this
theorem key_byte (k : Nat) (h : k < 32) : (128 : Int) + (k : Int) = ((UInt8.ofNat (128 + k)).toNat : Int) := by
  rw [UInt8.toNat_ofNat']
  omega
set_option maxRecDepth 100000 in
set_option maxHeartbeats 8000000 in
theorem law_aknown (z : Int) (w : World) :
    Calls Try.prog 6 #[.int .i64 z] w fun e w' => e = .returned (.bool true) ∧ Below w.heap.size w w' := by
  have h0 : Arr (w.alloc (.cells (u8s (List.replicate 32 0)).toArray 22)) w.heap.size 22 (u8s (keyAN 0)) := Arr.newAt rfl rfl
  have G0 : Gr w (w.alloc (.cells (u8s (List.replicate 32 0)).toArray 22)) := Gr.alloc _ _
  obtain ⟨i, hi, hie⟩ := wrap_remM z 16 (by omega) (by omega)
  have HIE := Lib.hid hie
  clear hie
  go_enter Try.func6, Try.ntmps6
  go_wp2_with fail
  obtain ⟨g3, hg3⟩ : ∃ g, g = w.heap.size := ⟨_, rfl⟩
  rw [← hg3] at h0
  simp only [← hg3]
  have HG3 := Lib.hid hg3
  clear hg3
  go_simp
  go_loopw [4] (fun v wr => ∃ k : Nat, k ≤ 32 ∧ v = .int .i64 (k : Int) ∧ Arr wr g3 22 (u8s (keyAN k)) ∧ Below w.heap.size w wr) (fun v _ => 32 - (intOf v).toNat)
  case atStart => exact ⟨0, by omega, rfl, h0, G0⟩
  case round =>
    clear h0 G0
    obtain ⟨k, hk, rfl, hA, hB⟩ := hrel
    by_cases hlt : k < 32
    · have hlti : (k : Int) < 32 := by omega
      have hkl := keyAN_length k
      have c9 := hA.cell (i := k) (u8s_at (List.getElem?_eq_getElem (by omega)))
      have f9 := hA.frozen k
      have hA2 := hA.set k (.int .u8 ((UInt8.ofNat (128 + k)).toNat : Int))
      rw [u8s_set] at hA2
      have hg3 : w.heap.size ≤ g3 := Nat.le_of_eq HG3.out.symm
      have hB2 : Below w.heap.size w (wr.setCell ⟨g3, k, none⟩ (.int .u8 ((UInt8.ofNat (128 + k)).toNat : Int))) := hB.trans (below_setCell hg3)
      rw [← key_byte k hlt] at hA2 hB2
      go_wp2_with fail
      exact ⟨⟨k + 1, by omega, by go_num, hA2, hB2⟩, by simp [intOf]; omega⟩
    · obtain rfl : k = 32 := by omega
      have hKl := keyAN_length 32
      obtain ⟨K, hK⟩ : ∃ K, K = keyAN 32 := ⟨_, rfl⟩
      obtain ⟨S, hS⟩ : ∃ S, S = sealL (keyAN 32) nonceN withN textN := ⟨_, rfl⟩
      have hSl : S.length = 130 := by rw [hS]; simp [textN]
      have hSw : S.drop 114 = wantN := by
        have := seal_drop (keyAN 32) nonceN withN textN
        rw [← hS, hSl, knownA_is] at this
        exact this
      rw [← hK] at hA hKl hS
      have HS : Hid (∀ w A B, Rd w A 12 (u8s withN) → Rd w B 114 (u8s textN) → Calls Try.prog 8 #[.agg (u8s K).toArray, .agg (u8s nonceN).toArray, .slice A 12 12, .slice B 114 114] w fun e w' => ∃ v, e = .returned v ∧ w'.ownsRow w.heap.size 5 1 v 130 (u8s S) ∧ Below w.heap.size w w') := by
        intro w A B h1 h2
        rw [hS]
        exact seal_any K hKl nonceN rfl A 12 12 withN B 114 114 textN (by omega) (by omega) (Nat.le_refl _) w h1 h2
      have iK := info22 K hKl
      clear hK hS
      go_upto_region 8 with (refine wpList_new rfl 23 (.tmp 5) (.tmp 19) rfl _ (u8s nonceN) rfl (by rw [nonceN_lit]; rfl) rfl rfl (info24 nonceN rfl) (u8s_oneCell _) ?_; intro wA h5 hGA)
      have h3 := hA.gr hGA
      have hBA : Below w.heap.size w wA := hB.trans (hGA.mono hB.size)
      clear hA hB hGA
      have h5 := h5.alloc (.cells #[.int .u8 80, .int .u8 81, .int .u8 82, .int .u8 83, .int .u8 192, .int .u8 193, .int .u8 194, .int .u8 195, .int .u8 196, .int .u8 197, .int .u8 198, .int .u8 199] 5)
      have h3 := h3.alloc (.cells #[.int .u8 80, .int .u8 81, .int .u8 82, .int .u8 83, .int .u8 192, .int .u8 193, .int .u8 194, .int .u8 195, .int .u8 196, .int .u8 197, .int .u8 198, .int .u8 199] 5)
      have hw6 := rd_made (w := wA) (g := wA.heap.size) rfl #[.int .u8 80, .int .u8 81, .int .u8 82, .int .u8 83, .int .u8 192, .int .u8 193, .int .u8 194, .int .u8 195, .int .u8 196, .int .u8 197, .int .u8 198, .int .u8 199] 5 (0, 0) 12 (u8s withN) withN_list rfl
      have hBB : Below w.heap.size w (wA.alloc (.cells #[.int .u8 80, .int .u8 81, .int .u8 82, .int .u8 83, .int .u8 192, .int .u8 193, .int .u8 194, .int .u8 195, .int .u8 196, .int .u8 197, .int .u8 198, .int .u8 199] 5)) := hBA.alloc hBA.size _
      generalize wA.alloc (.cells #[.int .u8 80, .int .u8 81, .int .u8 82, .int .u8 83, .int .u8 192, .int .u8 193, .int .u8 194, .int .u8 195, .int .u8 196, .int .u8 197, .int .u8 198, .int .u8 199] 5) = wB at h5 h3 hw6 hBB ⊢
      generalize wA.heap.size = g6 at hw6 ⊢
      generalize wr.heap.size = g5 at h5 ⊢
      clear hBA
      have hcv : (convert 26 26 (.slice (some ⟨wB.heap.size, 0, none⟩) 114 114)).run Try.prog (wB.alloc (.cells (u8s textN).toArray 5)) = .ok (.slice (some ⟨wB.heap.size, 0, none⟩) 114 114) (wB.alloc (.cells (u8s textN).toArray 5 (114, 115))) :=
        Lib.run_convert_bytes_const (P := Try.prog) wB 26 5 (u8s textN).toArray 114 114 Try.underlying26 Try.underlying5
      have hc1 := HS.out (wB.alloc (.cells (u8s textN).toArray 5 (114, 115))) (some ⟨g6, 0, none⟩) (some ⟨wB.heap.size, 0, none⟩) ((Gr.alloc _ _).rd hw6) (rd_marked wB (u8s textN).toArray 5 (114, 115) 114 textN (by simp) rfl)
      have hB8 : Below w.heap.size w (wB.alloc (.cells (u8s textN).toArray 5 (114, 115))) := hBB.alloc hBB.size _
      have HB9 : Hid (∀ w7, Below (wB.alloc (.cells (u8s textN).toArray 5 (114, 115))).heap.size (wB.alloc (.cells (u8s textN).toArray 5 (114, 115))) w7 → Below w.heap.size w w7) := fun w7 h => hB8.trans (h.mono hB8.size)
      clear hB8
      refine wp_region_list ?_
      refine wpList_load_mid rfl 22 (.tmp 3) rfl g3 0 (by kernel_rfl) (u8s K) _ h3.range Try.underlying22 rfl iK ?_
      refine wpList_load_mid rfl 23 (.tmp 5) rfl g5 0 (by kernel_rfl) (u8s nonceN) _ h5.range Try.underlying23 rfl (info24 nonceN rfl) ?_
      refine wpList_vals rfl (.slice (some ⟨g6, 0, none⟩) 12 12) wB (by kernel_rfl) ?_
      refine wpList_vals rfl (.slice (some ⟨wB.heap.size, 0, none⟩) 114 114) (wB.alloc (.cells (u8s textN).toArray 5)) (by kernel_rfl) ?_
      refine wpList_vals rfl (.slice (some ⟨wB.heap.size, 0, none⟩) 114 114) (wB.alloc (.cells (u8s textN).toArray 5 (114, 115))) (run_convs (by kernel_rfl) hcv) ?_
      clear hcv
      generalize (u8s textN).toArray = TT at hc1 HB9 ⊢
      unfold wpList
      go_simp
      go_wp2_with fail
      refine .inl (hc1.mono ?_)
      rintro e w7 ⟨v7, rfl, ho7, hB7⟩
      have hB8 := HB9.out _ hB7
      obtain ⟨g7, c7, cs, hv7, _, _, _, hA7, htk⟩ := own_arr ho7 (by omega)
      subst hv7
      obtain ⟨y, hy⟩ : ∃ y, wantN[i]? = some y := ⟨_, List.getElem?_eq_getElem (by exact hi)⟩
      have hc7 : w7.cell? ⟨g7, 114 + i, none⟩ = some (.int .u8 (y.toNat : Int)) := hA7.cell (by
        have h1 : (u8s S)[114 + i]? = some (.int .u8 (y.toNat : Int)) := u8s_at (by rw [← List.getElem?_drop, hSw]; exact hy)
        rw [← htk, List.getElem?_take, if_pos (by omega)] at h1
        exact h1)
      clear htk hSw hA7
      clear hc1 h3 h5 hw6 hBB hB7 ho7 HS iK HB9
      simp only
      refine wpList_vals rfl (.slice (some ⟨g7, 0, none⟩) 130 c7) w7 (by kernel_rfl) ?_
      unfold wpList
      go_simp
      go_upto_region 10 with (refine wpList_new rfl 38 (.tmp 8) (.tmp 27) rfl _ (u8s wantN) rfl (by rw [wantN_lit]; rfl) rfl rfl (info16 wantN rfl) (u8s_oneCell _) ?_; intro w9 h8 hG9)
      have hB9 := hB8.trans (hG9.mono hB8.size)
      replace hc7 := Gr.cell hG9 hc7
      generalize w7.heap.size = g8 at h8 ⊢
      have hc8 := h8.cell (i := i) (u8s_at hy)
      have hie : wrap64 ((IntKind.u64.wrap z).tmod 16) = (i : Int) := HIE.out
      clear hG9 hB8
      go_upto_region 11 with fail
      simp only [hie]
      clear hie
      refine wp_region_ssaL (by kernel_rfl) [IsV (.bool true), IsV (.bool true), IsV (.slice (some ⟨g7, 0, none⟩) 130 c7), IsV (.int .i64 ((130 : Nat) : Int)), IsV (.bool true), IsV (.bool true), IsV (.bool true), IsV (.slice (some ⟨g7, 0, none⟩) 130 c7), IsV (.int .i64 ((i : Nat) : Int)), IsV (.int .i64 ((114 + i : Nat) : Int)), IsV (.pointer (some ⟨g7, (114 + i), none⟩)), IsV (.int .u8 ((y).toNat : Int)), IsV (.int .i64 ((i : Nat) : Int)), IsV (.pointer (some ⟨g8, i, none⟩)), IsV (.int .u8 ((y).toNat : Int)), IsV (.bool true), IsV (.bool true), IsV (.bool true)] (by kernel_rfl) ?_ ?_ ?_
      · intro φ hφ v w1 w2 h hg
        simp only [List.mem_cons, List.not_mem_nil, or_false] at hφ
        rcases hφ with rfl | rfl | rfl | rfl | rfl | rfl | rfl | rfl | rfl | rfl | rfl | rfl | rfl | rfl | rfl | rfl | rfl | rfl
        all_goals first | exact h | exact RdV.gr h hg
      · refine ⟨?_, ?_, ?_, ?_, ?_, ?_, ?_, ?_, ?_, ?_, ?_, ?_, ?_, ?_, ?_, ?_, ?_, ?_, trivial⟩
        · intro a1 w1 hG hF
          exact s_call rfl (wants0 rfl) _ rfl _ _ (by simp only [execOp, resolve, invoke, List.map_toArray, List.map_nil]; go_simp) ((seals_any w1).mono fun e w2 ⟨he, hb⟩ => ⟨_, he, rfl, hb⟩)
        · intro a1 w1 hG hF
          exact s_same rfl (wants0 rfl) (.tmp 32) (.inr rfl) (hF.dp 0 32 (by kernel_rfl))
        · intro a1 w1 hG hF
          exact s_old rfl (wantsG hF 1 33 true rfl (by kernel_rfl) rfl) (.tmp 7) (.inr rfl) (.slice (some ⟨g7, 0, none⟩) 130 c7) (hF.ol 7 (by kernel_rfl)) rfl
        · intro a1 w1 hG hF
          obtain ⟨_, e34, rfl⟩ := hF.dp 2 34 (by kernel_rfl)
          exact s_is rfl (wantsG hF 1 33 true rfl (by kernel_rfl) rfl) _ rfl (run_len_slice Try.underlying26 e34)
        · intro a1 w1 hG hF
          obtain ⟨_, e35, rfl⟩ := hF.dp 3 35 (by kernel_rfl)
          exact s_is rfl (wantsG hF 1 33 true rfl (by kernel_rfl) rfl) _ rfl (by simp only [execOp, e35]; go_simp)
        · intro a1 w1 hG hF
          obtain ⟨_, e33, rfl⟩ := hF.dp 1 33 (by kernel_rfl)
          obtain ⟨_, e36, rfl⟩ := hF.dp 4 36 (by kernel_rfl)
          exact s_pick rfl (wants0 rfl) (.tmp 33) (.tmp 36) _ rfl e33 _ e36 rfl
        · intro a1 w1 hG hF
          exact s_same rfl (wants0 rfl) (.tmp 37) (.inr rfl) (hF.dp 5 37 (by kernel_rfl))
        · intro a1 w1 hG hF
          exact s_old rfl (wantsG hF 6 38 true rfl (by kernel_rfl) rfl) (.tmp 7) (.inr rfl) (.slice (some ⟨g7, 0, none⟩) 130 c7) (hF.ol 7 (by kernel_rfl)) rfl
        · intro a1 w1 hG hF
          exact s_old rfl (wantsG hF 6 38 true rfl (by kernel_rfl) rfl) (.tmp 9) (.inr rfl) (.int .i64 ((i : Nat) : Int)) (hF.ol 9 (by kernel_rfl)) rfl
        · intro a1 w1 hG hF
          obtain ⟨_, e40, rfl⟩ := hF.dp 8 40 (by kernel_rfl)
          exact s_is rfl (wantsG hF 6 38 true rfl (by kernel_rfl) rfl) _ rfl (run_addN (a := 114) (b := i) rfl e40 (by omega))
        · intro a1 w1 hG hF
          obtain ⟨_, e39, rfl⟩ := hF.dp 7 39 (by kernel_rfl)
          obtain ⟨_, e41, rfl⟩ := hF.dp 9 41 (by kernel_rfl)
          exact s_is rfl (wantsG hF 6 38 true rfl (by kernel_rfl) rfl) _ rfl (run_idxRow (k := 114 + i) e39 e41 (by omega))
        · intro a1 w1 hG hF
          obtain ⟨_, e42, rfl⟩ := hF.dp 10 42 (by kernel_rfl)
          exact s_is rfl (wantsG hF 6 38 true rfl (by kernel_rfl) rfl) _ rfl (run_load1 Try.underlying5 e42 (Gr.cell ((Gr.drew w9).trans hG) hc7))
        · intro a1 w1 hG hF
          exact s_old rfl (wantsG hF 6 38 true rfl (by kernel_rfl) rfl) (.tmp 9) (.inr rfl) (.int .i64 ((i : Nat) : Int)) (hF.ol 9 (by kernel_rfl)) rfl
        · intro a1 w1 hG hF
          have e8 : a1.eval (.tmp 8) = .pointer (some ⟨g8, 0, none⟩) := hF.ol 8 (by kernel_rfl)
          obtain ⟨_, e44, rfl⟩ := hF.dp 12 44 (by kernel_rfl)
          exact s_is rfl (wantsG hF 6 38 true rfl (by kernel_rfl) rfl) _ rfl (run_idx Try.underlying38 (by kernel_rfl) e8 e44 (by omega))
        · intro a1 w1 hG hF
          obtain ⟨_, e45, rfl⟩ := hF.dp 13 45 (by kernel_rfl)
          exact s_is rfl (wantsG hF 6 38 true rfl (by kernel_rfl) rfl) _ rfl (run_load1 Try.underlying5 e45 (Gr.cell ((Gr.drew w9).trans hG) hc8))
        · intro a1 w1 hG hF
          obtain ⟨_, e43, rfl⟩ := hF.dp 11 43 (by kernel_rfl)
          obtain ⟨_, e46, rfl⟩ := hF.dp 14 46 (by kernel_rfl)
          exact s_is rfl (wantsG hF 6 38 true rfl (by kernel_rfl) rfl) _ rfl (by simp only [execOp, e43, e46]; go_simp)
        · intro a1 w1 hG hF
          obtain ⟨_, e38, rfl⟩ := hF.dp 6 38 (by kernel_rfl)
          obtain ⟨_, e47, rfl⟩ := hF.dp 15 47 (by kernel_rfl)
          exact s_pick rfl (wants0 rfl) (.tmp 38) (.tmp 47) _ rfl e38 _ e47 rfl
        · intro a1 w1 hG hF
          exact s_same rfl (wants0 rfl) (.tmp 48) (.inl rfl) (hF.dp 16 48 (by kernel_rfl))
      · intro vs w1 hG hf
        have z2 : vs 17 = .bool true := hf.2.2.2.2.2.2.2.2.2.2.2.2.2.2.2.2.2.1
        clear hf
        simp only [putAll, Nat.zero_add, Nat.reduceAdd, z2]
        go_simp
        go_wp2_with fail
        go_ret
        exact ⟨rfl, hB9.trans (((Gr.drew w9).trans hG).mono hB9.size)⟩
end Go.Proofs.Ythffodfnnjejnaa

