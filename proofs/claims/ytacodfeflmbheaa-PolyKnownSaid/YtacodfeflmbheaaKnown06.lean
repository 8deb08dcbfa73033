/- The walk of the law PolyKnown. No condition. -/
import Derived.Test.YtacodfeflmbheaaTags06
namespace Go.Proofs.Ytacodfeflmbheaa
open Go.RowKit
def keyK : List UInt8 := [133, 214, 190, 120, 87, 85, 109, 51, 127, 68, 82, 254, 66, 213, 6, 168, 1, 3, 128, 138, 251, 13, 178, 253, 74, 191, 246, 175, 65, 73, 245, 27]
def wantK : List UInt8 := [168, 6, 29, 193, 48, 81, 54, 198, 194, 43, 139, 175, 12, 1, 39, 169]
def textK : List UInt8 := [67, 114, 121, 112, 116, 111, 103, 114, 97, 112, 104, 105, 99, 32, 70, 111, 114, 117, 109, 32, 82, 101, 115, 101, 97, 114, 99, 104, 32, 71, 114, 111, 117, 112]
set_option maxRecDepth 10000 in
theorem known_is : tagL keyK textK = wantK := by decide +kernel
theorem keyK_lit : (u8s keyK).toArray = #[.int .u8 133, .int .u8 214, .int .u8 190, .int .u8 120, .int .u8 87, .int .u8 85, .int .u8 109, .int .u8 51, .int .u8 127, .int .u8 68, .int .u8 82, .int .u8 254, .int .u8 66, .int .u8 213, .int .u8 6, .int .u8 168, .int .u8 1, .int .u8 3, .int .u8 128, .int .u8 138, .int .u8 251, .int .u8 13, .int .u8 178, .int .u8 253, .int .u8 74, .int .u8 191, .int .u8 246, .int .u8 175, .int .u8 65, .int .u8 73, .int .u8 245, .int .u8 27] := by kernel_rfl
theorem wantK_lit : (u8s wantK).toArray = #[.int .u8 168, .int .u8 6, .int .u8 29, .int .u8 193, .int .u8 48, .int .u8 81, .int .u8 54, .int .u8 198, .int .u8 194, .int .u8 43, .int .u8 139, .int .u8 175, .int .u8 12, .int .u8 1, .int .u8 39, .int .u8 169] := by kernel_rfl
theorem textK_lit : (u8s textK).toArray = #[.int .u8 67, .int .u8 114, .int .u8 121, .int .u8 112, .int .u8 116, .int .u8 111, .int .u8 103, .int .u8 114, .int .u8 97, .int .u8 112, .int .u8 104, .int .u8 105, .int .u8 99, .int .u8 32, .int .u8 70, .int .u8 111, .int .u8 114, .int .u8 117, .int .u8 109, .int .u8 32, .int .u8 82, .int .u8 101, .int .u8 115, .int .u8 101, .int .u8 97, .int .u8 114, .int .u8 99, .int .u8 104, .int .u8 32, .int .u8 71, .int .u8 114, .int .u8 111, .int .u8 117, .int .u8 112] := by kernel_rfl
theorem keyK_list : (#[.int .u8 133, .int .u8 214, .int .u8 190, .int .u8 120, .int .u8 87, .int .u8 85, .int .u8 109, .int .u8 51, .int .u8 127, .int .u8 68, .int .u8 82, .int .u8 254, .int .u8 66, .int .u8 213, .int .u8 6, .int .u8 168, .int .u8 1, .int .u8 3, .int .u8 128, .int .u8 138, .int .u8 251, .int .u8 13, .int .u8 178, .int .u8 253, .int .u8 74, .int .u8 191, .int .u8 246, .int .u8 175, .int .u8 65, .int .u8 73, .int .u8 245, .int .u8 27] : Array Value).toList = u8s keyK := by rw [← keyK_lit]
theorem wantK_list : (#[.int .u8 168, .int .u8 6, .int .u8 29, .int .u8 193, .int .u8 48, .int .u8 81, .int .u8 54, .int .u8 198, .int .u8 194, .int .u8 43, .int .u8 139, .int .u8 175, .int .u8 12, .int .u8 1, .int .u8 39, .int .u8 169] : Array Value).toList = u8s wantK := by rw [← wantK_lit]
theorem textK_list : (#[.int .u8 67, .int .u8 114, .int .u8 121, .int .u8 112, .int .u8 116, .int .u8 111, .int .u8 103, .int .u8 114, .int .u8 97, .int .u8 112, .int .u8 104, .int .u8 105, .int .u8 99, .int .u8 32, .int .u8 70, .int .u8 111, .int .u8 114, .int .u8 117, .int .u8 109, .int .u8 32, .int .u8 82, .int .u8 101, .int .u8 115, .int .u8 101, .int .u8 97, .int .u8 114, .int .u8 99, .int .u8 104, .int .u8 32, .int .u8 71, .int .u8 114, .int .u8 111, .int .u8 117, .int .u8 112] : Array Value).toList = u8s textK := by rw [← textK_lit]
theorem rd_marked' {w : World} {H : Nat} (hH : w.heap.size = H) (C : Array Value) (e : TypeId) (fr : Nat × Nat) (n : Nat) (l : List UInt8) (hC : C.toList = u8s l) (hn : l.length = n) : Rd (w.alloc (.cells C e fr)) (some ⟨H, 0, none⟩) n (u8s l) := by
  subst hH; exact rd_marked w C e fr n l hC hn
theorem wrap_rem (z : Int) (m : Nat) (hm : 0 < m) (hm2 : m < 1000) : ∃ i : Nat, i < m ∧ wrap64 ((IntKind.u64.wrap z).tmod m) = i := by
  have h0 : 0 ≤ z % 18446744073709551616 := Int.emod_nonneg _ (by omega)
  have h1 := Int.emod_lt_of_pos (z % 18446744073709551616) (b := m) (by omega)
  have h2 := Int.emod_nonneg (z % 18446744073709551616) (b := m) (by omega)
  refine ⟨((z % 18446744073709551616) % m).toNat, by omega, ?_⟩
  rw [IntKind.wrap_u64, Int.tmod_eq_emod_of_nonneg h0, Int.toNat_of_nonneg h2]
  exact IntWalk.wrap64_in _ (by omega)
set_option maxRecDepth 100000 in
set_option maxHeartbeats 4000000 in
theorem law_known (z : Int) (w : World) :
    Calls Try.prog 5 #[.int .i64 z] w fun e w' => e = .returned (.bool true) ∧ Below w.heap.size w w' := by
  have hc1 := fun w A c hnc hr => polyTag_any keyK rfl A 34 c textK hnc w hr
  rw [known_is] at hc1
  go_enter Try.func5, Try.ntmps5
  go_wp2_with first
    | (refine wpList_new rfl 22 (.tmp 3) (.tmp 7) rfl _ (u8s keyK) rfl (by rw [keyK_lit]; rfl) rfl rfl (info22 keyK rfl) (u8s_oneCell _) ?_; intro wA h3 hGA)
    | (refine wpList_new rfl 24 (.tmp 4) (.tmp 8) rfl _ (u8s wantK) rfl (by rw [wantK_lit]; rfl) rfl rfl (info16 wantK rfl) (u8s_oneCell _) ?_; intro wB h4 hGB; have h3 := h3.gr hGB; have hcv := Lib.run_convert_bytes_const (P := Try.prog) wB 23 5 (u8s textK).toArray 34 34 Try.underlying23 Try.underlying5; simp only [textK_lit] at hcv)
    | (refine wpList_load_mid rfl 22 (.tmp 3) rfl w.heap.size 0 rfl (u8s keyK) _ h3.range Try.underlying22 rfl (info22 keyK rfl) ?_)
    | (go_at_call 9; refine (hc1 _ _ _ (by omega) (rd_marked' rfl _ _ _ 34 textK textK_list rfl)).mono ?_; rintro e w1 ⟨rfl, hB1⟩)
    | (refine wpList_new rfl 24 (.tmp 5) (.tmp 12) rfl _ (u8s wantK) rfl rfl rfl rfl (info16 wantK rfl) (u8s_oneCell _) ?_; intro w3 h5 hG3)
  obtain ⟨i, hi16, he⟩ := wrap_rem z 16 (by omega) (by omega)
  simp only [show ((16 : Nat) : Int) = 16 from rfl] at he
  simp only [he]
  have hBa : Below w.heap.size w wB := Gr.trans hGA hGB
  have hBb := (hBa.alloc hBa.size _).trans (hB1.mono (by have := hBa.size; simp only [asz]; omega))
  have hBc := hBb.trans (hG3.mono hBb.size)
  have h4 := (Arr.below (h4.alloc _) hB1 (by have := h4.lt; simp only [asz]; omega)).gr hG3
  clear hcv hc1 h3 hBa hBb hB1 hG3 hGA hGB
  generalize wA.heap.size = g4 at h4 ⊢
  generalize w1.heap.size = g5 at h5 ⊢
  generalize w3 = W0 at h4 h5 hBc ⊢
  obtain ⟨y, hy⟩ : ∃ y, wantK[i]? = some y := ⟨_, List.getElem?_eq_getElem (by exact hi16)⟩
  clear he
  refine wp_region_ssaL (by kernel_rfl) [IsV (.bool true), IsV (.bool true), IsV (.int .i64 (i : Nat)), IsV (.pointer (some ⟨g5, i, none⟩)), IsV (.int .u8 (y.toNat : Nat)), IsV (.int .i64 (i : Nat)), IsV (.pointer (some ⟨g4, i, none⟩)), IsV (.int .u8 (y.toNat : Nat)), IsV (.bool true), IsV (.bool true), IsV (.bool true)] (by kernel_rfl) ?_ ?_ ?_
  · intro φ hφ v w1 w2 h hg
    simp only [List.mem_cons, List.not_mem_nil, or_false] at hφ
    rcases hφ with rfl | rfl | rfl | rfl | rfl | rfl | rfl | rfl | rfl | rfl | rfl
    all_goals first | exact h | exact RdV.gr h hg
  · refine ⟨?_, ?_, ?_, ?_, ?_, ?_, ?_, ?_, ?_, ?_, ?_, trivial⟩
    · intro a1 w1 hG hF
      exact s_call rfl (wants0 rfl) _ rfl _ _ (by simp only [execOp, resolve, invoke, List.map_toArray, List.map_nil]; go_simp) ((tags_any w1).mono fun e w2 ⟨he, hb⟩ => ⟨_, he, rfl, hb⟩)
    · intro a1 w1 hG hF
      exact s_same rfl (wants0 rfl) (.tmp 17) (.inr rfl) (hF.dp 0 17 (by kernel_rfl))
    · intro a1 w1 hG hF
      exact s_old rfl (wantsG hF 1 18 true rfl (by kernel_rfl) rfl) (.tmp 6) (.inr rfl) (.int .i64 (i : Nat)) (hF.ol 6 (by kernel_rfl)) rfl
    · intro a1 w1 hG hF
      have e5 : a1.eval (.tmp 5) = .pointer (some ⟨g5, 0, none⟩) := hF.ol 5 (by kernel_rfl)
      obtain ⟨_, e19, rfl⟩ := hF.dp 2 19 (by kernel_rfl)
      exact s_is rfl (wantsG hF 1 18 true rfl (by kernel_rfl) rfl) _ rfl (run_idx Try.underlying24 (by kernel_rfl) e5 e19 (by omega))
    · intro a1 w1 hG hF
      obtain ⟨_, e20, rfl⟩ := hF.dp 3 20 (by kernel_rfl)
      exact s_is rfl (wantsG hF 1 18 true rfl (by kernel_rfl) rfl) _ rfl (run_load1 Try.underlying5 e20 ((h5.gr ((Gr.drew W0).trans hG)).cell (u8s_at hy)))
    · intro a1 w1 hG hF
      exact s_old rfl (wantsG hF 1 18 true rfl (by kernel_rfl) rfl) (.tmp 6) (.inr rfl) (.int .i64 (i : Nat)) (hF.ol 6 (by kernel_rfl)) rfl
    · intro a1 w1 hG hF
      have e4 : a1.eval (.tmp 4) = .pointer (some ⟨g4, 0, none⟩) := hF.ol 4 (by kernel_rfl)
      obtain ⟨_, e22, rfl⟩ := hF.dp 5 22 (by kernel_rfl)
      exact s_is rfl (wantsG hF 1 18 true rfl (by kernel_rfl) rfl) _ rfl (run_idx Try.underlying24 (by kernel_rfl) e4 e22 (by omega))
    · intro a1 w1 hG hF
      obtain ⟨_, e23, rfl⟩ := hF.dp 6 23 (by kernel_rfl)
      exact s_is rfl (wantsG hF 1 18 true rfl (by kernel_rfl) rfl) _ rfl (run_load1 Try.underlying5 e23 ((h4.gr ((Gr.drew W0).trans hG)).cell (u8s_at hy)))
    · intro a1 w1 hG hF
      obtain ⟨_, e21, rfl⟩ := hF.dp 4 21 (by kernel_rfl)
      obtain ⟨_, e24, rfl⟩ := hF.dp 7 24 (by kernel_rfl)
      exact s_is rfl (wantsG hF 1 18 true rfl (by kernel_rfl) rfl) _ rfl (by simp only [execOp, e21, e24]; go_simp)
    · intro a1 w1 hG hF
      obtain ⟨_, e18, rfl⟩ := hF.dp 1 18 (by kernel_rfl)
      obtain ⟨_, e25, rfl⟩ := hF.dp 8 25 (by kernel_rfl)
      exact s_pick rfl (wants0 rfl) (.tmp 18) (.tmp 25) _ rfl e18 _ e25 rfl
    · intro a1 w1 hG hF
      exact s_same rfl (wants0 rfl) (.tmp 26) (.inl rfl) (hF.dp 9 26 (by kernel_rfl))
  · intro vs w1 hG hf
    have z2 : vs 10 = .bool true := hf.2.2.2.2.2.2.2.2.2.2.1
    clear hf
    simp only [putAll, Nat.zero_add, Nat.reduceAdd, z2]
    clear z2
    go_simp
    go_wp2_with fail
    go_ret
    exact ⟨rfl, hBc.trans (((Gr.drew W0).trans hG).mono hBc.size)⟩
end Go.Proofs.Ytacodfeflmbheaa
