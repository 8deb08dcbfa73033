/- The walk of the law's example: what is sealed is opened again. No condition. -/
import Derived.Test.YthffodfnnjejnaaAROpen
import Derived.Lib.SlBytesConst
import Derived.Lib.SmallJoins
namespace Go.Proofs.Ythffodfnnjejnaa
open Go.RowKit
theorem seal_take (K N W b : List UInt8) : (sealL K N W b).take ((sealL K N W b).length - 16) = hideL K N b := by
  rw [sealL_length, Nat.add_sub_cancel, sealL, List.take_append_of_le_length (by simp), List.take_of_length_le (by simp)]
theorem seal_drop (K N W b : List UInt8) : (sealL K N W b).drop ((sealL K N W b).length - 16) = aTag K N W (hideL K N b) := by
  rw [sealL_length, Nat.add_sub_cancel, sealL, List.drop_append_of_le_length (by simp), List.drop_of_length_le (by simp), List.nil_append]
/-- What was sealed is opened. -/
theorem opens_sealed {K N W b : List UInt8} {e : Ending} {w' : World} (h : OpenQ K N W (sealL K N W b) e w') : ∃ A c, e = .returned (.tuple #[.slice A b.length c, .int .i64 0]) ∧ b.length ≤ c ∧ Rd w' A b.length (u8s b) := by
  have hl : (sealL K N W b).length = b.length + 16 := by simp
  rcases h with ⟨h1, _⟩ | ⟨_, h2, _⟩ | ⟨_, _, A, c, he, hc, hr⟩
  · omega
  · rw [seal_take, seal_drop] at h2
    exact absurd rfl h2
  · rw [seal_take, hideL_twice] at hr
    rw [hl, Nat.add_sub_cancel] at he hc hr
    exact ⟨A, c, he, hc, hr⟩
theorem opens_short {K N W s : List UInt8} {e : Ending} {w' : World} (h : OpenQ K N W s e w') (hs : s.length < 16) : e = .returned (.tuple #[.slice none 0 0, .int .i64 2]) := by
  rcases h with ⟨_, he⟩ | ⟨h1, _⟩ | ⟨h1, _⟩
  · exact he
  · omega
  · omega
def key1A : List UInt8 := [1, 0, 0, 0, 0, 0, 0, 0, 0, 0, 0, 0, 0, 0, 0, 0, 0, 0, 0, 0, 0, 0, 0, 0, 0, 0, 0, 0, 0, 0, 0, 0]
def nonce2A : List UInt8 := [2, 0, 0, 0, 0, 0, 0, 0, 0, 0, 0, 0]
def helloA : List UInt8 := [104, 101, 108, 108, 111]
set_option maxRecDepth 100000 in
set_option maxHeartbeats 4000000 in
theorem seals_any (w : World) : Calls Try.prog 10 #[] w fun e w' => e = .returned (.bool true) ∧ Below w.heap.size w w' := by
  have hcv1 := Lib.run_convert_bytes_const (P := Try.prog) w 26 5 #[.int .u8 97] 1 1 Try.underlying26 Try.underlying5
  have hcv2 := Joins.run_convert_bytes_const_at (P := Try.prog) (w.alloc (.cells #[.int .u8 97] 5 (1, 2))) 26 5 #[.int .u8 104, .int .u8 101, .int .u8 108, .int .u8 108, .int .u8 111] 5 5 (w.heap.size + 1) (by simp only [asz]) Try.underlying26 Try.underlying5
  go_enter Try.func10, Try.ntmps10
  go_wp2_with fail
  obtain ⟨S, hS⟩ : ∃ S, S = sealL key1A nonce2A [97] helloA := ⟨_, rfl⟩
  have hSl : S.length = 21 := by rw [hS, sealL_length]; rfl
  have HO : Hid (∀ e w', OpenQ key1A nonce2A [97] S e w' → ∃ A c, e = .returned (.tuple #[.slice A 5 c, .int .i64 0]) ∧ 5 ≤ c ∧ Rd w' A 5 (u8s helloA)) := by
    intro e w' h
    rw [hS] at h
    exact opens_sealed h
  have hc1 := seal_any key1A rfl nonce2A rfl (some ⟨w.heap.size, 0, none⟩) 1 1 [97] (some ⟨w.heap.size + 1, 0, none⟩) 5 5 helloA (by omega) (by omega) (Nat.le_refl _) ((w.alloc (.cells #[.int .u8 97] 5 (1, 2))).alloc (.cells #[.int .u8 104, .int .u8 101, .int .u8 108, .int .u8 108, .int .u8 111] 5 (5, 6)))
    ((Gr.alloc _ _).rd (rd_marked w #[.int .u8 97] 5 (1, 2) 1 [97] rfl rfl)) (by have := rd_marked (w.alloc (.cells #[.int .u8 97] 5 (1, 2))) #[.int .u8 104, .int .u8 101, .int .u8 108, .int .u8 108, .int .u8 111] 5 (5, 6) 5 helloA rfl rfl; rwa [asz] at this)
  rw [← hS] at hc1
  clear hS
  refine hc1.mono ?_
  rintro e w1 ⟨v1, rfl, ho1, hB1⟩
  obtain ⟨A1, c1, rfl, hcc1, _, hr1⟩ := own_form3 ho1
  have hB2 : Gr w w1 := ((Gr.alloc _ _).trans (Gr.alloc _ _)).trans hB1
  clear hc1 hcv1 hcv2 hB1 ho1
  have hcv1 := Lib.run_convert_bytes_const (P := Try.prog) w1 26 5 #[.int .u8 97] 1 1 Try.underlying26 Try.underlying5
  go_wp2_with fail
  refine (open_any key1A rfl nonce2A rfl (some ⟨w1.heap.size, 0, none⟩) 1 1 [97] A1 21 c1 S (by omega) (by omega) (by omega) (w1.alloc (.cells #[.int .u8 97] 5 (1, 2))) (rd_marked w1 #[.int .u8 97] 5 (1, 2) 1 [97] rfl rfl) ((Gr.alloc _ _).rd hr1)).mono ?_
  rintro e w2 ⟨hQ, hB3⟩
  obtain ⟨A2, c2, rfl, hcc2, hr2⟩ := HO.out _ _ hQ
  have hG2 : Gr w1 w2 := (Gr.alloc _ _).trans hB3
  have hr12 := hG2.rd hr1
  have hB4 : Below w.heap.size w w2 := Below.trans hB2 (Below.mono hG2 hB2.size)
  clear hQ hB3 hG2 hr1 hB2 HO hcv1
  have hcut := fun w => run_cut_h (P := Try.prog) Try.underlying26 (by kernel_rfl) (A := A1) (n := 21) (c := c1) (hi := 15) (h := 15) rfl (by omega) w
  have hr15 : Rd w2 A1 15 (u8s (S.take 15)) := by rw [← u8s_take]; exact hr12.take (by omega)
  have hS15 : (S.take 15).length < 16 := by rw [List.length_take]; omega
  go_wp2_with fail
  refine (open_any key1A rfl nonce2A rfl none 0 0 [] A1 15 c1 (S.take 15) (by omega) (by omega) (by omega) w2 (Rd.nil _ _) hr15).mono ?_
  rintro e w3 ⟨hQ, hB5⟩
  obtain rfl := opens_short hQ hS15
  have hr3 : Rd w3 A2 5 (u8s helloA) := hr2.below hB5
  have hB6 := hB4.trans (hB5.mono hB4.size)
  clear hQ hB5 hr15 hS15 hcut hr12 hr2 hB4
  have hcv1 : ∀ c, (convert 26 9 (.slice A2 5 c)).run Try.prog w3 = .ok (.string ⟨#[104, 101, 108, 108, 111]⟩) w3 := fun c => run_str (P := Try.prog) (c := c) w3 Try.underlying26 Try.underlying5 Try.underlying9 hr3
  go_wp2_with fail
  go_ret
  exact ⟨rfl, hB6⟩
end Go.Proofs.Ythffodfnnjejnaa
