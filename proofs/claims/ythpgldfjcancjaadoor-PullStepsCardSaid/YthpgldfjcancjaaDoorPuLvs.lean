/- The walk of pull.Leaves. No condition. -/
import Derived.Test.YthpgldfjcancjaaDoorPuUnl
import Derived.Test.YthpgldfjcancjaaDoorMkNil2
namespace Go.Proofs.YthpgldfjcancjaaDoor
open Go.RowKit
/-- The digests of some nodes of a level. -/
def dN (R : Rw) (l : Nat) (at_ : List Nat) (i : Nat) : Nm := ⟨nodeR R (4 - l) (at_.getD i 0), nodeR_length _ _ _⟩
theorem range_getD {α : Type} (f : Nat → List α) : ∀ at_ : List Nat, ((List.range at_.length).flatMap fun j => f (at_.getD j 0)) = at_.flatMap f
  | [] => rfl
  | x :: at_ => by
    rw [List.length_cons, List.range_succ_eq_map, List.flatMap_cons, List.flatMap_map, List.flatMap_cons, ← range_getD f at_]
    rfl
theorem outU_tree (R S : Rw) (l : Nat) (at_ : List Nat) {n : Nat} (hn : n = at_.length) : outU (dN R l at_) (dN S l at_) at_ l n = unlikeL R S l at_ := by
  subst hn
  exact range_getD (fun n => if nodeR R (4 - l) n = nodeR S (4 - l) n then [] else belowL l n) at_
theorem nodeq_tree {w : World} {g b n : Nat} {R : Rw} (h : TreeIs w g b n R) {l : Nat} (hl : l < 5) {at_ : List Nat} (hat : ∀ x ∈ at_, x < 4 ^ l) : NodeQ (some ⟨g, 0, none⟩) (l : Int) (at_.map fun x : Nat => (x : Int)) (fun _ => true) (dN R l at_) w := by
  intro i z hz w1 hG
  rw [List.getElem?_map] at hz
  obtain ⟨x, hx, rfl⟩ := Option.map_eq_some_iff.1 hz
  have h1 := node_is (h.gr hG) l x hl (hat x (List.mem_of_getElem? hx))
  have e : (dN R l at_ i).1 = nodeR R (4 - l) x := by
    show nodeR R (4 - l) (at_.getD i 0) = _
    rw [List.getD_eq_getElem?_getD, hx]
    rfl
  simp only [if_true]
  rw [e]
  exact h1
theorem nodeq_nil (lv : Int) (zs : List Int) (D : Nat → Nm) (w : World) : NodeQ none lv zs (fun _ => false) D w := fun _ z _ w1 _ => node_nil lv z w1
/-- The loop over the levels. -/
def LvsR (R S : Rw) (w0 : World) (v7 v8 v13 : Value) (w : World) : Prop := ∃ (l m : Nat) (A : Option Addr) (c : Nat), l ≤ 5 ∧ m = (levelL R S l).length ∧ v7 = .slice A m c ∧ v8 = .int .i64 (toldL R S l : Int) ∧ v13 = .int .i64 (l : Int) ∧ w.ownsRow w0.heap.size 3 1 (.slice A m c) m (intV (levelL R S l)) ∧ Gr w0 w
theorem LvsR.out {R S : Rw} {w0 : World} {v7 v8 v13 : Value} {w : World} (h : LvsR R S w0 v7 v8 v13 w) : ∃ (l m : Nat) (A : Option Addr) (c : Nat), l ≤ 5 ∧ m = (levelL R S l).length ∧ v7 = .slice A m c ∧ v8 = .int .i64 (toldL R S l : Int) ∧ v13 = .int .i64 (l : Int) ∧ w.ownsRow w0.heap.size 3 1 (.slice A m c) m (intV (levelL R S l)) ∧ Gr w0 w := h
/-- What Leaves answers. -/
def LvsQ (R S : Rw) (w : World) (e : Ending) (w' : World) : Prop := ∃ (A : Option Addr) (m c : Nat), e = .returned (.tuple #[.slice A m c, .int .i64 (toldL R S 5 : Int), .int .i64 0]) ∧ m = (levelL R S 5).length ∧ w'.ownsRow w.heap.size 3 1 (.slice A m c) m (intV (levelL R S 5)) ∧ Gr w w'
set_option maxRecDepth 100000 in
set_option maxHeartbeats 8000000 in
theorem leaves_any {w : World} {g b n g' b' n' : Nat} {R S : Rw} (hR : TreeIs w g b n R) (hS : TreeIs w g' b' n' S) :
    Calls Tryd.prog 7 #[.pointer (some ⟨g, 0, none⟩), .pointer (some ⟨g', 0, none⟩)] w fun e w' => LvsQ R S w e w' := by
  have HR := Lib.hid hR
  have HS := Lib.hid hS
  clear hR hS
  go_enter Tryd.func7, Tryd.ntmps7
  go_upto_region 3 with fail
  have h0 : Arr (w.alloc (.cells #[.int .i64 0] 3)) w.heap.size 3 [.int .i64 ((0 : Nat) : Int)] := Arr.newAt rfl rfl
  have ho0 : (w.alloc (.cells #[.int .i64 0] 3)).ownsRow w.heap.size 3 1 (.slice (some ⟨w.heap.size, 0, none⟩) 1 1) 1 (intV [0]) := own_arr1 h0 (Nat.le_refl _)
  have hG0 : Gr w (w.alloc (.cells #[.int .i64 0] 3)) := Gr.alloc _ _
  try change Code.wp _ _ _ _ (w.alloc (.cells #[.int .i64 0] 3))
  generalize w.alloc (.cells #[.int .i64 0] 3) = w0 at h0 ho0 hG0 ⊢
  have HST : Hid (LvsR R S w (.slice (some ⟨w.heap.size, 0, none⟩) 1 1) (.int .i64 0) (.int .i64 0) w0) := Lib.hid ⟨0, 1, _, _, by omega, rfl, rfl, rfl, rfl, ho0, hG0⟩
  clear h0 ho0 hG0
  go_loopw [7, 8, 13] (fun v7 v8 v13 wr => LvsR R S w v7 v8 v13 wr) (fun _ _ v13 _ => 5 - (intOf v13).toNat)
  case atStart => exact HST.out
  case round =>
    obtain ⟨l, m, A, c, hl, hm, rfl, rfl, rfl, ho, hG⟩ := LvsR.out hrel
    have hml := levelL_length R S l
    have htl := toldL_le R S l
    have HM := Lib.hid hm
    clear hrel hm
    by_cases hl5 : l < 5
    · have hp : 4 ^ l ≤ 4 ^ 4 := Nat.pow_le_pow_right (by omega) (by omega)
      have hm256 : m ≤ 256 := by have := HM.out; omega
      have ht : toldL R S l ≤ 2000 := by
        have h1 : l * 4 ^ l ≤ 4 * 4 ^ 4 := Nat.mul_le_mul (by omega) hp
        omega
      obtain ⟨T, hT⟩ : ∃ T, T = toldL R S l := ⟨_, rfl⟩
      have hTs : toldL R S (l + 1) = T + m := by rw [hT, HM.out]; rfl
      rw [← hT] at ht ⊢
      have HTS := Lib.hid hTs
      obtain ⟨at_, hat⟩ : ∃ a, a = levelL R S l := ⟨_, rfl⟩
      have hlt : ∀ x ∈ at_, x < 4 ^ l := by rw [hat]; exact levelL_lt R S l (by omega)
      have hlt2 : ∀ x ∈ at_, x < 256 := fun x hx => Nat.lt_of_lt_of_le (hlt x hx) hp
      rw [← hat] at ho
      have hma : m = at_.length := by rw [hat]; exact HM.out
      have hrd := Rd.of_own ho
      have hou := outU_tree R S l at_ hma
      have hls : levelL R S (l + 1) = unlikeL R S l at_ := by rw [hat]; rfl
      have HTell : Hid (Calls Tryd.prog 13 #[.pointer (some ⟨g', 0, none⟩), .int .i64 (l : Int), .slice A m c] wr fun e w' => ∃ A c, e = .returned (.tuple #[.slice A m c, .int .i64 0]) ∧ NmR w' A m (digs (dN S l at_) m) ∧ Gr wr w') := Lib.hid ((tell_any (nodeq_tree (HS.out.gr hG) hl5 hlt) (by rw [List.map_map]; exact hrd) (by omega)).mono fun e w' h => by
        rcases h with ⟨_, ⟨A, c, h2, h4⟩, h3⟩ | ⟨⟨j, _, hf⟩, _⟩
        · exact ⟨A, c, h2, nmr_own h4 (digs_length _ m), h3⟩
        · cases hf)
      have HUn : Hid (∀ w1 Ao co, Gr wr w1 → NmR w1 Ao m (digs (dN S l at_) m) → Calls Tryd.prog 14 #[.pointer (some ⟨g, 0, none⟩), .int .i64 (l : Int), .slice A m c, .slice Ao m co] w1 fun e w' => ∃ A' m' c', e = .returned (.tuple #[.slice A' m' c', .int .i64 0]) ∧ LvsR R S w (.slice A' m' c') (.int .i64 ((T : Int) + (m : Int))) (.int .i64 ((l : Int) + 1)) w') := Lib.hid (fun w1 Ao co hG1 hE => (unlike_any (nodeq_tree ((HR.out.gr hG).gr hG1) hl5 hlt) (hG1.rd hrd) (by omega) hE l (fun _ => ⟨rfl, hl5⟩) hlt2).mono fun e w' ⟨A', m', c', h1, h2, h3, h4⟩ => by
        rw [hou, ← hls] at h2 h3
        exact ⟨A', m', c', h1, l + 1, m', A', c', by omega, h2, rfl, by rw [hTs]; simp, by simp, own_base h3 (hG.trans hG1).size, (hG.trans hG1).trans h4⟩)
      have hcl : (l : Int) < 5 := by omega
      clear hT hTs hat hlt hlt2 hma hrd hou hls ho HR HS hml htl hp
      go_wp2_with first
        | (go_at_call 13; refine HTell.out.mono ?_; rintro e w1 ⟨Ao, co, rfl, hNm, hG1⟩)
        | (go_at_call 14; refine (HUn.out _ _ _ hG1 hNm).mono ?_; rintro e w2 ⟨A', m', c', rfl, hR2⟩)
      exact ⟨hR2, by simp only [intOf]; omega⟩
    · have hl5' : l = 5 := by omega
      have hcl : ¬ (l : Int) < 5 := by omega
      have HQ : Hid (LvsQ R S w (.returned (.tuple #[.slice A m c, .int .i64 (toldL R S l : Int), .int .i64 0])) wr) := Lib.hid (by
        subst hl5'
        exact ⟨A, m, c, rfl, HM.out, ho, hG⟩)
      clear hl5' hl5 ho hG hml htl
      go_wp2_with fail
      refine bodyPost_ret (results_tmp3 rfl _ _ _) rfl ?_
      exact HQ.out
set_option maxRecDepth 100000 in
set_option maxHeartbeats 8000000 in
theorem leaves_nil2 {w : World} (q : Option Addr) :
    Calls Tryd.prog 7 #[.pointer q, .pointer none] w fun e w' => e = .returned (.tuple #[.slice none 0 0, .int .i64 0, .int .i64 1]) ∧ Gr w w' := by
  go_enter Tryd.func7, Tryd.ntmps7
  go_upto_region 3 with fail
  have h0 : Arr (w.alloc (.cells #[.int .i64 0] 3)) w.heap.size 3 [.int .i64 ((0 : Nat) : Int)] := Arr.newAt rfl rfl
  have ho0 : (w.alloc (.cells #[.int .i64 0] 3)).ownsRow w.heap.size 3 1 (.slice (some ⟨w.heap.size, 0, none⟩) 1 1) 1 (intV [0]) := own_arr1 h0 (Nat.le_refl _)
  have hG0 : Gr w (w.alloc (.cells #[.int .i64 0] 3)) := Gr.alloc _ _
  try change Code.wp _ _ _ _ (w.alloc (.cells #[.int .i64 0] 3))
  generalize w.alloc (.cells #[.int .i64 0] 3) = w0 at h0 ho0 hG0 ⊢
  have hrd := Rd.of_own ho0
  clear h0 ho0
  go_loopw [7, 8, 13] (fun v7 v8 v13 wr => v7 = .slice (some ⟨w.heap.size, 0, none⟩) 1 1 ∧ v8 = .int .i64 0 ∧ v13 = .int .i64 0 ∧ Hid (wr = w0)) (fun _ _ _ _ => 0)
  case atStart => exact ⟨rfl, rfl, rfl, Lib.hid rfl⟩
  case round =>
    obtain ⟨rfl, rfl, rfl, hw⟩ := hrel
    rw [hw.out]
    clear hw
    have HTell : Hid (Calls Tryd.prog 13 #[.pointer none, .int .i64 0, .slice (some ⟨w.heap.size, 0, none⟩) 1 1] w0 fun e w' => e = .returned (.tuple #[.slice none 0 0, .int .i64 1]) ∧ Gr w0 w') := Lib.hid ((tell_any (zs := [0]) (D := fun _ => ⟨Z32, rfl⟩) (nodeq_nil 0 [0] _ w0) hrd (by omega)).mono fun e w' h => by
      rcases h with ⟨h1, _⟩ | ⟨_, h2, h3⟩
      · exact absurd (h1 0 (by omega)) (by decide)
      · exact ⟨h2, h3⟩)
    go_wp2_with (go_at_call 13; refine HTell.out.mono ?_; rintro e w1 ⟨rfl, hG1⟩)
    refine bodyPost_ret (results_tmp3 rfl _ _ _) rfl ?_
    exact ⟨rfl, hG0.trans hG1⟩
set_option maxRecDepth 100000 in
set_option maxHeartbeats 8000000 in
theorem leaves_nil1 {w : World} {g' b' n' : Nat} {S : Rw} (hS : TreeIs w g' b' n' S) :
    Calls Tryd.prog 7 #[.pointer none, .pointer (some ⟨g', 0, none⟩)] w fun e w' => e = .returned (.tuple #[.slice none 0 0, .int .i64 0, .int .i64 1]) ∧ Gr w w' := by
  have HS := Lib.hid hS
  clear hS
  go_enter Tryd.func7, Tryd.ntmps7
  go_upto_region 3 with fail
  have h0 : Arr (w.alloc (.cells #[.int .i64 0] 3)) w.heap.size 3 [.int .i64 ((0 : Nat) : Int)] := Arr.newAt rfl rfl
  have ho0 : (w.alloc (.cells #[.int .i64 0] 3)).ownsRow w.heap.size 3 1 (.slice (some ⟨w.heap.size, 0, none⟩) 1 1) 1 (intV [0]) := own_arr1 h0 (Nat.le_refl _)
  have hG0 : Gr w (w.alloc (.cells #[.int .i64 0] 3)) := Gr.alloc _ _
  try change Code.wp _ _ _ _ (w.alloc (.cells #[.int .i64 0] 3))
  generalize w.alloc (.cells #[.int .i64 0] 3) = w0 at h0 ho0 hG0 ⊢
  have hrd := Rd.of_own ho0
  clear h0 ho0
  go_loopw [7, 8, 13] (fun v7 v8 v13 wr => v7 = .slice (some ⟨w.heap.size, 0, none⟩) 1 1 ∧ v8 = .int .i64 0 ∧ v13 = .int .i64 0 ∧ Hid (wr = w0)) (fun _ _ _ _ => 0)
  case atStart => exact ⟨rfl, rfl, rfl, Lib.hid rfl⟩
  case round =>
    obtain ⟨rfl, rfl, rfl, hw⟩ := hrel
    rw [hw.out]
    clear hw
    have HTell : Hid (Calls Tryd.prog 13 #[.pointer (some ⟨g', 0, none⟩), .int .i64 0, .slice (some ⟨w.heap.size, 0, none⟩) 1 1] w0 fun e w' => ∃ A c, e = .returned (.tuple #[.slice A 1 c, .int .i64 0]) ∧ Gr w0 w') := Lib.hid ((tell_any (nodeq_tree (HS.out.gr hG0) (l := 0) (by omega) (at_ := [0]) (by intro x hx; simp at hx; omega)) hrd (by omega)).mono fun e w' h => by
      rcases h with ⟨_, ⟨A, c, h2, _⟩, h3⟩ | ⟨⟨j, _, hf⟩, _⟩
      · exact ⟨A, c, h2, h3⟩
      · cases hf)
    have HUn : Hid (∀ w1 Ao co, Gr w0 w1 → Calls Tryd.prog 14 #[.pointer none, .int .i64 0, .slice (some ⟨w.heap.size, 0, none⟩) 1 1, .slice Ao 1 co] w1 fun e w' => e = .returned (.tuple #[.slice none 0 0, .int .i64 1]) ∧ Gr w1 w') := Lib.hid (fun w1 Ao co hG1 => unlike_no (zs := [0]) (D := fun _ => ⟨Z32, rfl⟩) (nodeq_nil 0 [0] _ w1) (hG1.rd hrd) (by omega) ⟨0, by omega, rfl⟩)
    go_wp2_with first
      | (go_at_call 13; refine HTell.out.mono ?_; rintro e w1 ⟨Ao, co, rfl, hG1⟩)
      | (go_at_call 14; refine (HUn.out _ _ _ hG1).mono ?_; rintro e w2 ⟨rfl, hG2⟩)
    refine bodyPost_ret (results_tmp3 rfl _ _ _) rfl ?_
    exact ⟨rfl, hG0.trans (hG1.trans hG2)⟩
end Go.Proofs.YthpgldfjcancjaaDoor
