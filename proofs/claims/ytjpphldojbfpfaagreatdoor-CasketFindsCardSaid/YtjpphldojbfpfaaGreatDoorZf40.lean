/- Texts of one proof, laid as one: part 40. No condition. -/
import Derived.Lib.SlBytesConst
import Derived.Test.YtjpphldojbfpfaaGreatDoorZf01
import Derived.Test.YtjpphldojbfpfaaGreatDoorZf02
import Derived.Test.YtjpphldojbfpfaaGreatDoorZf04
import Derived.Test.YtjpphldojbfpfaaGreatDoorZf12
import Derived.Test.YtjpphldojbfpfaaGreatDoorZf21
import Derived.Test.YtjpphldojbfpfaaGreatDoorZf34
import Derived.Test.YtjpphldojbfpfaaGreatDoorZf35
import Derived.Test.YtjpphldojbfpfaaGreatDoorZf36
import Derived.Test.YtjpphldojbfpfaaGreatDoorZf37
namespace Go.Proofs.YtjpphldojbfpfaaGreatDoor
open Go.RowKit
theorem run_quo4 {P : Program} {ev : Operand → Value} {d : Option Tmp} {t T U : TypeId} {p : String} {af : Array Edge} {gd : Option (Nat × Bool)} {w : World} {x : Operand} {a r : Nat} (h : a / 4 = r) (ha : a < 9223372036854775808) (h1 : ev x = .int .i64 (a : Int)) (h2 : ev (.const (.int .i64 4)) = .int .i64 4) :
    (execOp ev ⟨d, .binOp .quo T x (.const (.int .i64 4)) U, t, p, af, gd⟩).run P w = .ok (.value (.int .i64 (r : Int))) w := by
  have hq : (a : Int).tdiv 4 = (r : Int) := by rw [← h]; rfl
  have hr : r < 9223372036854775808 := by omega
  simp only [execOp, h1, h2]; go_simp; exact IntWalk.i64_in _ (by omega)
theorem eqAny32 {D E : List UInt8} (hD : D.length = 32) (hE : E.length = 32) (w : World) : (Op.equalIn 10000 35 (.agg (u8s D).toArray) (.agg (u8s E).toArray)).run Tryz.prog w = .ok (D == E) w :=
  run_equalIn_bytes (P := Tryz.prog) w 9998 35 5 32 Tryz.underlying35 Tryz.underlying5 (fun w => by kernel_rfl) D E hD hE
structure MetR (S T : Rw) (a : Nat) (w0 : World) (v7 v8 : Value) (wr : World) : Prop where
  ex : ∃ j : Nat, j ≤ 4 ∧ v7 = .int .i64 ((a / 4 ^ j : Nat) : Int) ∧ v8 = .int .i64 ((4 - j : Nat) : Int) ∧ (∃ k, j ≤ k ∧ k ≤ 4 ∧ nodeR S k (a / 4 ^ k) = nodeR T k (a / 4 ^ k)) ∧ Gr w0 wr
set_option maxRecDepth 100000 in
set_option maxHeartbeats 16000000 in
theorem met_any {g b n g' b' n' : Nat} {S T : Rw} {w : World} (hS : TreeIs w g b n S) (hT : TreeIs w g' b' n' T) {a : Nat} (ha : a < 256) (hm : ∃ k, k ≤ 4 ∧ nodeR S k (a / 4 ^ k) = nodeR T k (a / 4 ^ k)) :
    Calls Tryz.prog 12 #[.pointer (some ⟨g, 0, none⟩), .pointer (some ⟨g', 0, none⟩), .int .i64 (a : Int)] w fun e w' => e = .returned (.bool true) ∧ Gr w w' := by
  have HS := Lib.hid hS; have HT := Lib.hid hT; have HM := Lib.hid hm; clear hS hT hm
  go_enter Tryz.func12, Tryz.ntmps12
  go_upto_region 3 with fail
  go_simp
  go_loopw [7, 8] (fun v7 v8 wr => MetR S T a w v7 v8 wr) (fun _ v _ => (intOf v).toNat)
  case atStart => exact ⟨0, by omega, by simp, rfl, by obtain ⟨k, h1, h2⟩ := HM.out; exact ⟨k, Nat.zero_le _, h1, h2⟩, Gr.refl _⟩
  case round =>
    obtain ⟨j, hj, rfl, rfl, hx, hG⟩ := hrel.ex; clear hrel; have HX := Lib.hid hx; clear hx; obtain ⟨l, hl⟩ : ∃ l, l = 4 - j := ⟨_, rfl⟩; have hl5 : l < 5 := by omega
    have hjl : j = 4 - l := by omega
    have hp4 : a / 4 ^ j < 4 ^ l := by
      rw [Nat.div_lt_iff_lt_mul (Nat.pow_pos (by omega)), ← Nat.pow_add, show l + j = 4 by omega]; omega
    obtain ⟨p, hp⟩ : ∃ p, p = a / 4 ^ j := ⟨_, rfl⟩; have hp1 : p / 4 = a / 4 ^ (j + 1) := by rw [hp, Nat.div_div_eq_div_mul, Nat.pow_succ]
    rw [← hp] at hp4; have HN1 := Lib.hid (node_is (HS.out.gr hG) l p hl5 hp4); have HN2 := Lib.hid (fun w1 (g : Gr wr w1) => node_is (HT.out.gr (hG.trans g)) l p hl5 hp4); rw [← hjl] at HN1 HN2; have hD := nodeR_length S j p; have hE := nodeR_length T j p
    have hpb : p < 9223372036854775808 := by
      have := Nat.div_le_self a (4 ^ j); omega
    have HDE : Hid (nodeR S j p = nodeR T j p ∨ (j < 4 ∧ ∃ k, j + 1 ≤ k ∧ k ≤ 4 ∧ nodeR S k (a / 4 ^ k) = nodeR T k (a / 4 ^ k))) := Lib.hid (by
      obtain ⟨k, h1, h2, h3⟩ := HX.out; rcases Nat.lt_or_ge j k with h | h
      · exact .inr ⟨by omega, k, h, h2, h3⟩
      · obtain rfl : j = k := by omega
        rw [← hp] at h3; exact .inl h3)
    rw [← hp, ← hl]; obtain ⟨D, hD'⟩ : ∃ D, D = nodeR S j p := ⟨_, rfl⟩; obtain ⟨E, hE'⟩ : ∃ E, E = nodeR T j p := ⟨_, rfl⟩; rw [← hD'] at HN1 hD HDE; rw [← hE'] at HN2 hE HDE; have HP1 := Lib.hid hp1; have HJL := Lib.hid hjl
    have hP4 : p / 4 < 256 := by
      have := Nat.div_le_self a (4 ^ (j + 1)); omega
    obtain ⟨p2, hp2⟩ : ∃ p2, p2 = p / 4 := ⟨_, rfl⟩; have HP2 := Lib.hid hp2; have HQ : Hid (p / 4 = p2) := Lib.hid hp2.symm; clear hl hjl hp hp1 hp4 hD' hE' HX hP4 hp2; have hl0 : (0 : Int) ≤ (l : Int) := by omega
    have hEq := eqAny32 hD hE; obtain ⟨bb, hbb⟩ : ∃ bb, bb = (D == E) := ⟨_, rfl⟩; rw [← hbb] at hEq; have HBB := Lib.hid hbb; clear hbb; unfold by32 at HN1 HN2
    go_upto_region 6 with first
      | (go_at_call 27; refine HN1.out.mono ?_; rintro e w1 ⟨rfl, hG1⟩)
      | (refine wpList_new (w := w1) (t := 35) rfl _ _ _ rfl w1.heap.size (u8s D) rfl rfl rfl (by rw [u8s_length, hD]; kernel_rfl) (infoD D hD) (u8s_oneCell _) ?_; intro w2 hA2 hG2)
    have hG12 := hG1.trans hG2; have HN3 := Lib.hid (HN2.out w2 hG12); generalize w1.heap.size = g9 at hA2 ⊢; clear HN1 HN2 hG1 hG2
    go_upto_region 7 with first
      | (go_at_call 27; refine HN3.out.mono ?_; rintro e w3 ⟨rfl, hG3⟩)
      | (refine wpList_new (w := w3) (t := 35) rfl _ _ _ rfl w3.heap.size (u8s E) rfl rfl rfl (by rw [u8s_length, hE]; kernel_rfl) (infoD E hE) (u8s_oneCell _) ?_; intro w4 hA4 hG4)
    have hA24 := hA2.gr (hG3.trans hG4); have hG4w := (hG.trans hG12).trans (hG3.trans hG4); generalize w3.heap.size = g11 at hA4 ⊢; clear HN3 hA2 hG12 hG hG3 hG4; cases bb with
    | true =>
      go_wp2_with first
        | (refine wpList_loadW rfl 35 (.tmp 9) rfl rfl hA24 ⟨_, _, Tryz.underlying35⟩ (infoD D hD) ?_)
        | (refine wpList_loadW rfl 35 (.tmp 11) rfl rfl hA4 ⟨_, _, Tryz.underlying35⟩ (infoD E hE) ?_)
      go_ret
      exact ⟨rfl, hG4w⟩
    | false =>
      have hne : D ≠ E := fun e => by
        have := HBB.out; rw [e, beq_self_eq_true] at this; cases this
      obtain ⟨hj4, hk⟩ : j < 4 ∧ ∃ k, j + 1 ≤ k ∧ k ≤ 4 ∧ nodeR S k (a / 4 ^ k) = nodeR T k (a / 4 ^ k) := by
        rcases HDE.out with e | e
        · exact absurd e hne
        · exact e
      have HK := Lib.hid hk; have hl1 : 1 ≤ l := by have := HJL.out; omega
      have HL : Hid ((l : Int) - 1 = ((4 - (j + 1) : Nat) : Int)) := Lib.hid (by have := HJL.out; omega); have HP3 : Hid (p2 = a / 4 ^ (j + 1)) := Lib.hid (HP2.out.trans HP1.out); clear hne hk
      go_upto_region 9 with first
        | (refine wpList_loadW rfl 35 (.tmp 9) rfl rfl hA24 ⟨_, _, Tryz.underlying35⟩ (infoD D hD) ?_)
        | (refine wpList_loadW rfl 35 (.tmp 11) rfl rfl hA4 ⟨_, _, Tryz.underlying35⟩ (infoD E hE) ?_)
      go_wp2_with (refine wpList_valW rfl (.int .i64 (p2 : Int)) _ (run_quo4 (x := .tmp 35) HQ.out hpb rfl rfl) ?_)
      exact ⟨⟨j + 1, by omega, by rw [HP3.out], by rw [← HL.out], HK.out, hG4w⟩, by simp only [intOf]; omega⟩
end Go.Proofs.YtjpphldojbfpfaaGreatDoor
namespace Go.Proofs.YtjpphldojbfpfaaGreatDoor
open Go.RowKit
def dN (R : Rw) (l : Nat) (at_ : List Nat) (i : Nat) : Nm := ⟨nodeR R (4 - l) (at_.getD i 0), nodeR_length _ _ _⟩
theorem range_getD {α : Type} (f : Nat → List α) : ∀ at_ : List Nat, ((List.range at_.length).flatMap fun j => f (at_.getD j 0)) = at_.flatMap f
  | [] => rfl
  | x :: at_ => by
    rw [List.length_cons, List.range_succ_eq_map, List.flatMap_cons, List.flatMap_map, List.flatMap_cons, ← range_getD f at_]; rfl
theorem outU_tree (R S : Rw) (l : Nat) (at_ : List Nat) {n : Nat} (hn : n = at_.length) : outU (dN R l at_) (dN S l at_) at_ l n = unlikeL R S l at_ := by
  subst hn; exact range_getD (fun n => if nodeR R (4 - l) n = nodeR S (4 - l) n then [] else belowL l n) at_
theorem nodeq_tree {w : World} {g b n : Nat} {R : Rw} (h : TreeIs w g b n R) {l : Nat} (hl : l < 5) {at_ : List Nat} (hat : ∀ x ∈ at_, x < 4 ^ l) : NodeQ (some ⟨g, 0, none⟩) (l : Int) (at_.map fun x : Nat => (x : Int)) (fun _ => true) (dN R l at_) w := by
  intro i z hz w1 hG; rw [List.getElem?_map] at hz; obtain ⟨x, hx, rfl⟩ := Option.map_eq_some_iff.1 hz; have h1 := node_is (h.gr hG) l x hl (hat x (List.mem_of_getElem? hx))
  have e : (dN R l at_ i).1 = nodeR R (4 - l) x := by
    show nodeR R (4 - l) (at_.getD i 0) = _; rw [List.getD_eq_getElem?_getD, hx]; rfl
  simp only [if_true]; rw [e]; exact h1
def LvsR (R S : Rw) (w0 : World) (v7 v8 v13 : Value) (w : World) : Prop := ∃ (l m : Nat) (A : Option Addr) (c : Nat), l ≤ 5 ∧ m = (levelL R S l).length ∧ v7 = .slice A m c ∧ v8 = .int .i64 (toldL R S l : Int) ∧ v13 = .int .i64 (l : Int) ∧ w.ownsRow w0.heap.size 3 1 (.slice A m c) m (intV (levelL R S l)) ∧ Gr w0 w
theorem LvsR.out {R S : Rw} {w0 : World} {v7 v8 v13 : Value} {w : World} (h : LvsR R S w0 v7 v8 v13 w) : ∃ (l m : Nat) (A : Option Addr) (c : Nat), l ≤ 5 ∧ m = (levelL R S l).length ∧ v7 = .slice A m c ∧ v8 = .int .i64 (toldL R S l : Int) ∧ v13 = .int .i64 (l : Int) ∧ w.ownsRow w0.heap.size 3 1 (.slice A m c) m (intV (levelL R S l)) ∧ Gr w0 w := h
def LvsQ (R S : Rw) (w : World) (e : Ending) (w' : World) : Prop := ∃ (A : Option Addr) (m c : Nat), e = .returned (.tuple #[.slice A m c, .int .i64 (toldL R S 5 : Int), .int .i64 0]) ∧ m = (levelL R S 5).length ∧ w'.ownsRow w.heap.size 3 1 (.slice A m c) m (intV (levelL R S 5)) ∧ Gr w w'
set_option maxRecDepth 100000 in
set_option maxHeartbeats 8000000 in
theorem leaves_any {w : World} {g b n g' b' n' : Nat} {R S : Rw} (hR : TreeIs w g b n R) (hS : TreeIs w g' b' n' S) :
    Calls Tryz.prog 11 #[.pointer (some ⟨g, 0, none⟩), .pointer (some ⟨g', 0, none⟩)] w fun e w' => LvsQ R S w e w' := by
  have HR := Lib.hid hR; have HS := Lib.hid hS; clear hR hS
  go_enter Tryz.func11, Tryz.ntmps11
  go_upto_region 3 with fail
  have h0 : Arr (w.alloc (.cells #[.int .i64 0] 3)) w.heap.size 3 [.int .i64 ((0 : Nat) : Int)] := Arr.newAt rfl rfl; have ho0 : (w.alloc (.cells #[.int .i64 0] 3)).ownsRow w.heap.size 3 1 (.slice (some ⟨w.heap.size, 0, none⟩) 1 1) 1 (intV [0]) := own_arr1 h0 (Nat.le_refl _); have hG0 : Gr w (w.alloc (.cells #[.int .i64 0] 3)) := Gr.alloc _ _; try change Code.wp _ _ _ _ (w.alloc (.cells #[.int .i64 0] 3))
  generalize w.alloc (.cells #[.int .i64 0] 3) = w0 at h0 ho0 hG0 ⊢; have HST : Hid (LvsR R S w (.slice (some ⟨w.heap.size, 0, none⟩) 1 1) (.int .i64 0) (.int .i64 0) w0) := Lib.hid ⟨0, 1, _, _, by omega, rfl, rfl, rfl, rfl, ho0, hG0⟩; clear h0 ho0 hG0
  go_loopw [7, 8, 13] (fun v7 v8 v13 wr => LvsR R S w v7 v8 v13 wr) (fun _ _ v13 _ => 5 - (intOf v13).toNat)
  case atStart => exact HST.out
  case round =>
    obtain ⟨l, m, A, c, hl, hm, rfl, rfl, rfl, ho, hG⟩ := LvsR.out hrel; have hml := levelL_length R S l; have htl := toldL_le R S l; have HM := Lib.hid hm; clear hrel hm
    by_cases hl5 : l < 5
    · have hp : 4 ^ l ≤ 4 ^ 4 := Nat.pow_le_pow_right (by omega) (by omega); have hm256 : m ≤ 256 := by have := HM.out; omega
      have ht : toldL R S l ≤ 2000 := by
        have h1 : l * 4 ^ l ≤ 4 * 4 ^ 4 := Nat.mul_le_mul (by omega) hp; omega
      obtain ⟨T, hT⟩ : ∃ T, T = toldL R S l := ⟨_, rfl⟩; have hTs : toldL R S (l + 1) = T + m := by rw [hT, HM.out]; rfl
      rw [← hT] at ht ⊢; have HTS := Lib.hid hTs; obtain ⟨at_, hat⟩ : ∃ a, a = levelL R S l := ⟨_, rfl⟩; have hlt : ∀ x ∈ at_, x < 4 ^ l := by rw [hat]; exact levelL_lt R S l (by omega)
      have hlt2 : ∀ x ∈ at_, x < 256 := fun x hx => Nat.lt_of_lt_of_le (hlt x hx) hp
      rw [← hat] at ho; have hma : m = at_.length := by rw [hat]; exact HM.out
      have hrd := Rd.of_own ho; have hou := outU_tree R S l at_ hma
      have hls : levelL R S (l + 1) = unlikeL R S l at_ := by rw [hat]; rfl
      have HTell : Hid (Calls Tryz.prog 25 #[.pointer (some ⟨g', 0, none⟩), .int .i64 (l : Int), .slice A m c] wr fun e w' => ∃ A c, e = .returned (.tuple #[.slice A m c, .int .i64 0]) ∧ NmR w' A m (digs (dN S l at_) m) ∧ Gr wr w') := Lib.hid ((tell_any (nodeq_tree (HS.out.gr hG) hl5 hlt) (by rw [List.map_map]; exact hrd) (by omega)).mono fun e w' h => by
        rcases h with ⟨_, ⟨A, c, h2, h4⟩, h3⟩ | ⟨⟨j, _, hf⟩, _⟩
        · exact ⟨A, c, h2, nmr_own h4 (digs_length _ m), h3⟩
        · cases hf)
      have HUn : Hid (∀ w1 Ao co, Gr wr w1 → NmR w1 Ao m (digs (dN S l at_) m) → Calls Tryz.prog 26 #[.pointer (some ⟨g, 0, none⟩), .int .i64 (l : Int), .slice A m c, .slice Ao m co] w1 fun e w' => ∃ A' m' c', e = .returned (.tuple #[.slice A' m' c', .int .i64 0]) ∧ LvsR R S w (.slice A' m' c') (.int .i64 ((T : Int) + (m : Int))) (.int .i64 ((l : Int) + 1)) w') := Lib.hid (fun w1 Ao co hG1 hE => (unlike_any (nodeq_tree ((HR.out.gr hG).gr hG1) hl5 hlt) (hG1.rd hrd) (by omega) hE l (fun _ => ⟨rfl, hl5⟩) hlt2).mono fun e w' ⟨A', m', c', h1, h2, h3, h4⟩ => by
        rw [hou, ← hls] at h2 h3; exact ⟨A', m', c', h1, l + 1, m', A', c', by omega, h2, rfl, by rw [hTs]; simp, by simp, own_base h3 (hG.trans hG1).size, (hG.trans hG1).trans h4⟩)
      have hcl : (l : Int) < 5 := by omega
      clear hT hTs hat hlt hlt2 hma hrd hou hls ho HR HS hml htl hp
      go_wp2_with first
        | (go_at_call 25; refine HTell.out.mono ?_; rintro e w1 ⟨Ao, co, rfl, hNm, hG1⟩)
        | (go_at_call 26; refine (HUn.out _ _ _ hG1 hNm).mono ?_; rintro e w2 ⟨A', m', c', rfl, hR2⟩)
      exact ⟨hR2, by simp only [intOf]; omega⟩
    · have hl5' : l = 5 := by omega
      have hcl : ¬ (l : Int) < 5 := by omega
      have HQ : Hid (LvsQ R S w (.returned (.tuple #[.slice A m c, .int .i64 (toldL R S l : Int), .int .i64 0])) wr) := Lib.hid (by
        subst hl5'; exact ⟨A, m, c, rfl, HM.out, ho, hG⟩)
      clear hl5' hl5 ho hG hml htl; go_wp2_with fail
      refine bodyPost_ret (results_tmp3 rfl _ _ _) rfl ?_; exact HQ.out
end Go.Proofs.YtjpphldojbfpfaaGreatDoor
namespace Go.Proofs.YtjpphldojbfpfaaGreatDoor
open Go.RowKit
set_option maxRecDepth 100000 in
set_option maxHeartbeats 4000000 in
theorem stands_any {w : World} (gw : Glob w) : Calls Tryz.prog 9 #[] w fun e w' => e = .returned (.bool true) ∧ Gr w w' := by
  have hcv := fun w => Lib.run_convert_bytes_const (P := Tryz.prog) w 43 5 #[.int .u8 97, .int .u8 98, .int .u8 99] 3 3 Tryz.underlying43 Tryz.underlying5
  go_enter Tryz.func9, Tryz.ntmps9
  go_wp2_with fail
  have hG0 : Gr w ((w.alloc (.cells #[.int .u8 97, .int .u8 98, .int .u8 99] 5 (3, 4))).alloc (.cells #[.slice (some ⟨w.heap.size, 0, none⟩) 3 3] 43)) := (Gr.alloc _ _).trans (Gr.alloc _ _)
  have hP : Parts ((w.alloc (.cells #[.int .u8 97, .int .u8 98, .int .u8 99] 5 (3, 4))).alloc (.cells #[.slice (some ⟨w.heap.size, 0, none⟩) 3 3] 43)) (some ⟨w.heap.size + 1, 0, none⟩) 1 [⟨some ⟨w.heap.size, 0, none⟩, 3, 3, [97, 98, 99]⟩] :=
    parts1 (by simp only [asz]) _ ⟨some ⟨w.heap.size, 0, none⟩, 3, 3, [97, 98, 99]⟩ (rd_made rfl _ _ _ 3 _ rfl rfl) (Nat.le_refl _)
  have HS := Lib.hid (shaSum_any _ 1 1 _ (by omega) [97, 98, 99] rfl (by simp) _ hP (gw.gr hG0)); obtain ⟨D, hD⟩ : ∃ D, D = shaL [97, 98, 99] := ⟨_, rfl⟩; have hDl : D.length = 32 := by rw [hD]; exact shaL_length _
  have d0 : D[0]? = some 186 := by rw [hD]; decide +kernel
  have h0 : (u8s D)[0]? = some (.int .u8 186) := by simp only [u8s, List.getElem?_map, d0]; rfl
  have d1 : D[1]? = some 120 := by rw [hD]; decide +kernel
  have h1 : (u8s D)[1]? = some (.int .u8 120) := by simp only [u8s, List.getElem?_map, d1]; rfl
  have d31 : D[31]? = some 173 := by rw [hD]; decide +kernel
  have h31 : (u8s D)[31]? = some (.int .u8 173) := by simp only [u8s, List.getElem?_map, d31]; rfl
  rw [← hD] at HS; clear hD hP hcv d0 d1 d31; refine HS.out.mono ?_; rintro e w2 ⟨rfl, hB2⟩; have hG2 : Gr w w2 := hG0.trans hB2; have hul : (u8s D).length = 32 := by rw [u8s_length]; exact hDl
  have HID := Lib.hid (show (Tryz.prog.info? 35).map (·.size) = some (u8s D).length by rw [hul]; kernel_rfl); have ho := u8s_oneCell D; clear hB2 hG0 HS gw
  go_upto_region 2 with (refine wpList_new (w := w2) (t := 35) rfl _ _ _ rfl w2.heap.size (u8s D) rfl rfl rfl (by rw [hul]; rfl) HID.out ho ?_; intro w3 hA3 hG3)
  have c0 := hA3.cell h0; have c1 := hA3.cell h1; have c31 := hA3.cell h31; generalize w2.heap.size = g3 at c0 c1 c31 ⊢; clear hA3 h0 h1 h31; go_wp2_with fail
  go_ret
  exact ⟨rfl, hG2.trans hG3⟩
end Go.Proofs.YtjpphldojbfpfaaGreatDoor
