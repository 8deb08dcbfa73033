/- The nodes of a level, whatever numbers are asked for: no condition. -/
import Derived.Test.YthpgldfjcancjaaDoorPuUnl
import Derived.Test.YthpgldfjcancjaaDoorPuLvs
namespace Go.Proofs.YthpgldfjcancjaaDoor
open Go.RowKit
def okZ (lv z : Int) : Bool := decide (0 ≤ lv ∧ lv ≤ 4 ∧ 0 ≤ z ∧ z < 4 ^ lv.toNat)
def okI (lv : Int) (zs : List Int) (i : Nat) : Bool := okZ lv (zs.getD i 0)
def dI (R : Rw) (lv : Int) (zs : List Int) (i : Nat) : Nm := ⟨nodeR R (4 - lv.toNat) (zs.getD i 0).toNat, nodeR_length _ _ _⟩
/-- Is there such a level, and are all nodes of it? -/
def rightB (lv : Int) (zs : List Int) : Bool := decide (0 ≤ lv ∧ lv ≤ 4 ∧ ∀ z ∈ zs, 0 ≤ z ∧ z < 4 ^ lv.toNat)
theorem rightB_nil (lv : Int) : rightB lv [] = decide (0 ≤ lv ∧ lv ≤ 4) := by
  unfold rightB
  simp
theorem rightB_succ {lv z : Int} {zs : List Int} {i : Nat} (h : zs[i]? = some z) (hr : rightB lv (zs.take i) = true) : rightB lv (zs.take (i + 1)) = (decide (0 ≤ z) && decide (z < 4 ^ lv.toNat)) := by
  unfold rightB at hr ⊢
  rw [decide_eq_true_eq] at hr
  obtain ⟨h1, h2, h3⟩ := hr
  rw [List.take_add_one, h]
  rw [Bool.eq_iff_iff, decide_eq_true_eq, Bool.and_eq_true, decide_eq_true_eq, decide_eq_true_eq]
  constructor
  · rintro ⟨_, _, h4⟩
    exact h4 z (by simp)
  · intro h4
    refine ⟨h1, h2, fun y hy => ?_⟩
    rcases List.mem_append.1 hy with hy | hy
    · exact h3 y hy
    · have : y = z := by simpa using hy
      rw [this]
      exact h4
theorem rightB_false {lv : Int} {zs : List Int} {i : Nat} (h : rightB lv (zs.take i) = false) : rightB lv zs = false := by
  unfold rightB at h ⊢
  rw [decide_eq_false_iff_not] at h ⊢
  rintro ⟨h1, h2, h3⟩
  exact h ⟨h1, h2, fun z hz => h3 z (List.mem_of_mem_take hz)⟩
theorem nodeq_int {w : World} {g b n : Nat} {R : Rw} (h : TreeIs w g b n R) (lv : Int) (zs : List Int) : NodeQ (some ⟨g, 0, none⟩) lv zs (okI lv zs) (dI R lv zs) w := by
  intro i z hz w1 hG
  have hzD : zs.getD i 0 = z := by rw [List.getD_eq_getElem?_getD, hz]; rfl
  cases ho : okI lv zs i with
  | true =>
    unfold okI okZ at ho
    rw [hzD, decide_eq_true_eq] at ho
    obtain ⟨h1, h2, h3, h4⟩ := ho
    simp only [if_true]
    have h5 : z.toNat < 4 ^ lv.toNat := by
      have h6 : ((4 ^ lv.toNat : Nat) : Int) = (4 : Int) ^ lv.toNat := by simp
      omega
    have hN := node_is (h.gr hG) lv.toNat z.toNat (by omega) h5
    rw [Int.toNat_of_nonneg h1, Int.toNat_of_nonneg h3] at hN
    have hd : (dI R lv zs i).1 = nodeR R (4 - lv.toNat) z.toNat := by unfold dI; simp only [hzD]
    rw [hd]
    exact hN
  | false =>
    simp only [Bool.false_eq_true, if_false]
    unfold okI okZ at ho
    rw [hzD, decide_eq_false_iff_not] at ho
    exact node_out _ lv z ho w1
/-- Where something is not right, and there is something, a node isn't there. -/
theorem bad_node {lv : Int} {zs : List Int} (h : rightB lv zs = false) (hp : 0 < zs.length) : ∃ j, j < zs.length ∧ okI lv zs j = false := by
  refine Classical.byContradiction fun hn => ?_
  have hall : ∀ j, j < zs.length → okI lv zs j = true := fun j hj => by
    cases ho : okI lv zs j with
    | true => rfl
    | false => exact absurd ⟨j, hj, ho⟩ hn
  unfold rightB at h
  rw [decide_eq_false_iff_not] at h
  apply h
  have h0 := hall 0 hp
  unfold okI okZ at h0
  rw [decide_eq_true_eq] at h0
  refine ⟨h0.1, h0.2.1, fun z hz => ?_⟩
  obtain ⟨j, hj, he⟩ := List.mem_iff_getElem.1 hz
  have h1 := hall j hj
  unfold okI okZ at h1
  rw [decide_eq_true_eq, List.getD_eq_getElem?_getD, List.getElem?_eq_getElem hj, he] at h1
  exact h1.2.2
/-- Where all is right, or there is nothing, the numbers are nodes. -/
theorem good_nodes {lv : Int} {zs : List Int} (h : rightB lv zs = true ∨ zs.length = 0) : ∃ (at_ : List Nat), zs = (at_.map fun x : Nat => (x : Int)) ∧ (0 < zs.length → lv = (lv.toNat : Int) ∧ lv.toNat < 5) ∧ (∀ x ∈ at_, x < 4 ^ lv.toNat) := by
  rcases h with h | h
  · unfold rightB at h
    rw [decide_eq_true_eq] at h
    obtain ⟨h1, h2, h3⟩ := h
    refine ⟨zs.map Int.toNat, ?_, fun _ => ⟨by omega, by omega⟩, fun x hx => ?_⟩
    · rw [List.map_map]
      conv => lhs; rw [← List.map_id zs]
      refine List.map_congr_left fun z hz => ?_
      have := (h3 z hz).1
      show z = ((z.toNat : Nat) : Int)
      omega
    · obtain ⟨z, hz, rfl⟩ := List.mem_map.1 hx
      have h4 := h3 z hz
      have h6 : ((4 ^ lv.toNat : Nat) : Int) = (4 : Int) ^ lv.toNat := by simp
      omega
  · rw [List.length_eq_zero_iff] at h
    subst h
    exact ⟨[], rfl, fun h => absurd h (by simp), fun x hx => by cases hx⟩
theorem nodeq_nat {w : World} {g b n : Nat} {R : Rw} (h : TreeIs w g b n R) {lv : Int} {at_ : List Nat} (hl : 0 < at_.length → lv = (lv.toNat : Int) ∧ lv.toNat < 5) (hat : ∀ x ∈ at_, x < 4 ^ lv.toNat) : NodeQ (some ⟨g, 0, none⟩) lv (at_.map fun x : Nat => (x : Int)) (fun _ => true) (dN R lv.toNat at_) w := by
  rcases Nat.eq_zero_or_pos at_.length with h0 | h0
  · rw [List.length_eq_zero_iff] at h0
    subst h0
    intro i z hz
    simp at hz
  · obtain ⟨h1, h2⟩ := hl h0
    have := nodeq_tree h h2 hat
    rw [← h1] at this
    exact this
theorem ok_all {lv : Int} {zs : List Int} (h : rightB lv zs = true) (j : Nat) (hj : j < zs.length) : okI lv zs j = true := by
  unfold rightB at h
  rw [decide_eq_true_eq] at h
  obtain ⟨h1, h2, h3⟩ := h
  have h4 := h3 zs[j] (List.getElem_mem hj)
  unfold okI okZ
  rw [decide_eq_true_eq, List.getD_eq_getElem?_getD, List.getElem?_eq_getElem hj]
  exact ⟨h1, h2, h4.1, h4.2⟩
/-- What the law's calls answer, whatever numbers were handed in. -/
structure StepsIs (g g' : Nat) (R S : Rw) (lv : Int) (ys : List Int) (A : Option Addr) (k c : Nat) (w : World) (kd : Nat) (er : Int) (UL : List Nat) : Prop where
  few : kd ≤ 8
  tell : Calls Tryd.prog 13 #[.pointer (some ⟨g', 0, none⟩), .int .i64 lv, .slice A k c] w fun e w' => ∃ Ad cd, e = .returned (.tuple #[.slice Ad kd cd, .int .i64 er]) ∧ w'.ownsRow w.heap.size 43 32 (.slice Ad kd cd) kd ((digs (dI S lv ys) kd).flatMap encN) ∧ Gr w w'
  unl : ∀ w1 Ad cd, Gr w w1 → NmR w1 Ad kd (digs (dI S lv ys) kd) → Calls Tryd.prog 14 #[.pointer (some ⟨g, 0, none⟩), .int .i64 lv, .slice A k c, .slice Ad kd cd] w1 fun e w' => ∃ Au m cu, e = .returned (.tuple #[.slice Au m cu, .int .i64 er]) ∧ Hid (m = UL.length) ∧ w'.ownsRow w1.heap.size 3 1 (.slice Au m cu) m (intV UL) ∧ Gr w1 w'
  more : ∀ w1 Ao co, Gr w w1 → Calls Tryd.prog 14 #[.pointer (some ⟨g, 0, none⟩), .int .i64 lv, .slice A k c, .slice Ao (kd + 1) co] w1 fun e w' => e = .returned (.tuple #[.slice none 0 0, .int .i64 1]) ∧ Gr w1 w'
  case : (rightB lv ys = false ∧ 0 < k ∧ kd = 0 ∧ er = 1 ∧ UL = []) ∨
    ((rightB lv ys = true ∨ k = 0) ∧ kd = k ∧ er = 0 ∧ ∃ at_ : List Nat, ys = (at_.map fun x : Nat => (x : Int)) ∧ (0 < k → lv = (lv.toNat : Int) ∧ lv.toNat < 5) ∧ (∀ x ∈ at_, x < 4 ^ lv.toNat) ∧ UL = outU (dN R lv.toNat at_) (dI S lv ys) at_ lv.toNat k)
theorem steps_is {w : World} {g b g' b' n n' : Nat} {R S : Rw} (hR : TreeIs w g b n R) (hS : TreeIs w g' b' n' S) {lv : Int} {ys : List Int} {A : Option Addr} {k c : Nat} (hyl : ys.length = k) (hk8 : k ≤ 8) (hA : Rd w A k (ys.map fun z => Value.int .i64 z)) :
    ∃ kd er UL, StepsIs g g' R S lv ys A k c w kd er UL := by
  have hTell := tell_any (c := c) (nodeq_int hS lv ys) hA (by omega)
  by_cases hb : rightB lv ys = false ∧ 0 < k
  · obtain ⟨hf, hp⟩ := hb
    have hbad := bad_node hf (by omega)
    rw [hyl] at hbad
    refine ⟨0, 1, [], by omega, hTell.mono fun e w' h => ?_, fun w1 Ad cd h1 _ => (unlike_no (nodeq_int (hR.gr h1) lv ys) (h1.rd hA) (by omega) hbad).mono fun e w' h => ?_, fun w1 Ao co h1 => unlike_no (nodeq_int (hR.gr h1) lv ys) (h1.rd hA) (by omega) hbad, .inl ⟨hf, hp, rfl, rfl, rfl⟩⟩
    · rcases h with ⟨h1, _⟩ | ⟨_, h1, h2⟩
      · obtain ⟨j, hj, he⟩ := hbad
        rw [h1 j hj] at he
        cases he
      · exact ⟨none, 0, h1, ⟨rfl, .inl ⟨rfl, rfl⟩⟩, h2⟩
    · exact ⟨none, 0, 0, h.1, Lib.hid rfl, ⟨rfl, .inl ⟨rfl, rfl⟩⟩, h.2⟩
  · have hg : rightB lv ys = true ∨ k = 0 := by
      rcases Nat.eq_zero_or_pos k with h | h
      · exact .inr h
      · cases hr : rightB lv ys with
        | true => exact .inl rfl
        | false => exact absurd ⟨hr, h⟩ hb
    obtain ⟨at_, hys, hl, hat⟩ := good_nodes (lv := lv) (zs := ys) (by rw [hyl]; exact hg)
    rw [hyl] at hl
    have hal : at_.length = k := by rw [← hyl, hys, List.length_map]
    have hrd : Rd w A k (intV at_) := by
      rw [hys, List.map_map] at hA
      exact hA
    have h256 : ∀ x ∈ at_, x < 256 := fun x hx => by
      have hp : 0 < k := by rw [← hal]; exact List.length_pos_of_mem hx
      have := hat x hx
      have h5 := (hl hp).2
      have h6 : 4 ^ lv.toNat ≤ 4 ^ 4 := Nat.pow_le_pow_right (by omega) (by omega)
      omega
    have hNq : ∀ w1, Gr w w1 → NodeQ (some ⟨g, 0, none⟩) lv (at_.map fun x : Nat => (x : Int)) (fun _ => true) (dN R lv.toNat at_) w1 := fun w1 h1 => nodeq_nat (hR.gr h1) (by rw [hal]; exact hl) hat
    refine ⟨k, 0, outU (dN R lv.toNat at_) (dI S lv ys) at_ lv.toNat k, hk8, hTell.mono fun e w' h => ?_, fun w1 Ad cd h1 hN => (unlike_any (hNq w1 h1) (h1.rd hrd) (by omega) hN lv.toNat hl h256).mono fun e w' h => ?_, fun w1 Ao co h1 => unlike_len (hNq w1 h1) (by have := h1.rd hA; rw [hys] at this; exact this) (by omega) (by omega), .inr ⟨hg, rfl, rfl, at_, hys, hl, hat, rfl⟩⟩
    · rcases h with ⟨_, ⟨Ad, cd, h1, h2⟩, h3⟩ | ⟨⟨j, hj, he⟩, _⟩
      · exact ⟨Ad, cd, h1, h2, h3⟩
      · rcases hg with hg | hg
        · rw [ok_all hg j (by omega)] at he
          cases he
        · omega
    · obtain ⟨A', m, c', h1, h2, h3, h4⟩ := h
      exact ⟨A', m, c', h1, Lib.hid h2, h3, h4⟩
end Go.Proofs.YthpgldfjcancjaaDoor
