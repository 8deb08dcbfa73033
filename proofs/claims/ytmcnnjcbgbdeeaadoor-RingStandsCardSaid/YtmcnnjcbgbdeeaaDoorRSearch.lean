/- The walk of the search among sorted points. No condition. -/
import Derived.Test.YtmcnnjcbgbdeeaaDoorRCmp
import Derived.Deep.Cut
namespace Go.Proofs.YtmcnnjcbgbdeeaaDoor
open Go.RowKit
/-- A point's cells: where, whose, which. -/
def encP (p : Nat × Nat × Nat) : List Value := [.int .u64 (p.1 : Int), .int .i64 (p.2.1 : Int), .int .i64 (p.2.2 : Int)]
/-- A row of points in memory. -/
def PtR (w : World) (A : Option Addr) (n : Nat) (L : List (Nat × Nat × Nat)) : Prop := L.length = n ∧ ∀ i p, L[i]? = some p → ∃ b o, A = some ⟨b, o, none⟩ ∧ ∀ j u, (encP p)[j]? = some u → w.cell? ⟨b, o + i * 3 + j, none⟩ = some u
theorem PtR.gr {w w' : World} {A : Option Addr} {n : Nat} {L : List (Nat × Nat × Nat)} (h : PtR w A n L) (hG : Gr w w') : PtR w' A n L :=
  ⟨h.1, fun i p hp => by
    obtain ⟨b, o, e, hc⟩ := h.2 i p hp
    exact ⟨b, o, e, fun j u hu => (Below.cell hG (lt_of_cell (hc j u hu))).trans (hc j u hu)⟩⟩
set_option maxRecDepth 100000 in
set_option maxHeartbeats 4000000 in
theorem near1_any (a b c t : Int) (w : World) : Calls Tryd.prog 24 #[.agg #[.int .u64 a, .int .i64 b, .int .i64 c], .int .u64 t] w fun e w' => e = .returned (.int .i64 (cmpZ a t)) ∧ Gr w w' := by
  have HC := Lib.hid cmpU_any
  go_enter Tryd.func24, Tryd.ntmps24
  go_wp2_with fail
  refine (HC.out a t _).mono ?_
  rintro e _ ⟨rfl, rfl⟩
  go_wp2_with fail
  go_ret
  exact ⟨rfl, Gr.alloc _ _⟩
/-- What the search hands back: how many lie ahead. -/
def SearchQ (L : List (Nat × Nat × Nat)) (n t : Nat) (w : World) (e : Ending) (w' : World) : Prop := ∃ (f : Nat) (q : Bool), e = .returned (.tuple #[.int .i64 (f : Int), .bool q]) ∧ f ≤ n ∧ (∀ i p, L[i]? = some p → (i < f ↔ p.1 < t)) ∧ Gr w w'
set_option maxRecDepth 100000 in
set_option maxHeartbeats 8000000 in
theorem search_any (A : Option Addr) (n c : Nat) (L : List (Nat × Nat × Nat)) (t : Nat) (w : World) (hP : PtR w A n L) (hn : n ≤ 1000000) (hs : L.Pairwise fun p q => p.1 ≤ q.1) :
    Calls Tryd.prog 23 #[.slice A n c, .int .u64 (t : Int), .func (.func 24) #[] #[]] w fun e w' => SearchQ L n t w e w' := by
  have HN := Lib.hid near1_any
  have hl := hP.1
  go_enter Tryd.func23, Tryd.ntmps23
  go_wp2_with fail
  go_simp
  go_loopw [9, 10] (fun iv jv wr => ∃ lo hi : Nat, lo ≤ hi ∧ hi ≤ n ∧ iv = .int .i64 (lo : Int) ∧ jv = .int .i64 (hi : Int) ∧ (∀ i p, L[i]? = some p → i < lo → p.1 < t) ∧ (∀ i p, L[i]? = some p → hi ≤ i → ¬ p.1 < t) ∧ Gr w wr) (fun iv jv _ => (intOf jv).toNat - (intOf iv).toNat)
  case atStart => exact ⟨0, n, Nat.zero_le _, Nat.le_refl _, rfl, rfl, fun i p _ h => by omega, fun i p hp h => by have := (List.getElem?_eq_some_iff.1 hp).1; omega, Gr.refl _⟩
  case round =>
    obtain ⟨lo, hi, hlh, hhn, rfl, rfl, h1, h2, hG⟩ := hrel
    by_cases hlt : lo < hi
    · have hlti : (lo : Int) < (hi : Int) := by omega
      have hb : (hi : Int) ≤ 1000000 := by omega
      go_upto_region 5 with fail
      obtain ⟨m, hm⟩ : ∃ m, m = (lo + hi) / 2 := ⟨_, rfl⟩
      have HM : Hid (((lo : Int) + (hi : Int)) / 2 = (m : Int)) := by show _ = _; omega
      have hm1 : lo ≤ m := by omega
      have hm2 : m < hi := by omega
      simp only [HM.out]
      obtain ⟨⟨a, b, r⟩, hp⟩ : ∃ p, L[m]? = some p := ⟨L[m]'(by omega), List.getElem?_eq_getElem (by omega)⟩
      obtain ⟨blk, o, rfl, hc⟩ := (hP.gr hG).2 m _ hp
      have q0 : wr.cell? ⟨blk, o + m * 3, none⟩ = some (.int .u64 (a : Int)) := hc 0 _ rfl
      have q1 : wr.cell? ⟨blk, o + m * 3 + 1, none⟩ = some (.int .i64 (b : Int)) := hc 1 _ rfl
      have q2 : wr.cell? ⟨blk, o + m * 3 + 2, none⟩ = some (.int .i64 (r : Int)) := hc 2 _ rfl
      have hmn : m < n := by omega
      clear hc hm
      go_wp2_with fail
      refine (HN.out (a : Int) (b : Int) (r : Int) (t : Int) wr).mono ?_
      rintro e w1 ⟨rfl, hG1⟩
      have hG2 := Gr.trans hG hG1
      by_cases hat : a < t
      · have hcz : cmpZ (a : Int) (t : Int) = -1 := by unfold cmpZ; rw [if_pos (by omega)]
        have h1' : ∀ i p, L[i]? = some p → i < m + 1 → p.1 < t := fun i p hi' hlt' => by
          have hle := List.pairwise_iff_getElem.1 hs
          obtain ⟨l1, e1⟩ := List.getElem?_eq_some_iff.1 hi'
          obtain ⟨l2, e2⟩ := List.getElem?_eq_some_iff.1 hp
          rcases Nat.lt_or_eq_of_le (Nat.le_of_lt_succ hlt') with h | h
          · have := hle i m l1 l2 h
            rw [e1, e2] at this
            omega
          · subst h
            rw [e1] at e2
            rw [e2]; exact hat
        rw [hcz]
        clear h1 hG1 hp q0 q1 q2
        go_wp2_with fail
        exact ⟨⟨m + 1, hi, by omega, hhn, by go_num, rfl, h1', h2, hG2⟩, by simp [intOf]; omega⟩
      · have hcz : ∃ z, cmpZ (a : Int) (t : Int) = z ∧ ¬ z < 0 := by
          unfold cmpZ
          rw [if_neg (by omega)]
          split
          · exact ⟨1, rfl, by omega⟩
          · exact ⟨0, rfl, by omega⟩
        obtain ⟨z, hcz, hz⟩ := hcz
        have h2' : ∀ i p, L[i]? = some p → m ≤ i → ¬ p.1 < t := fun i p hi' hle' => by
          have hle := List.pairwise_iff_getElem.1 hs
          obtain ⟨l1, e1⟩ := List.getElem?_eq_some_iff.1 hi'
          obtain ⟨l2, e2⟩ := List.getElem?_eq_some_iff.1 hp
          rcases Nat.lt_or_eq_of_le hle' with h | h
          · have := hle m i l2 l1 h
            rw [e1, e2] at this
            omega
          · subst h
            rw [e1] at e2
            rw [e2]; exact hat
        rw [hcz]
        clear h2 hG1 hp q0 q1 q2 hcz
        go_wp2_with fail
        exact ⟨⟨lo, m, by omega, by omega, rfl, by go_num, h1, h2', hG2⟩, by simp [intOf]; omega⟩
    · have hlti : ¬ (lo : Int) < (hi : Int) := by omega
      have hlo : lo = hi := by omega
      subst hlo
      have hfin : ∀ i p, L[i]? = some p → (i < lo ↔ p.1 < t) := fun i p hi' => ⟨fun h => h1 i p hi' h, fun h => by
        rcases Nat.lt_or_ge i lo with h3 | h3
        · exact h3
        · exact absurd h (h2 i p hi' h3)⟩
      by_cases hln : lo < n
      · have hlni : (lo : Int) < (n : Int) := by omega
        obtain ⟨⟨a, b, r⟩, hp⟩ : ∃ p, L[lo]? = some p := ⟨L[lo]'(by omega), List.getElem?_eq_getElem (by omega)⟩
        obtain ⟨blk, o, rfl, hc⟩ := (hP.gr hG).2 lo _ hp
        have q0 : wr.cell? ⟨blk, o + lo * 3, none⟩ = some (.int .u64 (a : Int)) := hc 0 _ rfl
        have q1 : wr.cell? ⟨blk, o + lo * 3 + 1, none⟩ = some (.int .i64 (b : Int)) := hc 1 _ rfl
        have q2 : wr.cell? ⟨blk, o + lo * 3 + 2, none⟩ = some (.int .i64 (r : Int)) := hc 2 _ rfl
        clear hc
        go_wp2_with fail
        refine (HN.out (a : Int) (b : Int) (r : Int) (t : Int) wr).mono ?_
        rintro e w1 ⟨rfl, hG1⟩
        clear q0 q1 q2 hp h1 h2
        go_wp2_with fail
        refine bodyPost_ret (results_tmp2 rfl _ _ _) rfl ?_
        exact ⟨lo, _, rfl, hhn, hfin, Gr.trans hG hG1⟩
      · have hlni : ¬ (lo : Int) < (n : Int) := by omega
        clear h1 h2
        go_wp2_with fail
        refine bodyPost_ret (results_tmp2 rfl _ _ _) rfl ?_
        exact ⟨lo, _, rfl, hhn, hfin, hG⟩
end Go.Proofs.YtmcnnjcbgbdeeaaDoor
