/- The reference's Seal: not right, spent. No condition. -/
import Derived.Test.YtnmhfomnlnlflaaDoorVRefB
namespace Go.Proofs.YtnmhfomnlnlflaaDoor
open Go.RowKit
theorem own_at6 {w : World} {B : Nat} {e : TypeId} {A : Option Addr} {n c : Nat} {xs : List Value} (h : w.ownsRow B e 6 (.slice A n c) n xs) {k : Nat} (hk : k < n) : ∃ gN, A = some ⟨gN, 0, none⟩ ∧ ∀ i u, xs[6 * k + i]? = some u → w.cell? ⟨gN, 6 * k + i, none⟩ = some u := by
  rcases h.2 with ⟨_, e2⟩ | ⟨gN, cap, cur, e1, _⟩
  · omega
  · injection e1 with e1
    subst e1
    refine ⟨gN, rfl, fun i u hu => ?_⟩
    have hc := h.cells (g := gN) rfl (6 * k + i) u hu
    rw [add_row, Nat.zero_add] at hc
    exact hc
theorem flat6 : ∀ (L : List Sealing) (k : Nat) (x : Sealing), L[k]? = some x → ∀ i, i < 6 → (L.flatMap sealC)[6 * k + i]? = (sealC x)[i]?
  | [], _, _, h => by simp at h
  | y :: L, 0, x, h => fun i hi => by
    have hxy : y = x := by simpa using h
    subst hxy
    rw [List.flatMap_cons, Nat.mul_zero, Nat.zero_add, List.getElem?_append_left (by simp [sealC]; omega)]
  | y :: L, k + 1, x, h => fun i hi => by
    have := flat6 L k x (by simpa using h) i hi
    rw [List.flatMap_cons, List.getElem?_append_right (by simp [sealC]; omega)]
    rw [← this]
    congr 1
    simp [sealC]
    omega
set_option maxRecDepth 100000 in
set_option maxHeartbeats 4000000 in
theorem docSeal_no (g : Nat) (e c k : Int) (wi b : List UInt8) (h : ¬ Right e c k) (w : World) :
    Calls Tryd.prog 29 #[.pointer (some ⟨g, 0, none⟩), .int .i64 e, .int .i64 c, .int .i64 k, .string ⟨wi.toArray⟩, .string ⟨b.toArray⟩] w fun e w' => e = .returned (.tuple #[.string ⟨#[]⟩, .int .i64 1]) ∧ Gr w w' := by
  have HN := Lib.hid (rright_no e c k h)
  go_enter Tryd.func29, Tryd.ntmps29
  go_wp2_with fail
  refine (HN.out w).mono ?_
  rintro r _ ⟨rfl, rfl⟩
  go_wp2_with fail
  refine bodyPost_ret (results_tmp2 rfl _ _ _) rfl ?_
  exact ⟨rfl, Gr.refl _⟩
set_option maxRecDepth 100000 in
set_option maxHeartbeats 16000000 in
theorem docSeal_spent {B : Nat} {w : World} {g : Nat} {v : Vt} (hR : RIs B w g v) (e c k : Nat) (wi b : List UInt8) (hr : Right e c k) (hL : v.L.length ≤ 1000) (hs : v.spent c k) :
    Calls Tryd.prog 29 #[.pointer (some ⟨g, 0, none⟩), .int .i64 (e : Int), .int .i64 (c : Int), .int .i64 (k : Int), .string ⟨wi.toArray⟩, .string ⟨b.toArray⟩] w fun e w' => e = .returned (.tuple #[.string ⟨#[]⟩, .int .i64 13]) ∧ Gr w w' := by
  have HN := Lib.hid (rright_yes (e : Int) (c : Int) (k : Int) hr)
  obtain ⟨A, cA, D, cD, a1, _, a3⟩ := hR.mem
  obtain ⟨len, hlen⟩ : ∃ n, n = v.L.length := ⟨_, rfl⟩
  rw [← hlen] at a1 a3
  have c3 : w.cell? ⟨g, 3, none⟩ = some (.slice D len cD) := a1.cell rfl
  have hlb : len ≤ 1000 := by omega
  have HLN := Lib.hid hlen
  go_enter Tryd.func29, Tryd.ntmps29
  go_wp2_with fail
  refine (HN.out w).mono ?_
  rintro r _ ⟨rfl, rfl⟩
  go_wp2_with fail
  clear hlen hR hL hr
  go_simp
  go_loopw [14] (fun i wr => ∃ j : Nat, j ≤ len ∧ i = .int .i64 j ∧ (∀ q x, q < j → v.L[q]? = some x → ¬ (x.client = c ∧ x.counter = k)) ∧ Gr w wr)
    (fun i _ => len - (intOf i).toNat)
  case atStart => exact ⟨0, Nat.zero_le _, rfl, fun q x hq => absurd hq (by omega), Gr.refl _⟩
  case round =>
    obtain ⟨j, hjl, rfl, hno, hG⟩ := hrel
    have c3r := hG.cell c3
    have a3r := Gr.own hG a3
    by_cases hlt : j < len
    · obtain ⟨x, hx⟩ : ∃ x, v.L[j]? = some x := ⟨v.L[j]'(by have := HLN.out; omega), List.getElem?_eq_getElem (by have := HLN.out; omega)⟩
      obtain ⟨gN, rfl, hc⟩ := own_at6 a3r hlt
      have q1 : wr.cell? ⟨gN, j * 6 + 1, none⟩ = some (.int .i64 (x.client : Int)) := by rw [Nat.mul_comm]; exact hc 1 _ (by rw [flat6 _ j x hx 1 (by omega)]; rfl)
      have q2 : wr.cell? ⟨gN, j * 6 + 2, none⟩ = some (.int .i64 (x.counter : Int)) := by rw [Nat.mul_comm]; exact hc 2 _ (by rw [flat6 _ j x hx 2 (by omega)]; rfl)
      have hlti : (j : Int) < (len : Int) := by omega
      by_cases hxe : x.client = c ∧ x.counter = k
      · have p1 : ((x.client : Int) == (c : Int)) = true := by rw [hxe.1]; exact beq_self_eq_true _
        have p2 : ((x.counter : Int) == (k : Int)) = true := by rw [hxe.2]; exact beq_self_eq_true _
        clear hxe hno hx hc hs
        go_wp2_with fail
        refine bodyPost_ret (results_tmp2 rfl _ _ _) rfl ?_
        exact ⟨rfl, hG⟩
      · have hno2 : ∀ q y, q < j + 1 → v.L[q]? = some y → ¬ (y.client = c ∧ y.counter = k) := by
          intro q y hq hy
          rcases Nat.lt_or_ge q j with h | h
          · exact hno q y h hy
          · obtain rfl : q = j := by omega
            rw [hx] at hy
            injection hy with hy
            rw [← hy]; exact hxe
        have HXE := Lib.hid hxe
        clear hx hc hs hxe
        by_cases h1 : x.client = c
        · have p1 : ((x.client : Int) == (c : Int)) = true := by rw [h1]; exact beq_self_eq_true _
          have p2 : ((x.counter : Int) == (k : Int)) = false := by
            have := HXE.out
            simp only [beq_eq_false_iff_ne, ne_eq]
            omega
          clear h1
          go_wp2_with fail
          go_roundw
          case rel => exact ⟨j + 1, by omega, by go_num, hno2, hG⟩
          case measure => simp [intOf]; omega
        · have p1 : ((x.client : Int) == (c : Int)) = false := by
            simp only [beq_eq_false_iff_ne, ne_eq]
            omega
          clear h1
          go_wp2_with fail
          go_roundw
          case rel => exact ⟨j + 1, by omega, by go_num, hno2, hG⟩
          case measure => simp [intOf]; omega
    · obtain ⟨x, hx, h1, h2⟩ := hs
      obtain ⟨q, hq, he⟩ := List.getElem_of_mem hx
      exact absurd ⟨h1, h2⟩ (hno q x (by have := HLN.out; omega) (by rw [List.getElem?_eq_getElem hq, he]))
end Go.Proofs.YtnmhfomnlnlflaaDoor
