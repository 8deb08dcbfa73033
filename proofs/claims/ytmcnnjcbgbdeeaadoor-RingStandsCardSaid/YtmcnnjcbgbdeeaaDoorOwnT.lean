/- Rows of one's own behind a turn; a cell set. No condition. -/
import Derived.Test.YtmcnnjcbgbdeeaaDoorTurnM
import Derived.Laws.AppendOwn
import Derived.Lib.BufferWrite
namespace Go.Proofs.YtmcnnjcbgbdeeaaDoor
open Go.RowKit
section
variable {τ : Nat → Obj → Bool} {B : Nat} {w w' : World}
theorem own_tn {base : Nat} {e : TypeId} {size : Nat} {A : Option Addr} {n c : Nat} {xs : List Value} (h : w.ownsRow base e size (.slice A n c) n xs) (hT : Tn τ B w w') (ht : ∀ k C f, τ k (.cells C e f) = false) : w'.ownsRow base e size (.slice A n c) n xs := by
  refine ⟨h.1, ?_⟩
  rcases h.2 with h2 | ⟨g, cap, cur, e1, h1, h2, h3⟩
  · exact .inl h2
  · exact .inr ⟨g, cap, cur, e1, h1, by rw [hT.block g (Array.getElem?_eq_some_iff.1 h2).1 (.inr (by rw [h2]; exact ht _ _ _))]; exact h2, h3⟩
end
theorem Tn.cell {τ : Nat → Obj → Bool} {B : Nat} {w : World} {g : Nat} {t : TypeId} {cs : List Value} (h : Arr w g t cs) (hB : B ≤ g) (hm : ∀ C f, τ g (.cells C t f) = true) (i : Nat) (u : Value) : Tn τ B w (w.setCell ⟨g, i, none⟩ u) := by
  have hg := Lib.grownBy_setCell w g i u
  have h2 := h.set i u
  refine ⟨hg.os, hg.tape, hg.output, hg.size, fun k hk ho => ?_, fun k hk => ?_⟩
  · refine hg.block k hk fun e => ?_
    injection e with e
    subst e
    rcases ho with ho | ho
    · omega
    · rw [h] at ho
      simp [Turns, hm] at ho
  · by_cases e : k = g
    · subst e
      rw [h2, h]
      simp [Turns, hm]
    · rw [hg.block k hk fun e2 => e (Option.some.inj e2)]
theorem own_at1 {w : World} {B : Nat} {e : TypeId} {A : Option Addr} {n c : Nat} {xs : List Value} (h : w.ownsRow B e 1 (.slice A n c) n xs) {k : Nat} {u : Value} (hk : k < n) (hu : xs[k]? = some u) : ∃ gN, A = some ⟨gN, 0, none⟩ ∧ w.cell? ⟨gN, k, none⟩ = some u := by
  have hrd := Rd.of_own h
  rcases h.2 with ⟨_, e2⟩ | ⟨gN, cap, cur, e1, _⟩
  · omega
  · injection e1 with e1
    subst e1
    obtain ⟨ad, ea, hc⟩ := hrd.2 k u hu
    injection ea with ea
    subst ea
    rw [add_row, Nat.zero_add] at hc
    exact ⟨gN, rfl, hc⟩
theorem own_lt {w : World} {base : Nat} {e : TypeId} {A : Option Addr} {size n c : Nat} {xs : List Value} (h : w.ownsRow base e size (.slice A n c) n xs) : ∀ ad, A = some ad → ad.block < w.heap.size := by
  intro ad hA
  rcases h.2 with ⟨e1, _⟩ | ⟨g, cap, cur, e1, _, h2, _⟩
  · injection e1 with e1; rw [e1] at hA; cases hA
  · injection e1 with e1
    rw [e1] at hA
    injection hA with hA
    subst hA
    exact (Array.getElem?_eq_some_iff.1 h2).1
end Go.Proofs.YtmcnnjcbgbdeeaaDoor
