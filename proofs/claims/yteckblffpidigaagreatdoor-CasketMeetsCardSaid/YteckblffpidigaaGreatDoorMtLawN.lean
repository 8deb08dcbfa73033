/- Places that hand each other their siblings, all to all, in plain. No condition. -/
import Derived.Test.YteckblffpidigaaGreatDoorMtLawM
namespace Go.Proofs.YteckblffpidigaaGreatDoor
/-- Who knows all writes: the places ahead, or all behind the first round. -/
def FullF (W : List WrM) (Ls : Nat → List SibV) (r k : Nat) : Prop := ∀ j, j < 3 → (j < k ∨ 1 ≤ r) → FullP W (Ls j)
/-- What a place took in amid its turn. -/
def InclF (W : List WrM) (Ls : Nat → List SibV) (k o : Nat) : Prop := ∀ j, j < 3 → j < o → ∀ x ∈ W, covS (Ls j) x.1 → covS (Ls k) x.1
theorem FullF.step {W : List WrM} {Ls : Nat → List SibV} {L : List SibV} {r k o : Nat} (h : FullF W Ls r k) (hr : ∀ x ∈ W, rightD x.1) (hc : ∀ d, rightD d → (covS (upd Ls k L k) d ↔ covS (Ls k) d ∨ covS (Ls o) d)) : FullF W (upd Ls k L) r k := by
  intro j hj hjk x hx
  by_cases e : j = k
  · subst e
    exact (hc x.1 (hr x hx)).2 (.inl (h j hj hjk x hx))
  · unfold upd
    rw [if_neg e]
    exact h j hj hjk x hx
theorem InclF.step {W : List WrM} {Ls : Nat → List SibV} {L : List SibV} {k o : Nat} (h : InclF W Ls k o) (hr : ∀ x ∈ W, rightD x.1) (hc : ∀ d, rightD d → (covS (upd Ls k L k) d ↔ covS (Ls k) d ∨ covS (Ls o) d)) : InclF W (upd Ls k L) k (o + 1) := by
  intro j hj hjo x hx hcov
  by_cases e : j = k
  · subst e
    exact hcov
  · unfold upd at hcov
    rw [if_neg e] at hcov
    refine (hc x.1 (hr x hx)).2 ?_
    rcases Nat.lt_or_eq_of_le (Nat.le_of_lt_succ hjo) with h1 | h1
    · exact .inl (h j hj h1 x hx hcov)
    · subst h1
      exact .inr hcov
theorem InclF.zero {W : List WrM} {Ls : Nat → List SibV} {k : Nat} : InclF W Ls k 0 := fun j _ h => absurd h (Nat.not_lt_zero j)
theorem FullF.next {W : List WrM} {Ls : Nat → List SibV} {r k : Nat} (h : FullF W Ls r k) (hI : InclF W Ls k 3) (hU : ∀ x ∈ W, ∃ j, j < 3 ∧ covS (Ls j) x.1) : FullF W Ls r (k + 1) := by
  intro j hj hjk
  rcases hjk with h1 | h1
  · rcases Nat.lt_or_eq_of_le (Nat.le_of_lt_succ h1) with h2 | h2
    · exact h j hj (.inl h2)
    · subst h2
      intro x hx
      obtain ⟨i, hi, hc⟩ := hU x hx
      exact hI i hi hi x hx hc
  · exact h j hj (.inr h1)
theorem FullF.round {W : List WrM} {Ls : Nat → List SibV} {r : Nat} (h : FullF W Ls r 3) : FullF W Ls (r + 1) 0 := fun j hj _ => h j hj (.inl hj)
theorem FullF.start (W : List WrM) (Ls : Nat → List SibV) : FullF W Ls 0 0 := fun j _ h => absurd h (by omega)
/-- What Merge leaves. -/
def MrgV (L1 L2 : List SibV) (B : Nat) (f : Option Addr → Nat → Nat → Value) (v : Value) (w : World) : Prop := ∃ (A : Option Addr) (n c : Nat) (L : List SibV), v = f A n c ∧ SibsR w A n L ∧ MergeOf L1 L2 L ∧ ∀ b, InB A L b → B ≤ b ∧ b < w.heap.size
theorem MrgV.gr {L1 L2 : List SibV} {B : Nat} {f : Option Addr → Nat → Nat → Value} {v : Value} {w w' : World} (h : MrgV L1 L2 B f v w) (hG : Gr w w') : MrgV L1 L2 B f v w' := by
  obtain ⟨A, n, c, L, e, h1, h2, h3⟩ := h
  exact ⟨A, n, c, L, e, h1.gr hG, h2, fun b hb => ⟨(h3 b hb).1, Nat.lt_of_lt_of_le (h3 b hb).2 hG.size⟩⟩
end Go.Proofs.YteckblffpidigaaGreatDoor
