/- What a call may turn: blocks of a kind, above a mark; all else stands. No condition. -/
import Derived.Test.YtmcnnjcbgbdeeaaDoorMapK
import Derived.Test.YtmcnnjcbgbdeeaaDoorKitA
namespace Go.Proofs.YtmcnnjcbgbdeeaaDoor
open Go.RowKit
open Go.ChangeMaps (setBlock)
/-- May what lies in a block turn? -/
def Turns (τ : Nat → Obj → Bool) (k : Nat) : Option Obj → Bool
  | some o => τ k o
  | none => false
/-- From w to w': what lies below B stands, and so does all that may not turn. -/
structure Tn (τ : Nat → Obj → Bool) (B : Nat) (w w' : World) : Prop where
  os : w'.os = w.os
  tape : w'.tape = w.tape
  output : w'.output = w.output
  size : w.heap.size ≤ w'.heap.size
  block : ∀ k, k < w.heap.size → (k < B ∨ Turns τ k w.heap[k]? = false) → w'.heap[k]? = w.heap[k]?
  turns : ∀ k, k < w.heap.size → Turns τ k w'.heap[k]? = Turns τ k w.heap[k]?
section
variable {τ : Nat → Obj → Bool} {B : Nat} {w w' w2 : World}
theorem Tn.of_gr (h : Gr w w') : Tn τ B w w' := ⟨h.os, h.tape, h.output, h.size, fun k hk _ => h.block k hk, fun k hk => by rw [h.block k hk]⟩
theorem Tn.refl (w : World) : Tn τ B w w := Tn.of_gr (Gr.refl w)
theorem Tn.trans (h : Tn τ B w w') (k : Tn τ B w' w2) : Tn τ B w w2 :=
  ⟨k.os.trans h.os, k.tape.trans h.tape, k.output.trans h.output, Nat.le_trans h.size k.size,
   fun i hi ho => (k.block i (Nat.lt_of_lt_of_le hi h.size) (by rw [h.turns i hi]; exact ho)).trans (h.block i hi ho),
   fun i hi => (k.turns i (Nat.lt_of_lt_of_le hi h.size)).trans (h.turns i hi)⟩
theorem Tn.gr (h : Tn τ B w w') (k : Gr w' w2) : Tn τ B w w2 := h.trans (Tn.of_gr k)
theorem Tn.drew (h : Tn τ B w w') : Tn τ B w w'.drew := h.gr (Gr.drew w')
theorem Tn.down (h : Tn τ B w w') {B' : Nat} (hb : B' ≤ B) : Tn τ B' w w' :=
  ⟨h.os, h.tape, h.output, h.size, fun k hk ho => h.block k hk (ho.imp (fun x => Nat.lt_of_lt_of_le x hb) id), h.turns⟩
theorem Tn.below (h : Tn τ B w w') (hB : B ≤ w.heap.size) : Below B w w' := ⟨h.os, h.tape, h.output, h.size, fun k hk => h.block k (Nat.lt_of_lt_of_le hk hB) (.inl hk)⟩
/-- Nothing turns: all stands. -/
theorem Tn.stands (h : Tn τ B w w') (hn : ∀ k o, τ k o = false) : Gr w w' := ⟨h.os, h.tape, h.output, h.size, fun k hk => h.block k hk (.inr (by cases w.heap[k]? <;> simp [Turns, hn]))⟩
theorem Turns.wide {σ : Nat → Obj → Bool} (hs : ∀ k o, σ k o = true → τ k o = true) {k : Nat} {o : Option Obj} (h : Turns σ k o = true) : Turns τ k o = true := by
  rcases o with _ | o
  · cases h
  · exact hs _ _ h
/-- Fewer turn. -/
theorem Tn.wide {σ : Nat → Obj → Bool} (h : Tn σ B w w') (hs : ∀ k o, σ k o = true → τ k o = true) : Tn τ B w w' := by
  have hf : ∀ {k : Nat} {o : Option Obj}, Turns τ k o = false → Turns σ k o = false := fun {k o} h => by
    rcases hb : Turns σ k o
    · rfl
    · rw [Turns.wide hs hb] at h; cases h
  refine ⟨h.os, h.tape, h.output, h.size, fun k hk ho => h.block k hk (ho.imp id hf), fun k hk => ?_⟩
  rcases hb : Turns σ k w.heap[k]?
  · rw [h.block k hk (.inr hb)]
  · rw [Turns.wide hs hb, Turns.wide hs (by rw [h.turns k hk]; exact hb)]
theorem Arr.tn {g : Nat} {t : TypeId} {cs : List Value} (h : Arr w g t cs) (hT : Tn τ B w w') (ht : ∀ C f, τ g (.cells C t f) = false) : Arr w' g t cs := by
  unfold Arr at *
  rw [hT.block g (Arr.lt h) (.inr (by rw [h]; exact ht _ _))]
  exact h
theorem Arr.tnB {g : Nat} {t : TypeId} {cs : List Value} (h : Arr w g t cs) (hT : Tn τ B w w') (hg : g < B) : Arr w' g t cs := by
  unfold Arr at *
  rw [hT.block g (Arr.lt h) (.inl hg)]
  exact h
/-- A row that is read and does not turn. -/
structure RdS (τ : Nat → Obj → Bool) (B : Nat) (w : World) (A : Option Addr) (n : Nat) (xs : List Value) : Prop where
  rd : Rd w A n xs
  safe : 0 < n → ∀ ad, A = some ad → ad.block < w.heap.size ∧ (ad.block < B ∨ Turns τ ad.block w.heap[ad.block]? = false)
theorem RdS.nil (w : World) (A : Option Addr) : RdS τ B w A 0 [] := ⟨Rd.nil _ _, fun h => absurd h (by omega)⟩
theorem RdS.tn {A : Option Addr} {n : Nat} {xs : List Value} (h : RdS τ B w A n xs) (hT : Tn τ B w w') : RdS τ B w' A n xs := by
  rcases Nat.eq_zero_or_pos n with rfl | hn
  · have hx : xs = [] := List.eq_nil_of_length_eq_zero h.rd.1
    subst hx
    exact RdS.nil _ _
  · refine ⟨h.rd.keep fun p hp he => ?_, fun _ ad e => ?_⟩
    · obtain ⟨ad, u, e1, _, hu⟩ := h.rd.at_ hn
      have hb := h.safe hn ad e1
      have hpe := he ad e1
      exact World.cell?_of_block (hT.block p.block hp (by rw [hpe]; exact hb.2))
    · obtain ⟨h1, h2⟩ := h.safe hn ad e
      refine ⟨Nat.lt_of_lt_of_le h1 hT.size, h2.imp id fun hf => by rw [hT.turns _ h1]; exact hf⟩
theorem RdS.gr {A : Option Addr} {n : Nat} {xs : List Value} (h : RdS τ B w A n xs) (hG : Gr w w') : RdS τ B w' A n xs := h.tn (Tn.of_gr hG)
theorem RdS.of_old {A : Option Addr} {n : Nat} {xs : List Value} (h : Rd w A n xs) (hB : w.heap.size ≤ B) : RdS τ B w A n xs :=
  ⟨h, fun hn ad e => by
    obtain ⟨ad', u, e1, _, hu⟩ := h.at_ hn
    rw [e] at e1
    injection e1 with e1
    subst e1
    have := lt_of_cell hu
    rw [add_block] at this
    exact ⟨this, .inl (Nat.lt_of_lt_of_le this hB)⟩⟩
theorem RdS.of_own {A : Option Addr} {n c base : Nat} {e : TypeId} {xs : List Value} (h : w.ownsRow base e 1 (.slice A n c) n xs) (he : ∀ k C f, base ≤ k → τ k (.cells C e f) = false) : RdS τ B w A n xs :=
  ⟨Rd.of_own h, fun hn ad e1 => by
    subst e1
    rcases h.2 with ⟨e2, _⟩ | ⟨g, cap, cur, e2, hbg, hg, _⟩
    · injection e2 with e2; cases e2
    · injection e2 with e2
      injection e2 with e2
      subst e2
      exact ⟨(Array.getElem?_eq_some_iff.1 hg).1, .inr (by rw [hg]; exact he _ _ _ hbg)⟩⟩
theorem RdS.of_arr {g : Nat} {t : TypeId} {cs : List Value} {n : Nat} (h : Rd w (some ⟨g, 0, none⟩) n cs) {C : Array Value} {f : Nat × Nat} (hg : w.heap[g]? = some (.cells C t f)) (ht : τ g (.cells C t f) = false) : RdS τ B w (some ⟨g, 0, none⟩) n cs :=
  ⟨h, fun _ ad e1 => by
    injection e1 with e1
    subst e1
    exact ⟨(Array.getElem?_eq_some_iff.1 hg).1, .inr (by rw [hg]; exact ht)⟩⟩
theorem RdS.take {A : Option Addr} {n k : Nat} {xs : List Value} (h : RdS τ B w A n xs) (hk : k ≤ n) : RdS τ B w A k (xs.take k) := ⟨h.rd.take hk, fun h0 => h.safe (by omega)⟩
theorem MapIs.tn {P : Program} {k : TypeId} {b : Nat} {L : List (Value × Value)} (h : MapIs P k w b L) (hT : Tn τ B w w') (hb : ∀ es c, τ b (.map es c) = false) : MapIs P k w' b L := by
  have hl := h.lt
  obtain ⟨es, c, hbk, h2⟩ := h
  exact ⟨es, c, by rw [hT.block b hl (.inr (by rw [hbk]; exact hb _ _))]; exact hbk, h2⟩
theorem Tn.set {P : Program} {k : TypeId} {b : Nat} {L L' : List (Value × Value)} {o : Obj} (h : MapIs P k w b L) (hw : w' = setBlock w b o) (h' : MapIs P k w' b L') (hb : B ≤ b) (hm : ∀ es c, τ b (.map es c) = true) : Tn τ B w w' := by
  obtain ⟨es, c, hbk, _⟩ := h
  obtain ⟨es', c', hbk', _⟩ := h'
  subst hw
  have ho : ∀ i, i ≠ b → (setBlock w b o).heap[i]? = w.heap[i]? := fun i hi => ChangeMaps.heap_setBlock_other hbk o hi
  refine ⟨rfl, rfl, rfl, by simp [setBlock], fun i _ hf => ho i (fun e => ?_), fun i _ => ?_⟩
  · subst e
    rcases hf with hf | hf
    · omega
    · rw [hbk] at hf; simp [Turns, hm] at hf
  · by_cases e : i = b
    · subst e; rw [hbk', hbk]; simp [Turns, hm]
    · rw [ho i e]
theorem MapIs.other {P : Program} {k : TypeId} {b c : Nat} {L : List (Value × Value)} {o : Obj} (h : MapIs P k w b L) {es : Array MapEntry} {ck : Nat} (hc : w.heap[c]? = some (.map es ck)) (hne : b ≠ c) : MapIs P k (setBlock w c o) b L :=
  h.same (ChangeMaps.heap_setBlock_other hc o hne)
end
end Go.Proofs.YtmcnnjcbgbdeeaaDoor
