/- Texts of one proof, laid as one: part 18. No condition. -/
import Derived.Test.YtjpphldojbfpfaaGreatDoorZf11
import Derived.Test.YtjpphldojbfpfaaGreatDoorZf12
import Derived.Test.YtjpphldojbfpfaaGreatDoorZf17
namespace Go.Proofs.YtjpphldojbfpfaaGreatDoor
open Go.RowKit
section
variable {ev : Operand → Value} {d : Option Tmp} {t : TypeId} {p : String} {af : Array Edge} {gd : Option (Nat × Bool)} {w : World} {x : Operand}
theorem run_buildSib {X : SibV} (hX : (sibC X).length = 20) (h1 : ev x = .agg (sibC X).toArray) :
    (execOp ev ⟨d, .buildSlice 46 1 #[(0, x)], t, p, af, gd⟩).run Tryz.prog w = .ok (.value (.slice (some ⟨w.heap.size, 0, none⟩) 1 1)) (w.alloc (.cells (sibC X).toArray 45)) := by
  obtain ⟨ie, z, hie, hz, q1, _, q3⟩ := infoSb_parts
  have hf : ∀ C : Array Value, C.size = 20 → Instr.fill (fun i => some (i * ie.size, ie.size)) C [(0, .agg (sibC X).toArray)] = some (sibC X).toArray := by
    intro C hC; rw [fill_step (fun i => some (i * ie.size, ie.size)) C 0 (.agg (sibC X).toArray) (sibC X) 0 (by simp [q1, hX]) rfl [] (by simp [hX, hC])]; simp only [Instr.fill]; rw [List.drop_of_length_le (by simp [hX, hC])]; simp
  have h := run_buildSlice (P := Tryz.prog) w 46 45 1 #[(0, .agg (sibC X).toArray)] (sibC X).toArray ie z Tryz.underlying46 hie hz (by rw [q1]; omega) (by rw [q1]; omega) (hf _ (by simp [q1])); simp only [execOp, List.map_toArray, List.map_cons, List.map_nil, h1, Sem.run_bind, h, Result.andThen_ok, Sem.run_pure]
end
def RowU (w : World) (B : Nat) (A : Option Addr) (n c : Nat) (L : List SibU) : Prop := L.length = n ∧ n ≤ c ∧ (n = 0 ∨ ∃ g rest, A = some ⟨g, 0, none⟩ ∧ B ≤ g ∧ Arr w g 45 (L.flatMap sibU ++ rest))
theorem RowU.of_own {w : World} {B : Nat} {A : Option Addr} {n c : Nat} {L : List SibU} (hl : L.length = n) (h : w.ownsRow B 45 20 (.slice A n c) n (L.flatMap sibU)) : RowU w B A n c L := by
  rcases h.2 with ⟨e1, e2⟩ | ⟨g, cap, cur, e1, h1, h2, h3, h4, h5, h6⟩
  · injection e1 with _ e1 e3
    exact ⟨hl, by omega, .inl e2⟩
  · injection e1 with e1 e3 e4
    subst e4; refine ⟨hl, h3, .inr ⟨g, cur.toList.drop (n * 20), e1, h1, ?_⟩⟩; unfold Arr; rw [h2]; congr 2
    rw [← h6, List.take_append_drop, Array.toArray_toList]
theorem RowU.at_ {w : World} {B : Nat} {A : Option Addr} {n c : Nat} {L : List SibU} (h : RowU w B A n c L) {i : Nat} {x : SibU} (hx : L[i]? = some x) : ∃ g, A = some ⟨g, 0, none⟩ ∧ B ≤ g ∧ g < w.heap.size ∧ w.rangeAt g (0 + i * 20) (sibC x.1) := by
  rcases h.2.2 with h0 | ⟨g, rest, e, hg, hA⟩
  · have h1 := h.1; have := (List.getElem?_eq_some_iff.1 hx).1; omega
  · refine ⟨g, e, hg, hA.lt, fun j u hu => ?_⟩; have := flat_at (enc := sibU) (k := 20) sibU_length hx (j := j) (u := u) hu; rw [Nat.zero_add]; refine hA.cell ?_; rw [List.getElem?_append_left (List.getElem?_eq_some_iff.1 this).1]; exact this
def SrtQ (L : List SibU) (B : Nat) (A : Option Addr) (n c : Nat) (w : World) (e : Ending) (w' : World) : Prop := e = .returned (.tuple #[]) ∧ ∃ L' : List SibU, L'.Perm L ∧ (L'.Pairwise fun p q => ¬ dLt q.1.d p.1.d) ∧ RowU w' B A n c L' ∧ Below B w w'
theorem Kx.below {g B B' : Nat} {w w' : World} (h : Kx g B w w') (hg : B' ≤ g) (hB : B' ≤ B) : Below B' w w' := ⟨h.os, h.tape, h.output, h.size, fun k hk => h.block k (by omega) (by omega)⟩
theorem sortU_any {w : World} {B : Nat} {A : Option Addr} {n c : Nat} {L : List SibU} (h : RowU w B A n c L) (hB : B ≤ w.heap.size) (hn : n ≤ 1000000) :
    Calls Tryz.prog 61 #[.slice A n c, .func (.func 62) #[] #[]] w fun e w' => SrtQ L B A n c w e w' := by
  rcases Nat.eq_zero_or_pos n with h0 | h0
  · subst h0; have hL : L = [] := List.eq_nil_of_length_eq_zero h.1; subst hL; refine (sortS_nil A c _ w).mono ?_; rintro e w' ⟨rfl, rfl⟩; exact ⟨rfl, [], List.Perm.refl _, List.Pairwise.nil, h, Below.refl _ _⟩
  · rcases h.2.2 with h1 | ⟨g, rest, rfl, hg, hA⟩
    · omega
    · refine (sortS_any hA h.1 hn).mono ?_; rintro e w' ⟨rfl, L', hp, hs, hA', hK⟩; exact ⟨rfl, L', hp, hs, ⟨hp.length_eq.trans h.1, h.2.1, .inr ⟨g, rest, rfl, hg, hA'⟩⟩, hK.below hg hB⟩
def CmpQ (L : List SibU) (B : Nat) (A : Option Addr) (n c : Nat) (w : World) (e : Ending) (w' : World) : Prop := ∃ m, e = .returned (.slice A m c) ∧ RowU w' B A m c (keepN L n) ∧ Below B w w'
theorem compU_any {w : World} {B : Nat} {A : Option Addr} {n c : Nat} {L : List SibU} (h : RowU w B A n c L) (hB : B ≤ w.heap.size) (hn : n ≤ 1000000) :
    Calls Tryz.prog 63 #[.slice A n c, .func (.func 64) #[] #[]] w fun e w' => CmpQ L B A n c w e w' := by
  rcases Nat.eq_zero_or_pos n with h0 | h0
  · subst h0; refine (compact_nil A c _ w).mono ?_; rintro e w' ⟨rfl, rfl⟩; exact ⟨0, rfl, ⟨rfl, Nat.zero_le _, .inl rfl⟩, Below.refl _ _⟩
  · rcases h.2.2 with h1 | ⟨g, rest, rfl, hg, hA⟩
    · omega
    · refine (compactS_any hA h.1 h.2.1 hn).mono ?_; rintro e w' ⟨m, rest', rfl, hm, hA', _, hK⟩; have hle := keepN_le (L := L) n; exact ⟨m, rfl, ⟨hm.symm, by have := h.2.1; omega, .inr ⟨g, rest', rfl, hg, hA'⟩⟩, hK.below hg hB⟩
theorem sibsU (w : World) (A : Option Addr) (n : Nat) (L : List SibV) (h : SibsR w A n L) : ∃ LU : List SibU, LU.map (·.1) = L := by
  have : ∀ L : List SibV, (∀ x ∈ L, x.c.upto.length = 16) → ∃ LU : List SibU, LU.map (·.1) = L := by
    intro L
    induction L with
    | nil => intro _; exact ⟨[], rfl⟩
    | cons x L ih =>
      intro h; obtain ⟨LU, e⟩ := ih fun y hy => h y (List.mem_cons_of_mem _ hy); exact ⟨⟨x, h x List.mem_cons_self⟩ :: LU, by rw [List.map_cons, e]⟩
  exact this L fun x hx => (h.ok x hx).ctx.len
theorem sibsU_cells {w : World} {A : Option Addr} {n : Nat} {LU : List SibU} (h : SibsR w A n (LU.map (·.1))) : CellsR w A (LU.flatMap sibU) := by
  intro j u hu; have hlt := (List.getElem?_eq_some_iff.1 hu).1; rw [sibsU_len] at hlt; have e0 : j = j / 20 * 20 + j % 20 := by omega
  have hi : j / 20 < LU.length := by omega
  have hg := flat_get sibU_length LU (j / 20) (j % 20) (by omega); rw [← e0, hu, List.getElem?_eq_getElem hi] at hg; obtain ⟨⟨b, o, e, hr⟩, _⟩ := h.2 (j / 20) LU[j / 20].1 (by rw [List.getElem?_map, List.getElem?_eq_getElem hi]; rfl); refine ⟨_, e, ?_⟩; have := hr (j % 20) u hg.symm; rw [add_row]; rw [show o + j / 20 * 20 + j % 20 = o + j by omega] at this; exact this
end Go.Proofs.YtjpphldojbfpfaaGreatDoor
