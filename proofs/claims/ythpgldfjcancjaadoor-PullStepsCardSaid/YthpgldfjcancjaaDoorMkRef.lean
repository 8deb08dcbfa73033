/- The reference's tree in memory; the steps of its DocSet, in plain. No condition. -/
import Derived.Test.YthpgldfjcancjaaDoorMkRefN
import Derived.Test.YthpgldfjcancjaaDoorKitM
namespace Go.Proofs.YthpgldfjcancjaaDoor
open Go.RowKit
/-- The reference's steps: what is ahead, and whether the row is laid already. -/
def stepD (k d : Nm) (s : Rw × Bool) (r : Nm × Nm) : Rw × Bool :=
  let s1 := if s.2 = false ∧ ¬ Lib.compareBytes r.1.1 k.1 < 0 then (s.1 ++ [(k, d)], true) else s
  if r.1 = k then s1 else (s1.1 ++ [r], s1.2)
def stD (k d : Nm) (R : Rw) (i : Nat) : Rw × Bool := (R.take i).foldl (stepD k d) ([], decide (d.1 = Z32))
theorem stD_succ {k d : Nm} {R : Rw} {i : Nat} {r : Nm × Nm} (h : R[i]? = some r) : stD k d R (i + 1) = stepD k d (stD k d R i) r := by
  unfold stD
  rw [List.take_add_one, h, List.foldl_append]
  rfl
theorem fold_done (k d : Nm) : ∀ (S out : Rw), S.foldl (stepD k d) (out, true) = (out ++ S.filter (fun p => decide (p.1 ≠ k)), true)
  | [], out => by simp
  | r :: S, out => by
    rw [List.foldl_cons]
    by_cases e : r.1 = k
    · have h1 : stepD k d (out, true) r = (out, true) := by simp [stepD, e]
      rw [h1, fold_done k d S out, List.filter_cons, if_neg (by simpa using e)]
    · have h1 : stepD k d (out, true) r = (out ++ [r], true) := by simp [stepD, e]
      rw [h1, fold_done k d S, List.filter_cons, if_pos (by simpa using e), List.append_assoc]
      rfl
theorem fold_open (k d : Nm) : ∀ (S out : Rw), (if (S.foldl (stepD k d) (out, false)).2 then (S.foldl (stepD k d) (out, false)).1 else (S.foldl (stepD k d) (out, false)).1 ++ [(k, d)]) = out ++ insR k d S
  | [], out => by simp [insR]
  | r :: S, out => by
    rw [List.foldl_cons]
    by_cases hlt : Lib.compareBytes r.1.1 k.1 < 0
    · have e : ¬ r.1 = k := fun e => by rw [e] at hlt; exact cb_irrefl _ hlt
      have h1 : stepD k d (out, false) r = (out ++ [r], false) := by simp [stepD, e, hlt]
      rw [h1, fold_open k d S, insR, if_pos hlt, List.append_assoc]
      rfl
    · by_cases e : r.1 = k
      · have h1 : stepD k d (out, false) r = (out ++ [(k, d)], true) := by simp [stepD, e, cb_irrefl]
        rw [h1, fold_done, if_pos rfl, insR, if_neg hlt, List.filter_cons, if_neg (by simpa using e), List.append_assoc]
        rfl
      · have h1 : stepD k d (out, false) r = (out ++ [(k, d)] ++ [r], true) := by
          unfold stepD
          rw [if_neg e, if_pos ⟨rfl, hlt⟩]
        rw [h1, fold_done, if_pos rfl, insR, if_neg hlt, List.filter_cons, if_pos (by simpa using e), List.append_assoc, List.append_assoc]
        rfl
theorem stD_end (k d : Nm) (R : Rw) {n : Nat} (hn : R.length ≤ n) : (if (stD k d R n).2 then (stD k d R n).1 else (stD k d R n).1 ++ [(k, d)]) = setR R k d := by
  unfold stD setR
  rw [List.take_of_length_le hn]
  by_cases hz : d.1 = Z32
  · rw [if_pos hz, decide_eq_true hz, fold_done, if_pos rfl]
    rfl
  · rw [if_neg hz, decide_eq_false hz, fold_open]
    rfl
theorem stepD_length (k d : Nm) (s : Rw × Bool) (r : Nm × Nm) : (stepD k d s r).1.length ≤ s.1.length + 2 := by
  unfold stepD
  by_cases h1 : s.2 = false ∧ ¬ Lib.compareBytes r.1.1 k.1 < 0
  · by_cases h2 : r.1 = k
    · rw [if_pos h2, if_pos h1]; simp
    · rw [if_neg h2, if_pos h1]; simp
  · by_cases h2 : r.1 = k
    · rw [if_pos h2, if_neg h1]; omega
    · rw [if_neg h2, if_neg h1]; simp
theorem stD_length (k d : Nm) (R : Rw) : ∀ i, (stD k d R i).1.length ≤ 2 * i
  | 0 => by simp [stD]
  | i + 1 => by
    rcases Nat.lt_or_ge i R.length with h | h
    · rw [stD_succ (List.getElem?_eq_getElem h)]
      have h1 := stepD_length k d (stD k d R i) R[i]
      have h2 := stD_length k d R i
      omega
    · have : stD k d R (i + 1) = stD k d R i := by unfold stD; rw [List.take_of_length_le (by omega), List.take_of_length_le h]
      rw [this]
      have h2 := stD_length k d R i
      omega
def rowC (p : Nm × Nm) : List Value := [.string ⟨p.1.1.toArray⟩, .string ⟨p.2.1.toArray⟩]
def rowsC (R : Rw) : List Value := R.flatMap rowC
theorem rowC_length (p : Nm × Nm) : (rowC p).length = 2 := rfl
theorem rowsC_app (S : Rw) (p : Nm × Nm) : rowsC (S ++ [p]) = rowsC S ++ rowC p := by unfold rowsC; rw [List.flatMap_append]; simp
theorem rowsC_get {R : Rw} {i : Nat} {r : Nm × Nm} (h : R[i]? = some r) {j : Nat} (hj : j < 2) : (rowsC R)[i * 2 + j]? = (rowC r)[j]? := by
  unfold rowsC
  rw [flat_get rowC_length R i j hj, h]
  rfl
/-- The reference's tree at p. -/
structure RT (B : Nat) (w : World) (p : Nat) (R : Rw) : Prop where
  lo : B ≤ p
  mem : ∃ A c, Arr w p 57 [.slice A R.length c] ∧ w.ownsRow B 63 2 (.slice A R.length c) R.length (rowsC R)
def rtT (p : Nat) : Nat → Obj → Bool := fun k o => match o with | .cells _ t _ => k == p && t == 57 | _ => false
def rwT : Nat → Obj → Bool := fun _ o => match o with | .cells _ t _ => t == 63 | _ => false
section
variable {τ : Nat → Obj → Bool} {B C : Nat} {w w' : World} {p : Nat} {R : Rw}
theorem RT.tn (h : RT B w p R) (hT : Tn τ C w w') (h1 : ∀ C f, τ p (.cells C 57 f) = false) (h2 : ∀ k C f, τ k (.cells C 63 f) = false) : RT B w' p R := by
  obtain ⟨A, c, a1, a2⟩ := h.mem
  exact ⟨h.lo, A, c, a1.tn hT h1, own_tn a2 hT h2⟩
theorem RT.gr (h : RT B w p R) (hG : Gr w w') : RT B w' p R := h.tn (τ := fun _ _ => false) (C := 0) (Tn.of_gr hG) (fun _ _ => rfl) (fun _ _ _ => rfl)
end
theorem own_at2 {w : World} {B : Nat} {e : TypeId} {A : Option Addr} {n c : Nat} {R : Rw} (h : w.ownsRow B e 2 (.slice A n c) n (rowsC R)) {i : Nat} {r : Nm × Nm} (hi : i < n) (hr : R[i]? = some r) :
    ∃ gN, A = some ⟨gN, 0, none⟩ ∧ gN < w.heap.size ∧ w.rangeAt gN (i * 2) (rowC r) := by
  rcases h.2 with ⟨_, e2⟩ | ⟨gN, cap, cur, e1, _, hg, _⟩
  · omega
  · injection e1 with e1
    subst e1
    refine ⟨gN, rfl, (Array.getElem?_eq_some_iff.1 hg).1, fun j u hu => ?_⟩
    have hj : j < 2 := (List.getElem?_eq_some_iff.1 hu).1
    have hc := h.cells (g := gN) rfl (i * 2 + j) u (by rw [rowsC_get hr hj]; exact hu)
    rw [add_row, Nat.zero_add] at hc
    exact hc
@[go_sem] theorem run_buildRow (x y : ByteArray) (w : World) : (Instr.build 63 #[(0, .string x), (1, .string y)]).run Tryd.prog w = .ok (.agg #[.string x, .string y]) w := run_build w 63 _ _ (by kernel_rfl)
section
variable {ops : Array Oper} {rest : List Oper} {o : Oper} {x : Act} {w : World} {Q : Exit → Act → World → Prop}
theorem infoRow : (Tryd.prog.info? 63).map (fun i => (i.size, i.bytes, i.zero)) = some (2, 32, some (.agg #[.string ⟨#[]⟩, .string ⟨#[]⟩])) := by kernel_rfl
theorem wpList_appRow (hgd : o.guard = none) (s y : Operand) (ho : o.op = .call { callee := .builtin .append, args := #[s, y], argTypes := #[55, 55] }) {B : Nat} {A : Option Addr} {n c : Nat} {S : Rw}
    (hs : x.eval s = .slice A n c) (hown : w.ownsRow B 63 2 (.slice A n c) n (rowsC S)) (p : Nm × Nm) {vs : List Value} (hvs : rowC p = vs) (g : Nat) (hx : x.eval y = .slice (some ⟨g, 0, none⟩) 1 1) (hA : Arr w g 63 vs) (hn : n ≤ 100000) (hB : B ≤ w.heap.size)
    (hK : ∀ A' c' w', w'.ownsRow B 63 2 (.slice A' (n + 1) c') (n + 1) (rowsC (S ++ [p])) → Tn rwT B w w' → wpList Tryd.prog ops Q rest (x.put o.dst (.slice A' (n + 1) c')) w') : wpList Tryd.prog ops Q (o :: rest) x w := by
  subst hvs
  cases hie : Tryd.prog.info? 63 with
  | none => have := infoRow; rw [hie] at this; cases this
  | some ie =>
    have hq := infoRow
    rw [hie] at hq
    simp only [Option.map_some, Option.some.injEq, Prod.mk.injEq] at hq
    obtain ⟨q1, q2, q3⟩ := hq
    refine wpList_appT hgd s y 55 ho B 63 ie _ 2 32 Tryd.underlying55 hie q3 q1 q2 rfl (by omega) hs hown ⟨g, 0, none⟩ 1 1 (rowC p) hx rfl (fun j u h => by rw [add_row, Nat.zero_add]; exact hA.cell h) (by simp [rowC, Value.oneCell']) (by unfold maxLen; omega) (by omega) hB ?_
    intro A' c' w' h1 _ h3
    rw [← rowsC_app] at h1
    exact hK A' c' w' h1 (h3 rwT (fun _ _ _ => by simp [rwT]))
end
end Go.Proofs.YthpgldfjcancjaaDoor
