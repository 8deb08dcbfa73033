/- Words for memory, over any program: a slice that reads as a list; append onto a row of the call's own; bytes to a string and back. No condition. -/
import Derived.WalkKit
import Derived.WalkSpells
import Derived.WalkLawsBesides
import Derived.Deep.AppendLies
import Derived.Deep.Draws
import Derived.Lib.MinMax
import Derived.Lib.Hide
import Derived.Laws.IdiomStrings
import Derived.Test.YtbpgodkdbbiadaaDoorPlain
namespace Go.Proofs.YtbpgodkdbbiadaaDoor
open Go.RowKit

theorem add_block (a : Addr) (n : Nat) : (a.add n).block = a.block := by unfold Addr.add; split <;> rfl
theorem add_zero_ (a : Addr) : a.add 0 = a := by unfold Addr.add; simp
theorem add_add_ (a : Addr) (i j : Nat) : (a.add i).add j = a.add (i + j) := by
  unfold Addr.add
  by_cases hi : i = 0 <;> by_cases hj : j = 0 <;> simp [hi, hj, Nat.add_assoc]
theorem add_row (g o i : Nat) : (⟨g, o, none⟩ : Addr).add i = ⟨g, o + i, none⟩ := by unfold Addr.add; split <;> simp_all

theorem lt_of_cell {w : World} {a : Addr} {v : Value} (h : w.cell? a = some v) : a.block < w.heap.size := block_lt_of_cell h

/-- The address A begins n places that hold xs (one cell each). -/
def Rd (w : World) (A : Option Addr) (n : Nat) (xs : List Value) : Prop :=
  xs.length = n ∧ ∀ i u, xs[i]? = some u → ∃ ad, A = some ad ∧ w.cell? (ad.add i) = some u

section
variable {w w' : World} {A : Option Addr} {n : Nat} {xs : List Value}
theorem Rd.len (h : Rd w A n xs) : xs.length = n := h.1
theorem Rd.nil (w : World) (A : Option Addr) : Rd w A 0 [] := ⟨rfl, fun i u h => by simp at h⟩
theorem Rd.at_ {k : Nat} (h : Rd w A n xs) (hk : k < n) : ∃ ad u, A = some ad ∧ xs[k]? = some u ∧ w.cell? (ad.add k) = some u := by
  have hl : k < xs.length := by have := h.1; omega
  obtain ⟨ad, e, hc⟩ := h.2 k _ (List.getElem?_eq_getElem hl)
  exact ⟨ad, xs[k], e, List.getElem?_eq_getElem hl, hc⟩
theorem Rd.keep (h : Rd w A n xs) (hk : ∀ p : Addr, p.block < w.heap.size → (∀ ad, A = some ad → p.block = ad.block) → w'.cell? p = w.cell? p) : Rd w' A n xs :=
  ⟨h.1, fun i u hu => by
    obtain ⟨ad, e, hc⟩ := h.2 i u hu
    refine ⟨ad, e, (hk _ (lt_of_cell hc) fun ad' e' => ?_).trans hc⟩
    rw [e] at e'; injection e' with e'; rw [e', add_block]⟩
theorem Rd.below (h : Rd w A n xs) (hb : Below w.heap.size w w') : Rd w' A n xs := h.keep fun _ hp _ => hb.cell hp
theorem Rd.drew (h : Rd w A n xs) : Rd w.drew A n xs := h
theorem Rd.drewN (h : Rd w A n xs) (k : Nat) : Rd (w.drewN k) A n xs := h
theorem Rd.alloc (h : Rd w A n xs) (o : Obj) : Rd (w.alloc o) A n xs := h.keep fun p hp _ => World.cell?_alloc_lt w o p hp
theorem Rd.grown (h : Rd w A n xs) {row : Option Nat} (hg : w.grownBy w' row) (hne : ∀ ad, A = some ad → some ad.block ≠ row) : Rd w' A n xs := by
  refine ⟨h.1, fun i u hu => ?_⟩
  obtain ⟨ad, e, hc⟩ := h.2 i u hu
  refine ⟨ad, e, (World.cell?_of_block (hg.block _ (lt_of_cell hc) ?_)).trans hc⟩
  rw [add_block]; exact hne ad e
theorem Rd.setCell (h : Rd w A n xs) {p : Addr} (hne : ∀ ad, A = some ad → ad.block ≠ p.block) (u : Value) : Rd (w.setCell p u) A n xs := by
  refine ⟨h.1, fun i v hv => ?_⟩
  obtain ⟨ad, e, hc⟩ := h.2 i v hv
  refine ⟨ad, e, (World.cell?_setCell_other w p _ u (fun e2 => hne ad e ?_)).trans hc⟩
  rw [e2]; exact (add_block ad i).symm
theorem Rd.cut (h : Rd w A n xs) {k : Nat} {cap : Nat} (hk : k ≤ n) (hc : n ≤ cap) : Rd w (if cap = k then A else A.map (·.add k)) (n - k) (xs.drop k) := by
  refine ⟨by rw [List.length_drop, h.1], fun i u hu => ?_⟩
  rw [List.getElem?_drop] at hu
  obtain ⟨ad, e, hcell⟩ := h.2 _ u hu
  have hlt : k + i < xs.length := by
    rcases Nat.lt_or_ge (k + i) xs.length with h' | h'
    · exact h'
    · rw [List.getElem?_eq_none h'] at hu; cases hu
  have := h.1
  rw [if_neg (by omega), e]
  exact ⟨ad.add k, rfl, by rw [add_add_]; exact hcell⟩
theorem Rd.take (h : Rd w A n xs) {k : Nat} (hk : k ≤ n) : Rd w A k (xs.take k) := by
  refine ⟨by rw [List.length_take, h.1]; omega, fun i u hu => ?_⟩
  refine h.2 i u ?_
  rw [List.getElem?_take] at hu
  split at hu
  · exact hu
  · cases hu
theorem Rd.of_own {base : Nat} {e : TypeId} {c : Nat} (h : w.ownsRow base e 1 (.slice A n c) n xs) : Rd w A n xs := by
  refine ⟨by simpa using h.1, fun i u hu => ?_⟩
  have hlt : i < xs.length := by
    rcases Nat.lt_or_ge i xs.length with h' | h'
    · exact h'
    · rw [List.getElem?_eq_none h'] at hu; cases hu
  have hn : 0 < n := by have := h.1; omega
  obtain ⟨g, cap, hv, _, _⟩ := h.form hn
  have hA : A = some ⟨g, 0, none⟩ := by injection hv
  subst hA
  exact ⟨_, rfl, h.cells (g := g) rfl i u hu⟩
/-- Places of a row that is known whole. -/
theorem Rd.of_row {g : Nat} {t : TypeId} {fr : Nat × Nat} {cs : Array Value} (hg : w.heap[g]? = some (.cells cs t fr)) (lo k : Nat) (hk : lo + k ≤ cs.size) :
    Rd w (some ⟨g, lo, none⟩) k ((cs.toList.drop lo).take k) := by
  refine ⟨by simp; omega, fun i u hu => ⟨_, rfl, ?_⟩⟩
  rw [add_row, cell_of_row w g _ cs t fr hg]
  rw [List.getElem?_take] at hu
  split at hu
  · rw [List.getElem?_drop] at hu
    simpa using hu
  · cases hu
end

theorem grownBy_trans {a b c : World} {row : Option Nat} (h : a.grownBy b row) (k : b.grownBy c row) : a.grownBy c row :=
  ⟨k.os.trans h.os, k.tape.trans h.tape, k.output.trans h.output, Nat.le_trans h.size k.size, fun i hi hne => (k.block i (Nat.lt_of_lt_of_le hi h.size) hne).trans (h.block i hi hne)⟩
theorem grownBy_drew {a b : World} {row : Option Nat} (h : a.grownBy b row) : a.grownBy b.drew row := ⟨h.os, h.tape, h.output, h.size, h.block⟩

/-- The world has at most grown. -/
def Gr (w w' : World) : Prop := Below w.heap.size w w'
theorem Gr.refl (w : World) : Gr w w := Below.refl _ _
theorem Gr.trans {a b c : World} (h : Gr a b) (k : Gr b c) : Gr a c := Below.trans h (Below.mono k h.size)
theorem Gr.rd {w w' : World} {A : Option Addr} {n : Nat} {xs : List Value} (h : Gr w w') (k : Rd w A n xs) : Rd w' A n xs := k.below h
theorem Gr.own {w w' : World} {base : Nat} {e : TypeId} {size n : Nat} {v : Value} {xs : List Value} (h : Gr w w') (k : w.ownsRow base e size v n xs) : w'.ownsRow base e size v n xs := by
  refine ⟨k.1, k.2.imp id fun ⟨g, cap, cur, h1, h2, h3, h4⟩ => ⟨g, cap, cur, h1, h2, ?_, h4⟩⟩
  refine (h.block g ?_).trans h3
  rcases Nat.lt_or_ge g w.heap.size with h' | h'
  · exact h'
  · rw [Array.getElem?_eq_none h'] at h3; cases h3
theorem Gr.alloc (w : World) (o : Obj) : Gr w (w.alloc o) := (Below.refl _ _).alloc (Nat.le_refl _) o
theorem Gr.drew (w : World) : Gr w w.drew := (Below.refl _ _).drew

/-- What is of the call's own is a nil slice, or lies at the head of a row. -/
theorem own_form {w : World} {base : Nat} {e : TypeId} {size n : Nat} {v : Value} {xs : List Value} (h : w.ownsRow base e size v n xs) :
    ∃ A c, v = .slice A n c ∧ n ≤ c ∧ (∀ ad, A = some ad → base ≤ ad.block ∧ ad.block < w.heap.size ∧ v.ownBlock = some ad.block) := by
  rcases h.2 with ⟨rfl, rfl⟩ | ⟨g, cap, cur, rfl, hb, hg, hc, _⟩
  · exact ⟨none, 0, rfl, Nat.le_refl _, fun ad h => by cases h⟩
  · refine ⟨_, cap, rfl, hc, fun ad h => ?_⟩
    injection h with h; subst h
    refine ⟨hb, ?_, rfl⟩
    rcases Nat.lt_or_ge g w.heap.size with h' | h'
    · exact h'
    · rw [Array.getElem?_eq_none h'] at hg; cases hg

theorem u8s_take (l : List UInt8) (k : Nat) : (u8s l).take k = u8s (l.take k) := by simp [u8s, List.map_take]
theorem u8s_drop (l : List UInt8) (k : Nat) : (u8s l).drop k = u8s (l.drop k) := by simp [u8s, List.map_drop]

/-- The same where it is not empty, with every part of it. -/
theorem own_at {w : World} {base : Nat} {e : TypeId} {n : Nat} {v : Value} {xs : List Value} (h : w.ownsRow base e 1 v n xs) (hn : 0 < n) :
    ∃ g c, v = .slice (some ⟨g, 0, none⟩) n c ∧ n ≤ c ∧ base ≤ g ∧ g < w.heap.size ∧ (∀ lo k, lo + k ≤ n → Rd w (some ⟨g, lo, none⟩) k ((xs.drop lo).take k)) := by
  obtain ⟨g, c, rfl, hb, hl⟩ := h.form hn
  obtain ⟨A, c', e1, hc, _⟩ := own_form h
  obtain rfl : c = c' := by injection e1
  refine ⟨g, c, rfl, hc, hb, hl, fun lo k hk => ?_⟩
  have hlen : xs.length = n := by simpa using h.1
  refine ⟨by simp; omega, fun i u hu => ⟨_, rfl, ?_⟩⟩
  rw [List.getElem?_take] at hu
  split at hu
  · rw [List.getElem?_drop] at hu
    have := h.cells (g := g) rfl (lo + i) u hu
    rw [add_row] at this ⊢
    simpa using this
  · cases hu
theorem own_bytes {w : World} {base : Nat} {e : TypeId} {n : Nat} {v : Value} {l : List UInt8} (h : w.ownsRow base e 1 v n (u8s l)) (hn : 0 < n) :
    ∃ g c, v = .slice (some ⟨g, 0, none⟩) n c ∧ n ≤ c ∧ base ≤ g ∧ g < w.heap.size ∧ (∀ lo k, lo + k ≤ n → Rd w (some ⟨g, lo, none⟩) k (u8s ((l.drop lo).take k))) := by
  obtain ⟨g, c, h1, h2, h3, h4, h5⟩ := own_at h hn
  refine ⟨g, c, h1, h2, h3, h4, fun lo k hk => ?_⟩
  have := h5 lo k hk
  rwa [u8s_drop, u8s_take] at this

section
variable {P : Program} (w : World)

/-- append onto a row of the call's own, whatever the source is. -/
theorem run_app (base : Nat) (t ty e : TypeId) (i : TypeInfo) (z : Value) (bytes : Nat) (ht : P.underlying t = some (.slice e)) (hi : P.info? e = some i) (hz : i.zero = some z)
    (hsize : i.size = 1) (hby : i.bytes = bytes) (hzs : z.cells.size = 1)
    (v : Value) (n : Nat) (xs : List Value) (hown : w.ownsRow base e 1 v n xs)
    (A : Option Addr) (m c : Nat) (news : List Value) (hr : Rd w A m news) (h1 : ∀ u ∈ news, u.oneCell' = true)
    (hbytes : (n + m) * bytes ≤ 140737488355328) (h63 : n + m ≤ maxLen) (hbase : base ≤ w.heap.size) :
    ∃ v' w', (Builtin.append_ #[t, t] ty #[v, .slice A m c]).run P w = .ok v' w' ∧ w'.ownsRow base e 1 v' (n + m) (xs ++ news) ∧ w.grownBy w' v.ownBlock ∧
      (v'.ownBlock = v.ownBlock ∨ ∃ g, v'.ownBlock = some g ∧ w.heap.size ≤ g) := by
  rcases Nat.eq_zero_or_pos m with h0 | h0
  · subst h0
    have hn : news = [] := List.eq_nil_of_length_eq_zero hr.1
    subst hn
    rcases A with _ | ad
    · have e0 : (Builtin.append_ #[t, t] ty #[v, .slice none 0 c]).run P w = .ok v w := by
        rcases hown.2 with ⟨rfl, rfl⟩ | ⟨g, cap, cur, rfl, _, _, hnc, _⟩
        · simp [Builtin.append_, run_underlying ht, sizeOf, typeInfo, hi, Builtin.lenOf, Builtin.firstCells]
        · simp [Builtin.append_, run_underlying ht, sizeOf, typeInfo, hi, Builtin.lenOf, Builtin.firstCells, hnc, storeCells]
      exact ⟨v, w, e0, by simpa using hown, World.grownBy.refl w _, .inl rfl⟩
    · obtain ⟨v', w', hrun, h2, h3, _, h5⟩ := run_append_own_at (P := P) w base t ty e i z 1 bytes ht hi hz hsize hby hzs (by omega) v n xs hown ad 0 c [] rfl (fun j u h => by simp at h) h1 h63 hbytes hbase
      exact ⟨v', w', hrun, h2, h3, h5.imp id fun h => ⟨_, h, Nat.le_refl _⟩⟩
  · obtain ⟨ad, _, rfl, _, _⟩ := hr.at_ h0
    obtain ⟨v', w', hrun, h2, h3, _, h5⟩ := run_append_own_at (P := P) w base t ty e i z 1 bytes ht hi hz hsize hby hzs (by omega) v n xs hown ad m c news (by simpa using hr.1)
      (fun j u hu => by obtain ⟨ad', e, hc⟩ := hr.2 j u hu; injection e with e; subst e; exact hc) h1 h63 hbytes hbase
    exact ⟨v', w', hrun, h2, h3, h5.imp id fun h => ⟨_, h, Nat.le_refl _⟩⟩

/-- What is left behind an append: the row, the frame, where it lies. -/
structure Apped (base : Nat) (e : TypeId) (w w' : World) (v v' : Value) (n : Nat) (xs : List Value) : Prop where
  own : w'.ownsRow base e 1 v' n xs
  grown : w.grownBy w' v.ownBlock
  lies : v'.ownBlock = v.ownBlock ∨ ∃ g, v'.ownBlock = some g ∧ w.heap.size ≤ g

theorem Apped.below {w w' : World} {base : Nat} {e : TypeId} {v v' : Value} {n m : Nat} {xs ys : List Value} (h : Apped base e w w' v v' n xs) (ho : w.ownsRow base e 1 v m ys) (hb : base ≤ w.heap.size) : Below base w w' :=
  (Below.refl base w).grown h.grown hb (fun k hk => (ho.lt k hk).1)

theorem wp_app {o : Oper} {a : Act} {K : Act → World → Prop} {Q : Exit → Act → World → Prop} (s x : Operand) (t : TypeId)
    (ho : o.op = .call { callee := .builtin .append, args := #[s, x], argTypes := #[t, t] })
    (base : Nat) (e : TypeId) (i : TypeInfo) (z : Value) (bytes : Nat) (ht : P.underlying t = some (.slice e)) (hi : P.info? e = some i) (hz : i.zero = some z)
    (hsize : i.size = 1) (hby : i.bytes = bytes) (hzs : z.cells.size = 1)
    (v : Value) (n : Nat) (xs : List Value) (hs : a.eval s = v) (hown : w.ownsRow base e 1 v n xs)
    (A : Option Addr) (m c : Nat) (news : List Value) (hx : a.eval x = .slice A m c) (hr : Rd w A m news) (h1 : ∀ u ∈ news, u.oneCell' = true)
    (hbytes : (n + m) * bytes ≤ 140737488355328) (h63 : n + m ≤ maxLen) (hbase : base ≤ w.heap.size)
    (h : ∀ v' w', Apped base e w w' v v' (n + m) (xs ++ news) → K (a.put o.dst v') w') : o.wp P a w K Q := by
  obtain ⟨v', w', hrun, h2, h3, h4⟩ := run_app (P := P) w base t o.type e i z bytes ht hi hz hsize hby hzs v n xs hown A m c news hr h1 hbytes h63 hbase
  unfold Oper.wp execOp
  simp only [ho, resolve, invoke, builtin, Sem.run_bind, Sem.run_pure, Result.andThen_ok, List.map_toArray, List.map_cons, List.map_nil, hs, hx, hrun]
  exact h v' w' ⟨h2, h3, h4⟩

theorem wpList_app {ops : Array Oper} {rest : List Oper} {o : Oper} {a : Act} {Q : Exit → Act → World → Prop} (hgd : o.guard = none) (s x : Operand) (t : TypeId)
    (ho : o.op = .call { callee := .builtin .append, args := #[s, x], argTypes := #[t, t] })
    (base : Nat) (e : TypeId) (i : TypeInfo) (z : Value) (bytes : Nat) (ht : P.underlying t = some (.slice e)) (hi : P.info? e = some i) (hz : i.zero = some z)
    (hsize : i.size = 1) (hby : i.bytes = bytes) (hzs : z.cells.size = 1)
    (v : Value) (n : Nat) (xs : List Value) (hs : a.eval s = v) (hown : w.ownsRow base e 1 v n xs)
    (A : Option Addr) (m c : Nat) (news : List Value) (hx : a.eval x = .slice A m c) (hr : Rd w A m news) (h1 : ∀ u ∈ news, u.oneCell' = true)
    (hbytes : (n + m) * bytes ≤ 140737488355328) (h63 : n + m ≤ maxLen) (hbase : base ≤ w.heap.size)
    (h : ∀ v' w', Apped base e w w' v v' (n + m) (xs ++ news) → wpList P ops Q rest (a.put o.dst v') w') : wpList P ops Q (o :: rest) a w :=
  wpList_plain hgd fun _ hK => wp_app w s x t ho base e i z bytes ht hi hz hsize hby hzs v n xs hs hown A m c news hx hr h1 hbytes h63 hbase fun v' w' h2 => hK _ _ (h v' w' h2)

/-- The same, of one byte in a block of its own. -/
theorem wpList_app1 {ops : Array Oper} {rest : List Oper} {o : Oper} {a : Act} {Q : Exit → Act → World → Prop} (hgd : o.guard = none) (s x : Operand) (t : TypeId)
    (ho : o.op = .call { callee := .builtin .append, args := #[s, x], argTypes := #[t, t] })
    (base : Nat) (e : TypeId) (i : TypeInfo) (z : Value) (bytes : Nat) (ht : P.underlying t = some (.slice e)) (hi : P.info? e = some i) (hz : i.zero = some z)
    (hsize : i.size = 1) (hby : i.bytes = bytes) (hzs : z.cells.size = 1)
    (v : Value) (n : Nat) (xs : List Value) (hs : a.eval s = v) (hown : w.ownsRow base e 1 v n xs)
    (y u : Value) (hx : a.eval x = .slice (some ⟨w.heap.size, 0, none⟩) 1 1) (hy : y = u) (h1 : u.oneCell' = true)
    (hbytes : (n + 1) * bytes ≤ 140737488355328) (h63 : n + 1 ≤ maxLen) (hbase : base ≤ w.heap.size)
    (h : ∀ v' w', Apped base e w w' v v' (n + 1) (xs ++ [u]) → wpList P ops Q rest (a.put o.dst v') w') : wpList P ops Q (o :: rest) a (w.alloc (.cells #[y] e)) := by
  subst hy
  refine wpList_app (w.alloc (.cells #[y] e)) hgd s x t ho base e i z bytes ht hi hz hsize hby hzs v n xs hs (hown.alloc _) _ 1 1 [y] hx
    ⟨rfl, fun j u hj => ⟨_, rfl, cell_one_new w y e j u hj⟩⟩ (by simpa using h1) hbytes h63 (by simp; omega) fun v' w' hA => h v' w' ⟨hA.own, ?_, ?_⟩
  · have h2 := hA.grown
    exact ⟨h2.os, h2.tape, h2.output, by have := h2.size; simp at this; omega, fun k hk hne => (h2.block k (by simp; omega) hne).trans (Below.heap_alloc w _ k hk)⟩
  · rcases hA.lies with e1 | ⟨g, e1, hg⟩
    · exact .inl e1
    · exact .inr ⟨g, e1, by simp at hg; omega⟩

/-- The same at a step of a region that draws its order. -/
theorem step_app {ops : Array Oper} {o : Oper} {a : Act} {K : Act → World → Prop} {Q : Exit → Act → World → Prop} {E : Prop} (hgd : o.guard = none) (s x : Operand) (t : TypeId)
    (ho : o.op = .call { callee := .builtin .append, args := #[s, x], argTypes := #[t, t] })
    (base : Nat) (e : TypeId) (i : TypeInfo) (z : Value) (bytes : Nat) (ht : P.underlying t = some (.slice e)) (hi : P.info? e = some i) (hz : i.zero = some z)
    (hsize : i.size = 1) (hby : i.bytes = bytes) (hzs : z.cells.size = 1)
    (v : Value) (n : Nat) (xs : List Value) (hs : a.eval s = v) (hown : w.ownsRow base e 1 v n xs)
    (A : Option Addr) (m c : Nat) (news : List Value) (hx : a.eval x = .slice A m c) (hr : Rd w A m news) (h1 : ∀ u ∈ news, u.oneCell' = true)
    (hbytes : (n + m) * bytes ≤ 140737488355328) (h63 : n + m ≤ maxLen) (hbase : base ≤ w.heap.size)
    (h : ∀ v' w', Apped base e w w' v v' (n + m) (xs ++ news) → K (a.put o.dst v') w') :
    if Region.wanted o (yielded ops a.tmps) = true then Oper.wp P o a w K Q else E := by
  have hw : Region.wanted o (yielded ops a.tmps) = true := by simp [Region.wanted, hgd]
  rw [if_pos hw]
  exact wp_app w s x t ho base e i z bytes ht hi hz hsize hby hzs v n xs hs hown A m c news hx hr h1 hbytes h63 hbase h
theorem wp_app1 {o : Oper} {a : Act} {K : Act → World → Prop} {Q : Exit → Act → World → Prop} (s x : Operand) (t : TypeId)
    (ho : o.op = .call { callee := .builtin .append, args := #[s, x], argTypes := #[t, t] })
    (base : Nat) (e : TypeId) (i : TypeInfo) (z : Value) (bytes : Nat) (ht : P.underlying t = some (.slice e)) (hi : P.info? e = some i) (hz : i.zero = some z)
    (hsize : i.size = 1) (hby : i.bytes = bytes) (hzs : z.cells.size = 1)
    (v : Value) (n : Nat) (xs : List Value) (hs : a.eval s = v) (hown : w.ownsRow base e 1 v n xs)
    (y u : Value) (H : Nat) (hH : w.heap.size = H) (hx : a.eval x = .slice (some ⟨H, 0, none⟩) 1 1) (hy : y = u) (h1 : u.oneCell' = true)
    (hbytes : (n + 1) * bytes ≤ 140737488355328) (h63 : n + 1 ≤ maxLen) (hbase : base ≤ w.heap.size)
    (h : ∀ v' w', Apped base e w w' v v' (n + 1) (xs ++ [u]) → K (a.put o.dst v') w') : o.wp P a (w.alloc (.cells #[y] e)) K Q := by
  subst hy
  subst hH
  refine wp_app (w.alloc (.cells #[y] e)) s x t ho base e i z bytes ht hi hz hsize hby hzs v n xs hs (hown.alloc _) _ 1 1 [y] hx
    ⟨rfl, fun j u hj => ⟨_, rfl, cell_one_new w y e j u hj⟩⟩ (by simpa using h1) hbytes h63 (by simp; omega) fun v' w' hA => h v' w' ⟨hA.own, ?_, ?_⟩
  · have h2 := hA.grown
    exact ⟨h2.os, h2.tape, h2.output, by have := h2.size; simp at this; omega, fun k hk hne => (h2.block k (by simp; omega) hne).trans (Below.heap_alloc w _ k hk)⟩
  · rcases hA.lies with e1 | ⟨g, e1, hg⟩
    · exact .inl e1
    · exact .inr ⟨g, e1, by simp at hg; omega⟩
theorem step_app1 {ops : Array Oper} {o : Oper} {a : Act} {K : Act → World → Prop} {Q : Exit → Act → World → Prop} {E : Prop} (hgd : o.guard = none) (s x : Operand) (t : TypeId)
    (ho : o.op = .call { callee := .builtin .append, args := #[s, x], argTypes := #[t, t] })
    (base : Nat) (e : TypeId) (i : TypeInfo) (z : Value) (bytes : Nat) (ht : P.underlying t = some (.slice e)) (hi : P.info? e = some i) (hz : i.zero = some z)
    (hsize : i.size = 1) (hby : i.bytes = bytes) (hzs : z.cells.size = 1)
    (v : Value) (n : Nat) (xs : List Value) (hs : a.eval s = v) (hown : w.ownsRow base e 1 v n xs)
    (y u : Value) (H : Nat) (hH : w.heap.size = H) (hx : a.eval x = .slice (some ⟨H, 0, none⟩) 1 1) (hy : y = u) (h1 : u.oneCell' = true)
    (hbytes : (n + 1) * bytes ≤ 140737488355328) (h63 : n + 1 ≤ maxLen) (hbase : base ≤ w.heap.size)
    (h : ∀ v' w', Apped base e w w' v v' (n + 1) (xs ++ [u]) → K (a.put o.dst v') w') :
    if Region.wanted o (yielded ops a.tmps) = true then Oper.wp P o a (w.alloc (.cells #[y] e)) K Q else E := by
  have hw : Region.wanted o (yielded ops a.tmps) = true := by simp [Region.wanted, hgd]
  rw [if_pos hw]
  exact wp_app1 w s x t ho base e i z bytes ht hi hz hsize hby hzs v n xs hs hown y u H hH hx hy h1 hbytes h63 hbase h

/-- append onto a slice without room, whatever comes: nothing that was there has turned. -/
theorem run_app0 (base : Nat) (t ty e : TypeId) (i : TypeInfo) (z : Value) (ht : P.underlying t = some (.slice e)) (hi : P.info? e = some i) (hz : i.zero = some z)
    (hsize : i.size = 1) (hby : i.bytes = 1) (hzs : z.cells.size = 1) (b : Addr) (hown : w.ownsRow base e 1 (.slice (some b) 0 0) 0 [])
    (A : Option Addr) (m c : Nat) (l : List UInt8) (hr : Rd w A m (u8s l)) (hm : m ≤ 1000000000) (hbase : base ≤ w.heap.size) :
    ∃ v' w', (Builtin.append_ #[t, t] ty #[.slice (some b) 0 0, .slice A m c]).run P w = .ok v' w' ∧ w'.ownsRow base e 1 v' m (u8s l) ∧ Below w.heap.size w w' := by
  rcases Nat.eq_zero_or_pos m with h0 | h0
  · subst h0
    have hn : u8s l = [] := List.eq_nil_of_length_eq_zero hr.1
    rw [hn]
    refine ⟨.slice (some b) 0 0, w, ?_, hown, Below.refl _ _⟩
    rcases A with _ | ad
    · simp [Builtin.append_, run_underlying ht, sizeOf, typeInfo, hi, Builtin.lenOf, Builtin.firstCells, storeCells]
    · simp [Builtin.append_, run_underlying ht, sizeOf, typeInfo, hi, Builtin.lenOf, Builtin.firstCells, storeCells, loadCells, loadCellsFrom]
  · obtain ⟨ad, _, rfl, _, _⟩ := hr.at_ h0
    obtain ⟨v', w', hrun, h1, h2⟩ := run_append_arg_grows (P := P) w t ty e i z 1 1 ht hi hz hsize hby hzs (by omega) b 0 0 [] rfl (fun j u h => by simp at h) ad m c (u8s l) (by simpa using hr.1)
      (fun j u hu => by obtain ⟨ad', e, hc⟩ := hr.2 j u hu; injection e with e; subst e; exact hc) (by omega) (by simp only [maxLen]; omega) (by omega)
    refine ⟨v', w', hrun, ?_, (Below.refl _ _).grown h2 (Nat.le_refl _) (fun k hk => by cases hk)⟩
    obtain ⟨h3, h4⟩ := h1
    refine ⟨by simpa using h3, ?_⟩
    rcases h4 with ⟨h4, h5⟩ | ⟨g, cap, cur, h4, h5, h6⟩
    · omega
    · exact .inr ⟨g, cap, cur, by simpa using h4, by omega, by simpa using h6⟩
theorem wp_app0 {o : Oper} {a : Act} {K : Act → World → Prop} {Q : Exit → Act → World → Prop} (s x : Operand) (t : TypeId)
    (ho : o.op = .call { callee := .builtin .append, args := #[s, x], argTypes := #[t, t] })
    (base : Nat) (e : TypeId) (i : TypeInfo) (z : Value) (ht : P.underlying t = some (.slice e)) (hi : P.info? e = some i) (hz : i.zero = some z)
    (hsize : i.size = 1) (hby : i.bytes = 1) (hzs : z.cells.size = 1) (b : Addr) (hs : a.eval s = .slice (some b) 0 0) (hown : w.ownsRow base e 1 (.slice (some b) 0 0) 0 [])
    (A : Option Addr) (m c : Nat) (l : List UInt8) (hx : a.eval x = .slice A m c) (hr : Rd w A m (u8s l)) (hm : m ≤ 1000000000) (hbase : base ≤ w.heap.size)
    (h : ∀ v' w', w'.ownsRow base e 1 v' m (u8s l) → Below w.heap.size w w' → K (a.put o.dst v') w') : o.wp P a w K Q := by
  obtain ⟨v', w', hrun, h2, h3⟩ := run_app0 (P := P) w base t o.type e i z ht hi hz hsize hby hzs b hown A m c l hr hm hbase
  unfold Oper.wp execOp
  simp only [ho, resolve, invoke, builtin, Sem.run_bind, Sem.run_pure, Result.andThen_ok, List.map_toArray, List.map_cons, List.map_nil, hs, hx, hrun]
  exact h v' w' h2 h3

/-- append([]byte{}, b[:k]...): a copy. -/
theorem wp_clip {o : Oper} {a : Act} {K : Act → World → Prop} {Q : Exit → Act → World → Prop} (s x : Operand) (t : TypeId)
    (ho : o.op = .call { callee := .builtin .append, args := #[s, x], argTypes := #[t, t] })
    (e : TypeId) (i : TypeInfo) (z : Value) (ht : P.underlying t = some (.slice e)) (hi : P.info? e = some i) (hz : i.zero = some z)
    (hsize : i.size = 1) (hby : i.bytes = 1) (hzs : z.cells.size = 1) (H : Nat) (hH : w.heap.size = H) (hs : a.eval s = .slice (some ⟨H, 0, none⟩) 0 0)
    (A : Option Addr) (m c : Nat) (l : List UInt8) (hx : a.eval x = .slice A m c) (hr : Rd w A m (u8s l)) (hm : m ≤ 1000000000)
    (h : ∀ v' w', w'.ownsRow w.heap.size e 1 v' m (u8s l) → Below w.heap.size w w' → K (a.put o.dst v') w') : o.wp P a (w.alloc (.cells #[] e)) K Q := by
  subst hH
  have hown0 : (w.alloc (.cells #[] e)).ownsRow w.heap.size e 1 (.slice (some ⟨w.heap.size, 0, none⟩) 0 0) 0 [] := World.ownsRow_lit w #[] 0 (Nat.le_refl _) (by simp [maxLen]) rfl
  refine wp_app _ s x t ho w.heap.size e i z 1 ht hi hz hsize hby hzs _ 0 [] hs hown0 A m c (u8s l) hx (hr.alloc _) (u8s_oneCell _) (by omega) (by simp only [maxLen]; omega) (by simp) fun v' w' hA => ?_
  refine h v' w' (by have := hA.own; simpa using this) ?_
  exact ((Below.refl w.heap.size w).alloc (Nat.le_refl _) _).trans (hA.below hown0 (by simp))
theorem wpList_clip {ops : Array Oper} {rest : List Oper} {o : Oper} {a : Act} {Q : Exit → Act → World → Prop} (hgd : o.guard = none) (s x : Operand) (t : TypeId)
    (ho : o.op = .call { callee := .builtin .append, args := #[s, x], argTypes := #[t, t] })
    (e : TypeId) (i : TypeInfo) (z : Value) (ht : P.underlying t = some (.slice e)) (hi : P.info? e = some i) (hz : i.zero = some z)
    (hsize : i.size = 1) (hby : i.bytes = 1) (hzs : z.cells.size = 1) (H : Nat) (hH : w.heap.size = H) (hs : a.eval s = .slice (some ⟨H, 0, none⟩) 0 0)
    (A : Option Addr) (m c : Nat) (l : List UInt8) (hx : a.eval x = .slice A m c) (hr : Rd w A m (u8s l)) (hm : m ≤ 1000000000)
    (h : ∀ v' w', w'.ownsRow w.heap.size e 1 v' m (u8s l) → Below w.heap.size w w' → wpList P ops Q rest (a.put o.dst v') w') : wpList P ops Q (o :: rest) a (w.alloc (.cells #[] e)) :=
  wpList_plain hgd fun _ hK => wp_clip w s x t ho e i z ht hi hz hsize hby hzs H hH hs A m c l hx hr hm fun v' w' h1 h2 => hK _ _ (h v' w' h1 h2)

/-- string(b). -/
theorem run_str {src dst e : TypeId} {A : Option Addr} {n c : Nat} {l : List UInt8} (hs : P.underlying src = some (.slice e)) (he : P.underlying e = some (.int .u8)) (hd : P.underlying dst = some .string)
    (hr : Rd w A n (u8s l)) : (convert src dst (.slice A n c)).run P w = .ok (.string ⟨l.toArray⟩) w := by
  have hl : l.length = n := by simpa using hr.1
  rcases Nat.eq_zero_or_pos n with h0 | h0
  · subst h0
    have : l = [] := List.eq_nil_of_length_eq_zero hl
    subst this
    rcases A with _ | ad
    · rw [run_convert_bytes_nil w src e hs he 0 c dst hd]; rfl
    · have := run_convert_bytes_back (P := P) w src dst e ad c [] hs he hd (fun j hj => by simp at hj)
      simpa using this
  · obtain ⟨ad, _, rfl, _, _⟩ := hr.at_ h0
    subst hl
    refine run_convert_bytes_back (P := P) w src dst e ad c l hs he hd fun j hj => ?_
    obtain ⟨ad', e, hc⟩ := hr.2 j (.int .u8 (l[j].toNat : Int)) (by simp [u8s, List.getElem?_eq_getElem hj])
    injection e with e; subst e; exact hc

theorem wpList_str {ops : Array Oper} {rest : List Oper} {o : Oper} {a : Act} {Q : Exit → Act → World → Prop} (hgd : o.guard = none) (src dst : TypeId) (x : Operand) (ho : o.op = .convert src dst x)
    (e : TypeId) (A : Option Addr) (n c : Nat) (l : List UInt8) (hs : P.underlying src = some (.slice e)) (he : P.underlying e = some (.int .u8)) (hd : P.underlying dst = some .string)
    (hx : a.eval x = .slice A n c) (hr : Rd w A n (u8s l)) (h : wpList P ops Q rest (a.put o.dst (.string ⟨l.toArray⟩)) w) : wpList P ops Q (o :: rest) a w := by
  refine wpList_plain hgd fun K hK => ?_
  unfold Oper.wp execOp
  simp only [ho, hx, Sem.run_bind, run_str w hs he hd hr, Result.andThen_ok, Sem.run_pure]
  exact hK _ _ h
end

end Go.Proofs.YtbpgodkdbbiadaaDoor
