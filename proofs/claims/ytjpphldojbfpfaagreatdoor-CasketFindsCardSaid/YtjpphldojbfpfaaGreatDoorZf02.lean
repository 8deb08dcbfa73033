/- Texts of one proof, laid as one: part 2. No condition. -/
import Derived.ProofKit
import Derived.OpenShut
import Derived.ShutString
import Derived.ChangeOld
import Derived.Maps.Keyed
import Derived.DeepKeys4
import Derived.Carry
import Derived.WideLaws
import Derived.ChangeMaps5
import Derived.Laws.AppendOwn
import Derived.Lib.BufferWrite
import Derived.Laws.StructEq
import Derived.Lib.AppendZerosOnto
import Derived.Stop.BytesEq
import Derived.Laws.Small
import Derived.Sort.Grow
import Derived.Laws.Tables
import Derived.ChangeSame
import Derived.Deep.Upon
import Derived.Deep.AppendSrc
import Derived.Test.YtjpphldojbfpfaaGreatDoorZf01
namespace Go.Proofs.YtjpphldojbfpfaaGreatDoor
open Go.ChangeShapes Go.WideShapes Go.ChangeAt Go.RowKit
section
variable {H : Type} {enc : TypeId × Value → H} {P : Program} {w : World} {base : Nat} {spare : Nat → Bool} {held : Bool}
end
theorem u8_of_wf {z : Int} (h : (Lit.int .u8 z).wf = true) : ∃ x : UInt8, z = x.toNat := by
  simp [Lit.wf, IntKind.min, IntKind.max, IntKind.signed, IntKind.bits] at h; exact ⟨UInt8.ofNat z.toNat, by rw [UInt8.toNat_ofNat']; omega⟩
end Go.Proofs.YtjpphldojbfpfaaGreatDoor
namespace Go.Proofs.YtjpphldojbfpfaaGreatDoor
open Go.RowKit
open Go.Maps (Keyed)
open Go.ChangeMaps (setBlock)
section
variable {P : Program} {k t e : TypeId} {w w' : World} {b : Nat} {L : List (Value × Value)}
end
section
variable {P : Program} {k t e : TypeId} {b : Nat} {L : List (Value × Value)} {ev : Operand → Value} {d : Option Tmp} {ty T U : TypeId} {p : String} {af : Array Edge} {gd : Option (Nat × Bool)} {w : World} {x y : Operand}
end
section
variable {P : Program} {ops : Array Oper} {Q : Exit → Act → World → Prop} {rest : List Oper} {o : Oper} {a : Act} {w : World} {k t e : TypeId} {b : Nat} {L : List (Value × Value)}
end
end Go.Proofs.YtjpphldojbfpfaaGreatDoor
namespace Go.Proofs.YtjpphldojbfpfaaGreatDoor
open Go.RowKit
open Go.ChangeMaps (setBlock)
def Turns (τ : Nat → Obj → Bool) (k : Nat) : Option Obj → Bool
  | some o => τ k o
  | none => false
structure Tn (τ : Nat → Obj → Bool) (B : Nat) (w w' : World) : Prop where
  os : w'.os = w.os
  tape : w'.tape = w.tape
  output : w'.output = w.output
  size : w.heap.size ≤ w'.heap.size
  block : ∀ k, k < w.heap.size → (k < B ∨ Turns τ k w.heap[k]? = false) → w'.heap[k]? = w.heap[k]?
  turns : ∀ k, k < w.heap.size → Turns τ k w'.heap[k]? = Turns τ k w.heap[k]?
section
variable {τ : Nat → Obj → Bool} {B : Nat} {w w' w2 : World}
theorem Tn.of_gr (h : Gr w w') : Tn τ B w w' := ⟨h.os, h.tape, h.output, h.size, fun k hk _ => h.block k hk, fun k hk => by rw [h.block k hk]⟩
theorem Tn.refl (w : World) : Tn τ B w w := Tn.of_gr (Gr.refl w)
theorem Tn.trans (h : Tn τ B w w') (k : Tn τ B w' w2) : Tn τ B w w2 :=
  ⟨k.os.trans h.os, k.tape.trans h.tape, k.output.trans h.output, Nat.le_trans h.size k.size,
   fun i hi ho => (k.block i (Nat.lt_of_lt_of_le hi h.size) (by rw [h.turns i hi]; exact ho)).trans (h.block i hi ho),
   fun i hi => (k.turns i (Nat.lt_of_lt_of_le hi h.size)).trans (h.turns i hi)⟩
theorem Tn.gr (h : Tn τ B w w') (k : Gr w' w2) : Tn τ B w w2 := h.trans (Tn.of_gr k)
theorem Tn.below (h : Tn τ B w w') (hB : B ≤ w.heap.size) : Below B w w' := ⟨h.os, h.tape, h.output, h.size, fun k hk => h.block k (Nat.lt_of_lt_of_le hk hB) (.inl hk)⟩
theorem Turns.wide {σ : Nat → Obj → Bool} (hs : ∀ k o, σ k o = true → τ k o = true) {k : Nat} {o : Option Obj} (h : Turns σ k o = true) : Turns τ k o = true := by
  rcases o with _ | o
  · cases h
  · exact hs _ _ h
theorem Tn.wide {σ : Nat → Obj → Bool} (h : Tn σ B w w') (hs : ∀ k o, σ k o = true → τ k o = true) : Tn τ B w w' := by
  have hf : ∀ {k : Nat} {o : Option Obj}, Turns τ k o = false → Turns σ k o = false := fun {k o} h => by
    rcases hb : Turns σ k o
    · rfl
    · rw [Turns.wide hs hb] at h; cases h
  refine ⟨h.os, h.tape, h.output, h.size, fun k hk ho => h.block k hk (ho.imp id hf), fun k hk => ?_⟩; rcases hb : Turns σ k w.heap[k]?
  · rw [h.block k hk (.inr hb)]
  · rw [Turns.wide hs hb, Turns.wide hs (by rw [h.turns k hk]; exact hb)]
theorem Arr.tn {g : Nat} {t : TypeId} {cs : List Value} (h : Arr w g t cs) (hT : Tn τ B w w') (ht : ∀ C f, τ g (.cells C t f) = false) : Arr w' g t cs := by
  unfold Arr at *
  rw [hT.block g (Arr.lt h) (.inr (by rw [h]; exact ht _ _))]; exact h
end
end Go.Proofs.YtjpphldojbfpfaaGreatDoor
namespace Go.Proofs.YtjpphldojbfpfaaGreatDoor
open Go.RowKit
section
variable {τ : Nat → Obj → Bool} {B : Nat} {w w' : World}
theorem own_tn {base : Nat} {e : TypeId} {size : Nat} {A : Option Addr} {n c : Nat} {xs : List Value} (h : w.ownsRow base e size (.slice A n c) n xs) (hT : Tn τ B w w') (ht : ∀ k C f, τ k (.cells C e f) = false) : w'.ownsRow base e size (.slice A n c) n xs := by
  refine ⟨h.1, ?_⟩; rcases h.2 with h2 | ⟨g, cap, cur, e1, h1, h2, h3⟩
  · exact .inl h2
  · exact .inr ⟨g, cap, cur, e1, h1, by rw [hT.block g (Array.getElem?_eq_some_iff.1 h2).1 (.inr (by rw [h2]; exact ht _ _ _))]; exact h2, h3⟩
end
theorem Tn.cell {τ : Nat → Obj → Bool} {B : Nat} {w : World} {g : Nat} {t : TypeId} {cs : List Value} (h : Arr w g t cs) (hB : B ≤ g) (hm : ∀ C f, τ g (.cells C t f) = true) (i : Nat) (u : Value) : Tn τ B w (w.setCell ⟨g, i, none⟩ u) := by
  have hg := Lib.grownBy_setCell w g i u; have h2 := h.set i u; refine ⟨hg.os, hg.tape, hg.output, hg.size, fun k hk ho => ?_, fun k hk => ?_⟩
  · refine hg.block k hk fun e => ?_; injection e with e
    subst e; rcases ho with ho | ho
    · omega
    · rw [h] at ho; simp [Turns, hm] at ho
  · by_cases e : k = g
    · subst e; rw [h2, h]; simp [Turns, hm]
    · rw [hg.block k hk fun e2 => e (Option.some.inj e2)]
theorem own_lt {w : World} {base : Nat} {e : TypeId} {A : Option Addr} {size n c : Nat} {xs : List Value} (h : w.ownsRow base e size (.slice A n c) n xs) : ∀ ad, A = some ad → ad.block < w.heap.size := by
  intro ad hA; rcases h.2 with ⟨e1, _⟩ | ⟨g, cap, cur, e1, _, h2, _⟩
  · injection e1 with e1; rw [e1] at hA; cases hA
  · injection e1 with e1
    rw [e1] at hA; injection hA with hA
    subst hA; exact (Array.getElem?_eq_some_iff.1 h2).1
end Go.Proofs.YtjpphldojbfpfaaGreatDoor
namespace Go.Proofs.YtjpphldojbfpfaaGreatDoor
open Go.RowKit
section
variable {P : Program} {w : World}
theorem run_append_tn (base : Nat) (t ty e : TypeId) (i : TypeInfo) (z : Value) (size bytes : Nat) (ht : P.underlying t = some (.slice e)) (hi : P.info? e = some i) (hz : i.zero = some z)
    (hsize : i.size = size) (hby : i.bytes = bytes) (hzs : z.cells.size = size) (hsz : 0 < size) (A : Option Addr) (n c : Nat) (xs : List Value) (hown : w.ownsRow base e size (.slice A n c) n xs)
    (a : Addr) (m c2 : Nat) (news : List Value) (hl : news.length = m * size) (hnews : ∀ j u, news[j]? = some u → w.cell? (a.add j) = some u) (h1 : ∀ u ∈ news, u.oneCell' = true)
    (h63 : n + m ≤ maxLen) (hbytes : (n + m) * bytes ≤ 140737488355328) (hbase : base ≤ w.heap.size) :
    ∃ A' c' w', (Builtin.append_ #[t, t] ty #[.slice A n c, .slice (some a) m c2]).run P w = .ok (.slice A' (n + m) c') w' ∧ w'.ownsRow base e size (.slice A' (n + m) c') (n + m) (xs ++ news) ∧
      w.grownBy w' (Value.ownBlock (.slice A n c)) ∧ ∀ τ : Nat → Obj → Bool, (∀ k C f, τ k (.cells C e f) = true) → Tn τ base w w' := by
  obtain ⟨v', w', hr, h2, h3, _⟩ := run_append_own (P := P) w base t ty e i z size bytes ht hi hz hsize hby hzs hsz _ n xs hown a m c2 news hl hnews h1 h63 hbytes hbase
  have hv : ∃ A' c', v' = .slice A' (n + m) c' := by
    rcases h2.2 with ⟨e1, e2⟩ | ⟨g', cap', _, e1, _⟩
    · exact ⟨none, 0, by rw [e1, e2]⟩
    · exact ⟨_, _, e1⟩
  obtain ⟨A', c', rfl⟩ := hv; refine ⟨A', c', w', hr, h2, h3, fun τ hτ => ?_⟩; rcases hown.2 with ⟨e1, e2⟩ | ⟨g, cap, cur, e1, hbg, hg, hnc, hcm, hcs, htake⟩
  · injection e1 with e1 e3 e4
    subst e1; exact Tn.of_gr ⟨h3.os, h3.tape, h3.output, h3.size, fun k hk => h3.block k hk (by simp [Value.ownBlock])⟩
  · injection e1 with e1 e3 e4
    subst e1 e4; have hglt : g < w.heap.size := (Array.getElem?_eq_some_iff.1 hg).1
    by_cases hroom : n + m ≤ c
    · subst hsize; have hfit : n * i.size + news.length ≤ cur.size := by rw [hl, hcs, ← Nat.add_mul]; exact Nat.mul_le_mul_right _ hroom
      have hr2 := run_append_room (P := P) w t ty e i ht hi g n c cur hg a m c2 news hl hnews h1 hroom hfit; rw [hr] at hr2; injection hr2 with _ hw
      subst hw; refine ⟨rfl, rfl, rfl, h3.size, fun k hk ho => ?_, fun k hk => ?_⟩
      · refine setRow_other w g k _ fun hkg => ?_; subst hkg; rcases ho with ho | ho
        · omega
        · rw [hg] at ho; have := hτ k cur (0, 0); simp [Turns, this] at ho
      · by_cases hkg : k = g
        · subst hkg; rw [setRow_heap w k cur _ e _ hg, hg]; simp [Turns, hτ]
        · rw [setRow_other w g k _ hkg]
    · have holds : ∀ j u, xs[j]? = some u → w.cell? ((⟨g, 0, none⟩ : Addr).add j) = some u := hown.cells (g := g) rfl; have hr2 := run_append_grow (P := P) w t ty e i z ht hi hz ⟨g, 0, none⟩ n c xs (by rw [hown.1, hsize]) holds a m c2 news (by rw [hl, hsize]) hnews (by omega) (by have := h63; unfold maxLen at this; omega) (growslice_fits (by omega) (by rw [hby]; exact hbytes)); rw [hr] at hr2; injection hr2 with _ hw
      subst hw; exact Tn.of_gr (Gr.trans (Gr.drew w) (Gr.alloc _ _))
theorem wpList_appT {ops : Array Oper} {rest : List Oper} {o : Oper} {x : Act} {Q : Exit → Act → World → Prop} (hgd : o.guard = none) (s y : Operand) (t : TypeId)
    (ho : o.op = .call { callee := .builtin .append, args := #[s, y], argTypes := #[t, t] })
    (base : Nat) (e : TypeId) (i : TypeInfo) (z : Value) (size bytes : Nat) (ht : P.underlying t = some (.slice e)) (hi : P.info? e = some i) (hz : i.zero = some z)
    (hsize : i.size = size) (hby : i.bytes = bytes) (hzs : z.cells.size = size) (hsz : 0 < size) {A : Option Addr} {n c : Nat} {xs : List Value} (hs : x.eval s = .slice A n c) (hown : w.ownsRow base e size (.slice A n c) n xs)
    (a : Addr) (m c2 : Nat) (news : List Value) (hx : x.eval y = .slice (some a) m c2) (hl : news.length = m * size) (hnews : ∀ j u, news[j]? = some u → w.cell? (a.add j) = some u) (h1 : ∀ u ∈ news, u.oneCell' = true)
    (h63 : n + m ≤ maxLen) (hbytes : (n + m) * bytes ≤ 140737488355328) (hbase : base ≤ w.heap.size)
    (hK : ∀ A' c' w', w'.ownsRow base e size (.slice A' (n + m) c') (n + m) (xs ++ news) → w.grownBy w' (Value.ownBlock (.slice A n c)) →
      (∀ τ : Nat → Obj → Bool, (∀ k C f, τ k (.cells C e f) = true) → Tn τ base w w') → wpList P ops Q rest (x.put o.dst (.slice A' (n + m) c')) w') : wpList P ops Q (o :: rest) x w := by
  obtain ⟨A', c', w', hr, h2, h3, h4⟩ := run_append_tn (P := P) base t o.type e i z size bytes ht hi hz hsize hby hzs hsz A n c xs hown a m c2 news hl hnews h1 h63 hbytes hbase; refine wpList_plain hgd fun _ hKK => ?_; unfold Oper.wp execOp; simp only [ho, resolve, invoke, builtin, Sem.run_bind, Sem.run_pure, Result.andThen_ok, List.map_toArray, List.map_cons, List.map_nil, hs, hx, hr]; exact hKK _ _ (hK A' c' w' h2 h3 h4)
end
end Go.Proofs.YtjpphldojbfpfaaGreatDoor
namespace Go.Proofs.YtjpphldojbfpfaaGreatDoor
open Go.RowKit
structure Mem (B : Nat) (w0 w : World) (L : List (Nat × TypeId × List Value)) : Prop where
  arr : ∀ x ∈ L, Arr w x.1 x.2.1 x.2.2
  dis : L.Pairwise fun a b => b.1 < a.1
  base : ∀ x ∈ L, B ≤ x.1
  below : Below B w0 w
section
variable {B g : Nat} {w0 w w' : World} {L : List (Nat × TypeId × List Value)} {t : TypeId} {cs : List Value}
theorem Mem.nil (w : World) : Mem w.heap.size w w [] := ⟨fun x h => by simp at h, List.Pairwise.nil, fun x h => by simp at h, Below.refl _ _⟩
theorem Mem.at_ (h : Mem B w0 w L) (k : Nat) (hk : L[k]? = some (g, t, cs)) : Arr w g t cs := h.arr _ (List.mem_of_getElem? hk)
theorem Mem.size (h : Mem B w0 w L) (hB : B ≤ w0.heap.size) : B ≤ w.heap.size := Nat.le_trans hB h.below.size
theorem Mem.le (h : Mem B w0 w L) (k : Nat) (hk : L[k]? = some (g, t, cs)) : B ≤ g := h.base _ (List.mem_of_getElem? hk)
theorem Mem.gr (h : Mem B w0 w L) (hB : B ≤ w0.heap.size) (hG : Gr w w') : Mem B w0 w' L :=
  ⟨fun x hx => (h.arr x hx).gr hG, h.dis, h.base, h.below.trans (hG.mono (h.size hB))⟩
theorem Mem.dr (h : Mem B w0 w L) (hd : Dr w w') : Mem B w0 w' L :=
  ⟨fun x hx => (h.arr x hx).dr hd, h.dis, h.base, h.below.trans (below_dr hd)⟩
theorem Mem.cons (h : Mem B w0 w L) (hB : B ≤ w0.heap.size) (hG : Gr w w') {n : Nat} (ha : Arr w' n t cs) (hn : w.heap.size ≤ n) : Mem B w0 w' ((n, t, cs) :: L) := by
  have h' := h.gr hB hG; refine ⟨fun x hx => ?_, List.pairwise_cons.2 ⟨fun y hy => ?_, h.dis⟩, fun x hx => ?_, h'.below⟩
  · rcases List.mem_cons.1 hx with rfl | hx
    · exact ha
    · exact h'.arr x hx
  · exact Nat.lt_of_lt_of_le (h.arr y hy).lt hn
  · rcases List.mem_cons.1 hx with rfl | hx
    · exact Nat.le_trans (h.size hB) hn
    · exact h.base x hx
theorem Mem.new (h : Mem B w0 w L) (hB : B ≤ w0.heap.size) {C : Array Value} (hC : C.toList = cs) : Mem B w0 (w.alloc (.cells C t)) ((w.heap.size, t, cs) :: L) :=
  h.cons hB (Gr.alloc _ _) (Arr.newAt rfl hC) (Nat.le_refl _)
theorem pairwise_set_ {L : List (Nat × TypeId × List Value)} (h : L.Pairwise fun a b => b.1 < a.1) {k : Nat} (hk : L[k]? = some (g, t, cs)) (cs' : List Value) : (L.set k (g, t, cs')).Pairwise fun a b => b.1 < a.1 := by
  have e : (L.set k (g, t, cs')).map (·.1) = L.map (·.1) := by
    apply List.ext_getElem?
    intro i; rw [List.getElem?_map, List.getElem?_map, List.getElem?_set]; split
    · rename_i hi
      subst hi
      have hlt : k < L.length := by
        rcases Nat.lt_or_ge k L.length with h1 | h1
        · exact h1
        · rw [List.getElem?_eq_none h1] at hk; cases hk
      rw [hk]; simp [hlt]
    · rfl
  have h2 : ((L.set k (g, t, cs')).map (·.1)).Pairwise fun a b => b < a := by
    rw [e]; exact List.pairwise_map.2 h
  exact List.pairwise_map.1 h2
theorem Mem.turn (h : Mem B w0 w L) (k : Nat) (hk : L[k]? = some (g, t, cs)) {cs' : List Value} (ha : Arr w' g t cs') (ho : ∀ g' t' cs1, g' ≠ g → Arr w g' t' cs1 → Arr w' g' t' cs1) (hb : Below g w w') :
    Mem B w0 w' (L.set k (g, t, cs')) := by
  have hlt : k < L.length := by
    rcases Nat.lt_or_ge k L.length with h1 | h1
    · exact h1
    · rw [List.getElem?_eq_none h1] at hk; cases hk
  refine ⟨fun x hx => ?_, pairwise_set_ h.dis hk cs', fun x hx => ?_, h.below.trans (hb.mono (h.le k hk))⟩
  · obtain ⟨i, hi⟩ := List.mem_iff_getElem?.1 hx; rw [List.getElem?_set] at hi; split at hi
    · injection hi with hi
      subst hi; exact ha
    · rename_i hne
      refine ho _ _ _ (fun e => ?_) (h.arr x (List.mem_of_getElem? hi))
      have hil : i < L.length := by
        rcases Nat.lt_or_ge i L.length with h1 | h1
        · exact h1
        · rw [List.getElem?_eq_none h1] at hi; cases hi
      have e1 : L[i] = x := by rw [List.getElem?_eq_getElem hil] at hi; injection hi
      have e2 : L[k] = (g, t, cs) := by rw [List.getElem?_eq_getElem hlt] at hk; injection hk
      have hp := List.pairwise_iff_getElem.1 h.dis; rcases Nat.lt_or_ge i k with h1 | h1
      · have := hp i k hil hlt h1; rw [e1, e2] at this; exact absurd this (by simp only; omega)
      · have := hp k i hlt hil (by omega); rw [e1, e2] at this; exact absurd this (by simp only; omega)
  · obtain ⟨i, hi⟩ := List.mem_iff_getElem?.1 hx; rw [List.getElem?_set] at hi; split at hi
    · injection hi with hi
      subst hi; exact h.le k hk
    · exact h.base x (List.mem_of_getElem? hi)
theorem Mem.set (h : Mem B w0 w L) (k : Nat) (hk : L[k]? = some (g, t, cs)) (i : Nat) (v : Value) : Mem B w0 (w.setCell ⟨g, i, none⟩ v) (L.set k (g, t, cs.set i v)) :=
  h.turn k hk ((h.at_ k hk).set i v) (fun _ _ _ hne ha => ha.other hne v) (below_setCell (Nat.le_refl _))
theorem Mem.put (h : Mem B w0 w L) (k : Nat) (hk : L[k]? = some (g, t, cs)) {cs' : List Value} (ha : Arr w' g t cs') (hb : Below g w w') (ho : ∀ g' t' cs1, g' ≠ g → Arr w g' t' cs1 → Arr w' g' t' cs1) : Mem B w0 w' (L.set k (g, t, cs')) :=
  h.turn k hk ha ho hb
variable {P : Program}
theorem wpList_putM {ops : Array Oper} {rest : List Oper} {op : Oper} {a : Act} {Q : Exit → Act → World → Prop} (h : Mem B w0 w L) (k : Nat) (hk : L[k]? = some (g, t, cs)) (hgd : op.guard = none) (ty : TypeId) (x y : Operand) (ho : op.op = .store ty x y)
    (vs : List Value) (hx : a.eval x = .pointer (some ⟨g, 0, none⟩)) (hy : a.eval y = .agg vs.toArray) (hn : cs.length = vs.length)
    (hi : (P.info? ty).map (·.size) = some vs.length) (h1 : ∀ v ∈ vs, v.oneCell' = true)
    (K : ∀ w2, Mem B w0 w2 (L.set k (g, t, vs)) → Below g w w2 → wpList P ops Q rest (a.put op.dst undef) w2) : wpList P ops Q (op :: rest) a w :=
  wpList_put (h.at_ k hk) hgd ty x y ho vs hx hy hn hi h1 fun w2 h2 h3 h4 => K w2 (h.put k hk h2 h3 h4) h3
theorem wpList_newM {ops : Array Oper} {rest : List Oper} {op : Oper} {a : Act} {Q : Exit → Act → World → Prop} {C : Array Value} (h : Mem B w0 w L) (hB : B ≤ w0.heap.size) (hgd : op.guard = none) (ty : TypeId) (x y : Operand) (ho : op.op = .store ty x y)
    (b : Nat) (vs : List Value) (hx : a.eval x = .pointer (some ⟨b, 0, none⟩)) (hy : a.eval y = .agg vs.toArray) (hb : b = w.heap.size) (hn : C.size = vs.length)
    (hi : (P.info? ty).map (·.size) = some vs.length) (h1 : ∀ v ∈ vs, v.oneCell' = true)
    (K : ∀ w2, Mem B w0 w2 ((b, t, vs) :: L) → Gr w w2 → wpList P ops Q rest (a.put op.dst undef) w2) : wpList P ops Q (op :: rest) a (w.alloc (.cells C t)) :=
  wpList_new hgd ty x y ho b vs hx hy hb hn hi h1 fun w2 h2 h3 => K w2 (h.cons hB h3 h2 (by omega)) h3
end
end Go.Proofs.YtjpphldojbfpfaaGreatDoor
namespace Go.Proofs.YtjpphldojbfpfaaGreatDoor
open Go.RowKit
section
variable {P : Program} {ops : Array Oper} {Q : Exit → Act → World → Prop}
theorem wp_region_cutG (G : World → World → Prop) (hrefl : ∀ w, G w w) (htrans : ∀ a b c, G a b → G b c → G a c) {id : Nat} {a0 : Act} {w0 : World} (hm : P.follows .mixedOrders = true) (L : List (Value → World → Prop)) (z : Nat) (hz : z < ops.size) (htail : tailB ops z = true) (hdom : domB ops z = true) (hB : ssaB ops a0.tmps.size = true)
    (hL : ∀ φ ∈ L, ∀ v w w', φ v w → G w w' → φ v w')
    (hstep : AllFrom (StepL P ops Q a0 w0.drew G L) 0 (ops.toList.take z))
    (hend : ∀ (vs : Nat → Value) w, G w0.drew w → AllFrom (fun i _ => (L.getD i AnyV) (vs i) w) 0 (ops.toList.take z) → wpList P ops Q (ops.toList.drop z) (putAll vs 0 (ops.toList.take z) a0) w) : (Code.region id ops true).wp P Q a0 w0 := by
  have hΦ : ∀ i v (w w' : World), (L.getD i AnyV) v w → G w w' → (L.getD i AnyV) v w' := by
    intro i v w w' h hg; rcases Nat.lt_or_ge i L.length with hlt | hge
    · simp only [List.getD_eq_getElem?_getD, List.getElem?_eq_getElem hlt, Option.getD_some] at h ⊢; exact hL _ (List.getElem_mem hlt) v w w' h hg
    · simp only [List.getD_eq_getElem?_getD, List.getElem?_eq_none hge, Option.getD_none] at h ⊢; exact trivial
  refine wp_region_any hm (wpAny_cut a0 w0.drew (fun i => L.getD i AnyV) G z hz htail hdom htrans hΦ hB ?_ ?_ ops.size (Array.replicate ops.size false) a0 w0.drew (by simp) ?_ ?_ (hrefl _) ⟨rfl, rfl, ?_, fun _ _ => rfl, ?_⟩)
  · intro i o hi hiz a w hg hF; have h1 := allFrom_get (ops.toList.take z) 0 hstep i o (by rw [List.getElem?_take]; simp [hiz, hi]); simp only [Nat.zero_add] at h1; exact h1 a w hg hF
  · intro a w hg hnew hdef hsize hold
    have hch : ∀ i, ∃ v, i < z → (∀ d, ((ops[i]?).bind (fun o : Oper => o.dst)) = some d → a.tmps[d]? = some v) ∧ (L.getD i AnyV) v w := by
      intro i
      by_cases hi : i < z
      · obtain ⟨v, h1, h2⟩ := hnew i _ (Array.getElem?_eq_getElem (by omega : i < ops.size)) hi; exact ⟨v, fun _ => ⟨fun d hd => h1 d (by simpa [(by omega : i < ops.size)] using hd), h2⟩⟩
      · exact ⟨undef, fun h => absurd h hi⟩
    have hvs := fun i => Classical.choose_spec (hch i)
    have hall : ∀ (os : List Oper) (k : Nat), k + os.length ≤ z → AllFrom (fun i _ => (L.getD i AnyV) (Classical.choose (hch i)) w) k os := by
      intro os
      induction os with
      | nil => intro k _; exact trivial
      | cons o os ih => intro k hk; simp at hk; exact ⟨(hvs k (by omega)).2, ih (k + 1) (by omega)⟩
    have hend' := hend (fun i => Classical.choose (hch i)) w hg (hall _ 0 (by simp; omega))
    have hlen : ∀ j (o : Oper), (ops.toList.take z)[j]? = some o → j < z ∧ ops[j]? = some o := by
      intro j o h; rw [List.getElem?_take] at h; split at h
      · exact ⟨by assumption, by simpa using h⟩
      · cases h
    have ha : putAll (fun i => Classical.choose (hch i)) 0 (ops.toList.take z) a0 = a := by
      have h1 := putAll_defers (fun i => Classical.choose (hch i)) (ops.toList.take z) 0 a0; have h2 := putAll_size (fun i => Classical.choose (hch i)) (ops.toList.take z) 0 a0
      have h3 : (putAll (fun i => Classical.choose (hch i)) 0 (ops.toList.take z) a0).tmps = a.tmps := by
        apply Array.ext_getElem?
        intro t
        by_cases hex : ∃ (j : Nat) (o : Oper), (ops.toList.take z)[j]? = some o ∧ o.dst = some t
        · obtain ⟨j, o, hj0, hd⟩ := hex; obtain ⟨hjz, hj⟩ := hlen j o hj0; have hlt : j < ops.size := by omega
          have hb := List.all_eq_true.1 hB j (by simpa using hlt); rw [hj] at hb; simp only [Bool.and_eq_true, hd, decide_eq_true_eq] at hb; rw [putAll_new _ t (ops.toList.take z) 0 a0 j o hj0 hd hb.1.2 fun k o' hk hd' => ?_, (hvs j hjz).1 t (by rw [hj]; exact hd)]
          · simp
          · rcases Nat.decEq k j with hkj | hkj
            · exfalso
              obtain ⟨hkz, hk'⟩ := hlen k o' hk; have hltk : k < ops.size := by omega
              have h5 := List.all_eq_true.1 hb.2 k (by simpa using hltk); rw [hk'] at h5; simp [hkj, hd'] at h5
            · exact hkj
        · rw [putAll_old _ t (ops.toList.take z) 0 a0 (fun (o : Oper) ho e => hex (by obtain ⟨j, hj⟩ := List.getElem?_of_mem ho; exact ⟨j, o, hj, e⟩)), hold t fun i o hi hiz e => hex ⟨i, o, by rw [List.getElem?_take]; simp [hiz, hi], e⟩]
      have h4 := hdef; cases a; cases hq : putAll (fun i => Classical.choose (hch i)) 0 (ops.toList.take z) a0; rw [hq] at h1 h3; simp only at h1 h3 h4; rw [h1, h3, h4]
    rw [← ha]; exact hend'
  · unfold unlisted; rw [List.filter_eq_self.2]
    · simp
    · intro i hi; simp only [List.mem_range] at hi; simp [hi]
  · intro k _; rw [Array.getD_eq_getD_getElem?, Array.getElem?_replicate]; split <;> simp
  · intro i o hi hl; exfalso
    rw [Array.getD_eq_getD_getElem?, Array.getElem?_replicate] at hl; split at hl <;> simp at hl
  · intro i o e hi hl; exfalso
    rw [Array.getD_eq_getD_getElem?, Array.getElem?_replicate] at hl; split at hl <;> simp at hl
end
section
variable {B : Nat} {S : List (Nat × TypeId × List Value)}
variable {P : Program} {ops : Array Oper} {Q : Exit → Act → World → Prop} {L : List (Value → World → Prop)} {i : Nat} {o : Oper} {a : Act} {w : World}
end
end Go.Proofs.YtjpphldojbfpfaaGreatDoor
namespace Go.Proofs.YtjpphldojbfpfaaGreatDoor
open Go.RowKit
def blkT (A : Option Addr) (e : TypeId) : Nat → Obj → Bool := fun k o => (match A with | some ad => k == ad.block | none => false) && (match o with | .cells _ t _ => t == e | _ => false)
theorem blkT_other {A : Option Addr} {e t : TypeId} (h : (t == e) = false) (k : Nat) (C : Array Value) (f : Nat × Nat) : blkT A e k (.cells C t f) = false := by
  simp only [blkT, h, Bool.and_false]
theorem blkT_far {A : Option Addr} {e : TypeId} {k : Nat} (h : ∀ ad, A = some ad → ad.block ≠ k) (o : Obj) : blkT A e k o = false := by
  cases A with
  | none => rfl
  | some ad =>
    have := h ad rfl; simp only [blkT, Bool.and_eq_false_iff, beq_eq_false_iff_ne, ne_eq]; exact .inl fun e => this e.symm
section
variable {P : Program} {w : World}
theorem own_eqA {w : World} {base : Nat} {e : TypeId} {size n c c' : Nat} {g : Nat} {xs ys : List Value} {m : Nat} (h : w.ownsRow base e size (.slice (some ⟨g, 0, none⟩) n c) n xs) (h' : w.ownsRow base e size (.slice (some ⟨g, 0, none⟩) m c') m ys) (hs : 0 < size) : c = c' := by
  rcases h.2 with ⟨e1, _⟩ | ⟨g1, cap1, cur1, e1, _, h1, _, _, h2, _⟩
  · cases e1
  rcases h'.2 with ⟨e2, _⟩ | ⟨g2, cap2, cur2, e2, _, k1, _, _, k2, _⟩
  · cases e2
  injection e1 with e1 _ e3
  injection e2 with e2 _ e4
  injection e1 with e1
  injection e2 with e2
  injection e1 with e1
  injection e2 with e2
  subst e1 e2 e3 e4; rw [h1] at k1; injection k1 with k1
  injection k1 with k1
  subst k1; rw [h2] at k2; exact Nat.eq_of_mul_eq_mul_right hs k2
theorem run_append_keep (base : Nat) (t ty e : TypeId) (i : TypeInfo) (z : Value) (size bytes : Nat) (ht : P.underlying t = some (.slice e)) (hi : P.info? e = some i) (hz : i.zero = some z)
    (hsize : i.size = size) (hby : i.bytes = bytes) (hzs : z.cells.size = size) (hsz : 0 < size) (A : Option Addr) (n c : Nat) (xs : List Value) (hown : w.ownsRow base e size (.slice A n c) n xs)
    (a : Addr) (m c2 : Nat) (news : List Value) (hl : news.length = m * size) (hnews : ∀ j u, news[j]? = some u → w.cell? (a.add j) = some u) (h1 : ∀ u ∈ news, u.oneCell' = true)
    (h63 : n + m ≤ maxLen) (hbytes : (n + m) * bytes ≤ 140737488355328) (hbase : base ≤ w.heap.size) :
    ∃ A' c' w', (Builtin.append_ #[t, t] ty #[.slice A n c, .slice (some a) m c2]).run P w = .ok (.slice A' (n + m) c') w' ∧ w'.ownsRow base e size (.slice A' (n + m) c') (n + m) (xs ++ news) ∧
      Tn (blkT A e) base w w' ∧ w'.ownsRow base e size (.slice A n c) n xs ∧ ∀ A2 d, w.ownsRow base e size (.slice A2 (n + m) d) (n + m) (xs ++ news) → w'.ownsRow base e size (.slice A2 (n + m) d) (n + m) (xs ++ news) := by
  obtain ⟨v', w', hr, h2, h3, _⟩ := run_append_own (P := P) w base t ty e i z size bytes ht hi hz hsize hby hzs hsz _ n xs hown a m c2 news hl hnews h1 h63 hbytes hbase
  have hv : ∃ A' c', v' = .slice A' (n + m) c' := by
    rcases h2.2 with ⟨e1, e2⟩ | ⟨g', cap', _, e1, _⟩
    · exact ⟨none, 0, by rw [e1, e2]⟩
    · exact ⟨_, _, e1⟩
  obtain ⟨A', c', rfl⟩ := hv; have hown' := hown; rcases hown.2 with ⟨e1, e2⟩ | ⟨g, cap, cur, e1, hbg, hg, hnc, hcm, hcs, htake⟩
  · injection e1 with e1 e3 e4
    subst e1; have hG : Gr w w' := ⟨h3.os, h3.tape, h3.output, h3.size, fun k hk => h3.block k hk (by simp [Value.ownBlock])⟩; exact ⟨A', c', w', hr, h2, Tn.of_gr hG, Gr.own hG hown', fun A2 d h => Gr.own hG h⟩
  · injection e1 with e1 e3 e4
    subst e1 e4; have hglt : g < w.heap.size := (Array.getElem?_eq_some_iff.1 hg).1
    by_cases hroom : n + m ≤ c
    · subst hsize; have hfit : n * i.size + news.length ≤ cur.size := by rw [hl, hcs, ← Nat.add_mul]; exact Nat.mul_le_mul_right _ hroom
      have hr2 := run_append_room (P := P) w t ty e i ht hi g n c cur hg a m c2 news hl hnews h1 hroom hfit; rw [hr] at hr2; injection hr2 with hv hw
      injection hv with hA _ hc
      subst hA hc
      have hT : Tn (blkT (some ⟨g, 0, none⟩) e) base w w' := by
        subst hw; refine ⟨rfl, rfl, rfl, h3.size, fun k hk ho => ?_, fun k hk => ?_⟩
        · refine setRow_other w g k _ fun hkg => ?_; subst hkg; rcases ho with ho | ho
          · omega
          · rw [hg] at ho; simp [Turns, blkT] at ho
        · by_cases hkg : k = g
          · subst hkg; rw [setRow_heap w k cur _ e _ hg, hg]; simp [Turns, blkT]
          · rw [setRow_other w g k _ hkg]
      refine ⟨_, _, w', hr, h2, hT, ?_, fun A2 d h => ?_⟩
      · refine ⟨hown'.1, ?_⟩; rcases h2.2 with ⟨q, _⟩ | ⟨g', cap', cur', q1, q2, q3, q4, q5, q6, q7⟩
        · cases q
        · injection q1 with q1 _ q8
          injection q1 with q1
          injection q1 with q1
          subst q1 q8; refine .inr ⟨g, _, cur', rfl, q2, q3, by omega, q5, q6, ?_⟩; have hxl : xs.length = n * i.size := hown'.1; have h9 := congrArg (List.take (n * i.size)) q7; rw [List.take_take, Nat.min_eq_left (Nat.mul_le_mul_right _ (by omega))] at h9; rw [h9, List.take_append_of_le_length (by omega), List.take_of_length_le (by omega)]
      · rcases h.2 with ⟨q, q0⟩ | ⟨g2, cap2, cur2, q1, q2, q3, q4⟩
        · exact ⟨h.1, .inl ⟨q, q0⟩⟩
        · injection q1 with q1 _ q8
          subst q1 q8
          by_cases hgg : g2 = g
          · subst hgg; have := own_eqA h hown' hsz; subst this; exact h2
          · refine ⟨h.1, .inr ⟨g2, d, cur2, rfl, q2, ?_, q4⟩⟩
            rw [hT.block g2 (Array.getElem?_eq_some_iff.1 q3).1 (.inr (by
              rw [q3]; simp [Turns, blkT, hgg]))]
            exact q3
    · have holds : ∀ j u, xs[j]? = some u → w.cell? ((⟨g, 0, none⟩ : Addr).add j) = some u := hown'.cells (g := g) rfl; have hr2 := run_append_grow (P := P) w t ty e i z ht hi hz ⟨g, 0, none⟩ n c xs (by rw [hown'.1, hsize]) holds a m c2 news (by rw [hl, hsize]) hnews (by omega) (by have := h63; unfold maxLen at this; omega) (growslice_fits (by omega) (by rw [hby]; exact hbytes)); have hr3 := hr; rw [hr] at hr2; injection hr2 with _ hw
      have hG : Gr w w' := by
        rw [hw]; exact Gr.trans (Gr.drew w) (Gr.alloc _ _)
      exact ⟨A', c', w', hr3, h2, Tn.of_gr hG, Gr.own hG hown', fun A2 d h => Gr.own hG h⟩
end
end Go.Proofs.YtjpphldojbfpfaaGreatDoor
namespace Go.Proofs.YtjpphldojbfpfaaGreatDoor
open Go.RowKit
theorem flat_get {α : Type} {f : α → List Value} {k : Nat} (hk : ∀ x, (f x).length = k) : ∀ (L : List α) (i j : Nat), j < k → (L.flatMap f)[i * k + j]? = (L[i]?).bind fun x => (f x)[j]?
  | [], i, j, _ => by simp
  | x :: L, 0, j, hj => by
    rw [List.flatMap_cons, Nat.zero_mul, Nat.zero_add, List.getElem?_append_left (by rw [hk]; exact hj)]; rfl
  | x :: L, i + 1, j, hj => by
    rw [List.flatMap_cons, List.getElem?_append_right (by rw [hk, Nat.add_mul]; omega), hk, show (i + 1) * k + j - k = i * k + j by rw [Nat.add_mul]; omega, flat_get hk L i j hj]; rfl
end Go.Proofs.YtjpphldojbfpfaaGreatDoor
namespace Go.Proofs.YtjpphldojbfpfaaGreatDoor
open Go.RowKit
section
variable {P : Program} {ev : Operand → Value} {d : Option Tmp} {t T U S e : TypeId} {p : String} {af : Array Edge} {gd : Option (Nat × Bool)} {w : World} {x y : Operand}
theorem run_addN {a b : Nat} (h1 : ev x = .int .i64 a) (h2 : ev y = .int .i64 b) (hl : a + b ≤ 9223372036854775807) :
    (execOp ev ⟨d, .binOp .add T x y U, t, p, af, gd⟩).run P w = .ok (.value (.int .i64 ((a + b : Nat) : Int))) w := by
  simp only [execOp, h1, h2]; go_simp; exact IntWalk.i64_in _ (by omega)
theorem run_mulN {a b : Nat} (h1 : ev x = .int .i64 a) (h2 : ev y = .int .i64 b) (hl : a * b ≤ 9223372036854775807) :
    (execOp ev ⟨d, .binOp .mul T x y U, t, p, af, gd⟩).run P w = .ok (.value (.int .i64 ((a * b : Nat) : Int))) w := by
  simp only [execOp, h1, h2]; go_simp; rw [← Int.natCast_mul]; exact IntWalk.i64_in _ (by omega)
theorem run_subN {a b : Nat} (h1 : ev x = .int .i64 a) (h2 : ev y = .int .i64 b) (hl : b ≤ a) (ha : a ≤ 9223372036854775807) :
    (execOp ev ⟨d, .binOp .sub T x y U, t, p, af, gd⟩).run P w = .ok (.value (.int .i64 ((a - b : Nat) : Int))) w := by
  simp only [execOp, h1, h2]; go_simp; rw [← Int.ofNat_sub hl]; exact IntWalk.i64_in _ (by omega)
theorem run_negN {a : Nat} (h1 : ev x = .int .i64 a) (ha : a ≤ 9223372036854775807) :
    (execOp ev ⟨d, .unOp .neg T x, t, p, af, gd⟩).run P w = .ok (.value (.int .i64 (-(a : Int)))) w := by
  simp only [execOp, h1]; go_simp; exact IntWalk.i64_in _ (by omega)
theorem run_not32 {a : UInt32} (h1 : ev x = .int .u32 a.toNat) :
    (execOp ev ⟨d, .unOp .xor T x, t, p, af, gd⟩).run P w = .ok (.value (.int .u32 ((~~~a).toNat : Int))) w := by
  simp only [execOp, h1]; go_simp; have e1 : (if IntKind.u32.signed = true then -1 else IntKind.u32.max) = ((0xFFFFFFFF : UInt32).toNat : Int) := rfl; rw [e1, xor32]; congr 1
  have h := a.toNat_lt; have e2 : (0xFFFFFFFF : UInt32) ^^^ a = ~~~a := UInt32.toBitVec_inj.1 (BitVec.allOnes_xor (x := a.toBitVec)); rw [e2, UInt32.toNat_not]; rfl
theorem run_shr32 {a : UInt32} {k : Nat} (h1 : ev x = .int .u32 a.toNat) (h2 : ev y = .int .i64 k) (hk : k < 32) :
    (execOp ev ⟨d, .binOp .shr T x y U, t, p, af, gd⟩).run P w = .ok (.value (.int .u32 ((a >>> UInt32.ofNat k).toNat : Int))) w := by
  simp only [execOp, h1, h2]; go_simp; rw [Nat.mod_eq_of_lt hk, Int.shiftRight_eq_div_pow]; simp
end
theorem Gr.cell {w w' : World} (h : Gr w w') {p : Addr} {v : Value} (hc : w.cell? p = some v) : w'.cell? p = some v := (Below.cell h (lt_of_cell hc)).trans hc
end Go.Proofs.YtjpphldojbfpfaaGreatDoor
namespace Go.Proofs.YtjpphldojbfpfaaGreatDoor
open Go.RowKit
def cutA (A : Option Addr) (c lo : Nat) : Option Addr := if c = lo then A else A.map (·.add lo)
section
variable {P : Program} {T e : TypeId} {A : Option Addr} {n c lo hi : Nat} {l h : Int}
theorem run_cut_lh (hT : P.underlying T = some (.slice e)) (hsz : (P.info? e).map (·.size) = some 1) (hl : l = lo) (hh : h = hi) (h1 : lo ≤ hi) (h2 : hi ≤ c) (w : World) :
    (Instr.sliceAt T (.slice A n c) (some (.int .i64 l)) (some (.int .i64 h)) none).run P w = .ok (.slice (cutA A c lo) (hi - lo) (c - lo)) w := by
  subst hl hh; have e1 : P.elem T = e := by simp [Program.elem, hT]
  rw [run_sliceAt_slice w T _ _ _ _ (by rw [e1]; exact hT), run_slice_lh w T _ _ _ (by rw [e1]; exact hT) _ _ _ _ (by omega) (by omega) (by omega), e1]; simp only [run_size1 hsz, Result.andThen_ok, sliced, Nat.mul_one, Int.toNat_natCast, cutA]
theorem run_cut_l (hT : P.underlying T = some (.slice e)) (hsz : (P.info? e).map (·.size) = some 1) (hl : l = lo) (h1 : lo ≤ n) (w : World) :
    (Instr.sliceAt T (.slice A n c) (some (.int .i64 l)) none none).run P w = .ok (.slice (cutA A c lo) (n - lo) (c - lo)) w := by
  subst hl; have e1 : P.elem T = e := by simp [Program.elem, hT]
  rw [run_sliceAt_slice w T _ _ _ _ (by rw [e1]; exact hT), run_slice_l w T _ _ _ (by rw [e1]; exact hT) _ _ (by omega) (by omega), e1]; simp only [run_size1 hsz, Result.andThen_ok, sliced, Nat.mul_one, Int.toNat_natCast, cutA]
theorem run_cut_h (hT : P.underlying T = some (.slice e)) (hsz : (P.info? e).map (·.size) = some 1) (hh : h = hi) (h2 : hi ≤ c) (w : World) :
    (Instr.sliceAt T (.slice A n c) none (some (.int .i64 h)) none).run P w = .ok (.slice A hi c) w := by
  subst hh; have e1 : P.elem T = e := by simp [Program.elem, hT]
  have e2 : A.map (·.add 0) = A := by cases A <;> simp [add_zero_]
  rw [run_sliceAt_slice w T _ _ _ _ (by rw [e1]; exact hT), run_slice_h w T _ _ _ (by rw [e1]; exact hT) _ _ (by omega) (by omega), e1]; simp only [run_size1 hsz, Result.andThen_ok, sliced, Nat.zero_mul, e2, ite_self, Nat.sub_zero, Int.toNat_natCast]
end
section
variable {P : Program} {T e : TypeId} {n : Nat}
theorem run_acut_l (hT : P.underlying T = some (.array n e)) (hsz : (P.info? e).map (·.size) = some 1) (g lo : Nat) (h2 : lo < n) (h : Int) (hh : h = lo) (w : World) :
    (Instr.sliceAt T (.pointer (some ⟨g, 0, none⟩)) (some (.int .i64 h)) none none).run P w = .ok (.slice (some ⟨g, lo, none⟩) (n - lo) (n - lo)) w := by
  subst hh; obtain ⟨e1, e2⟩ := arrayLen_of hT; rw [run_sliceAt_array_l w T _ (by rw [e1, e2]; exact hT) _ _ (by omega) (by rw [e1]; omega), e1, e2]; simp only [run_size1 hsz, Result.andThen_ok, slicedAt, Int.toNat_natCast, Nat.mul_one]; rw [if_neg (by omega), add_row, Nat.zero_add]
theorem run_acut_h (hT : P.underlying T = some (.array n e)) (hsz : (P.info? e).map (·.size) = some 1) (g hi : Nat) (h2 : hi ≤ n) (h : Int) (hh : h = hi) (w : World) :
    (Instr.sliceAt T (.pointer (some ⟨g, 0, none⟩)) none (some (.int .i64 h)) none).run P w = .ok (.slice (some ⟨g, 0, none⟩) hi n) w := by
  subst hh; obtain ⟨e1, e2⟩ := arrayLen_of hT; rw [run_sliceAt_array_h w T _ (by rw [e1, e2]; exact hT) _ _ (by omega) (by rw [e1]; omega), e1, e2]; simp only [run_size1 hsz, Result.andThen_ok, slicedAt, Nat.sub_zero, Nat.zero_mul, Int.toNat_natCast, add_zero_, ite_self]
end
theorem Rd.cutLH {w : World} {A : Option Addr} {n c lo hi : Nat} {xs : List Value} (h : Rd w A n xs) (h1 : lo ≤ hi) (h2 : hi ≤ n) (h3 : n ≤ c) : Rd w (cutA A c lo) (hi - lo) ((xs.drop lo).take (hi - lo)) :=
  (h.cut (k := lo) (by omega) h3).take (by omega)
theorem Rd.cutL {w : World} {A : Option Addr} {n c lo : Nat} {xs : List Value} (h : Rd w A n xs) (h2 : lo ≤ n) (h3 : n ≤ c) : Rd w (cutA A c lo) (n - lo) (xs.drop lo) := h.cut (k := lo) (by omega) h3
section
variable {P : Program} {B g : Nat} {w0 w w' : World} {L : List (Nat × TypeId × List Value)} {t : TypeId} {cs : List Value}
theorem wpList_setM {ops : Array Oper} {rest : List Oper} {op : Oper} {a : Act} {Q : Exit → Act → World → Prop} (h : Mem B w0 w L) (k : Nat) (hk : L[k]? = some (g, t, cs)) (hgd : op.guard = none) (ty : TypeId) (x y : Operand) (ho : op.op = .store ty x y)
    (hT : (P.info? ty).map (·.size) = some 1) (i : Nat) (kd : IntKind) (z : Int) (hx : a.eval x = .pointer (some ⟨g, i, none⟩)) (hy : a.eval y = .int kd z) (hi : i < cs.length)
    (hK : ∀ w2, Mem B w0 w2 (L.set k (g, t, cs.set i (.int kd z))) → Below g w w2 → wpList P ops Q rest (a.put op.dst undef) w2) : wpList P ops Q (op :: rest) a w := by
  refine wpList_plain hgd fun K hKK => ?_; unfold Oper.wp; obtain ⟨dst, o, tt, ps, af, gd⟩ := op; simp only at ho; subst ho; rw [run_store1 hT hx hy (by rw [(h.at_ k hk).cell (List.getElem?_eq_getElem hi)]; rfl) ((h.at_ k hk).frozen i)]; exact hKK _ _ (hK _ (h.set k hk i _) (below_setCell (Nat.le_refl _)))
end
end Go.Proofs.YtjpphldojbfpfaaGreatDoor
namespace Go.Proofs.YtjpphldojbfpfaaGreatDoor
open Go.RowKit Go.Lib
structure Part where
  A : Option Addr
  n : Nat
  c : Nat
  l : List UInt8
def Part.val (p : Part) : Value := .slice p.A p.n p.c
structure Parts (w : World) (A : Option Addr) (n : Nat) (ps : List Part) : Prop where
  row : Rd w A n (ps.map Part.val)
  each : ∀ p ∈ ps, Rd w p.A p.n (u8s p.l) ∧ p.n ≤ p.c
def allP (ps : List Part) : List UInt8 := ps.flatMap (·.l)
section
variable {w w' : World} {A : Option Addr} {n : Nat} {ps : List Part}
theorem Parts.len (h : Parts w A n ps) : ps.length = n := by simpa using h.row.1
theorem Parts.gr (h : Parts w A n ps) (g : Gr w w') : Parts w' A n ps := ⟨g.rd h.row, fun p hp => ⟨g.rd (h.each p hp).1, (h.each p hp).2⟩⟩
theorem Parts.at_ (h : Parts w A n ps) {k : Nat} (hk : k < n) : ∃ ad p, A = some ad ∧ ps[k]? = some p ∧ w.cell? (ad.add k) = some p.val ∧ Rd w p.A p.n (u8s p.l) ∧ p.n ≤ p.c ∧ p.l.length = p.n := by
  have hl : k < ps.length := by rw [h.len]; exact hk
  obtain ⟨ad, e, hc⟩ := h.row.2 k (ps[k]).val (by simp [List.getElem?_eq_getElem hl]); have hm : ps[k] ∈ ps := List.getElem_mem _; refine ⟨ad, ps[k], e, List.getElem?_eq_getElem hl, hc, (h.each _ hm).1, (h.each _ hm).2, ?_⟩; simpa using (h.each _ hm).1.1
end
theorem allP_take {ps : List Part} {k : Nat} {p : Part} (h : ps[k]? = some p) : allP (ps.take (k + 1)) = allP (ps.take k) ++ p.l := by
  rw [take_snoc_ ps k p h, allP, List.flatMap_append]; simp [allP]
theorem allP_le {ps : List Part} (k : Nat) : (allP (ps.take k)).length ≤ (allP ps).length := by
  have e : allP ps = allP (ps.take k) ++ allP (ps.drop k) := by
    rw [allP, allP, allP, ← List.flatMap_append, List.take_append_drop]
  rw [e, List.length_append]; omega
theorem zeroCells_size (z : Value) (hz : z.cells.size = 1) (n : Nat) : (Builtin.zeroCells z.cells n).size = n := by simp [Builtin.zeroCells, hz]
set_option maxRecDepth 100000 in
set_option maxHeartbeats 2000000 in
theorem growNil_any (n : Nat) (hn : n ≤ 1000000000) (w : World) :
    Calls Tryz.prog 86 #[.slice none 0 0, .int .i64 n] w fun e w' => ∃ v, e = .returned v ∧ w'.ownsRow w.heap.size 5 1 v 0 [] ∧ Below w.heap.size w w' := by
  obtain ⟨i0, hi0, hz0, hz1, hz2⟩ := info_parts Tryz.info5; have h1 : ¬ ((n : Int) < 0) := by omega
  rcases Nat.eq_zero_or_pos n with h0 | h0
  · subst h0; simp only [show ((0 : Nat) : Int) = 0 from rfl]
    go_enter Tryz.func86, Tryz.ntmps86
    go_wp2_with fail
    go_ret
    exact ⟨_, rfl, World.ownsRow_nil _ _ _ _, Below.refl _ _⟩
  · have hrz := fun ty => Lib.run_append_grow_zeros (P := Tryz.prog) w 43 3 ty 5 i0 (.int .u8 0) .i64 .i64 Tryz.underlying43 Tryz.underlying3 hi0 hz0 none 0 0 [] (by rw [hz1]; exact run_firstCells_none w.drew 1 0 0 0) n (by omega) (by omega) (by omega) (by omega) (by rw [hz2]; omega) (growslice_fits (by omega) (by rw [hz2]; omega)); simp only [Nat.zero_add] at hrz; have hg := grownCap_ge w n 0 5; have hm := grownCap_le_maxLen w n 0 5 (by unfold maxLen; omega); have hg2 : grownCap w n 0 5 ≤ 9223372036854775807 := by unfold maxLen at hm; exact hm
    generalize grownCap w n 0 5 = G at hrz hg hm hg2; have h4 : (0 : Int) < (n : Int) := by omega
    go_enter Tryz.func86, Tryz.ntmps86
    go_wp2_with (at_builtin; refine Lib.wpList_append_run _ rfl _ _ _ _ rfl _ _ rfl rfl _ _ (hrz _) ?_)
    go_ret
    refine ⟨_, rfl, ⟨rfl, .inr ⟨w.heap.size, G, _, rfl, Nat.le_refl _, heap_alloc_new _ _, by omega, hm, ?_, rfl⟩⟩, ?_⟩
    · have e : ∀ k, (Builtin.zeroCells #[Value.int .u8 0] k).size = k := fun k => zeroCells_size (.int .u8 0) rfl k; simp only [Nat.mul_one, Array.size_append, e]; omega
    · exact ((Below.refl _ _).drew).alloc (Nat.le_refl _) _
set_option maxRecDepth 100000 in
set_option maxHeartbeats 2000000 in
theorem concat_any (A : Option Addr) (n c : Nat) (ps : List Part) (hn : n ≤ 1000000) (hl : (allP ps).length ≤ 1000000) (w : World) (h : Parts w A n ps) :
    Calls Tryz.prog 42 #[.slice A n c] w fun e w' => ∃ v, e = .returned v ∧ w'.ownsRow w.heap.size 5 1 v (allP ps).length (u8s (allP ps)) ∧ Below w.heap.size w w' := by
  obtain ⟨i0, hi0, hz0, hz1, hz2⟩ := info_parts Tryz.info5; obtain ⟨T, hT⟩ : ∃ T : Nat → List UInt8, T = fun k => allP (ps.take k) := ⟨_, rfl⟩; have hTl : ∀ k, (T k).length ≤ 1000000 := by intro k; rw [hT]; exact Nat.le_trans (allP_le k) hl
  have hTs : ∀ k p, ps[k]? = some p → T (k + 1) = T k ++ p.l := by intro k p hp; rw [hT]; exact allP_take hp
  have hTe : ∀ k, k = n → allP ps = T k := by intro k hk; rw [hT, hk, ← h.len]; simp
  have hT0 : T 0 = [] := by rw [hT]; simp [allP]
  have HTL := Lib.hid hTl; have HTS := Lib.hid hTs; have HTE := Lib.hid hTe; have HT0 := Lib.hid hT0; clear hT hTl hTs hTe hT0 hl
  go_enter Tryz.func42, Tryz.ntmps42
  go_wp2_with fail
  go_loop [3, 11] (fun s i => ∃ k z : Nat, k ≤ n ∧ i = .int .i64 k ∧ s = .int .i64 z ∧ Hid (z = (T k).length)) (fun _ i => n - (intOf i).toNat)
  case atStart => exact ⟨0, 0, by omega, rfl, rfl, by show _ = _; rw [HT0.out]; rfl⟩
  case round =>
    obtain ⟨k, z, hk, rfl, rfl, hz⟩ := hrel
    by_cases hlt : k < n
    · obtain ⟨ad, p, rfl, hp, hc, hr, hpc, hpl⟩ := h.at_ hlt; have hc' : w.cell? (ad.add k) = some (.slice p.A p.n p.c) := hc; have hz2 : z + p.n = (T (k + 1)).length := by rw [HTS.out k p hp, List.length_append, hz.out, hpl]
      have hz3 : z + p.n ≤ 1000000 := by rw [hz2]; exact HTL.out _
      have HZ2 := Lib.hid hz2; clear hz2 hc hp hpl; go_wp2_with fail
      go_round
      case rel => exact ⟨k + 1, z + p.n, by omega, by go_num, by go_num, HZ2⟩
      case measure => simp [intOf]; omega
    · obtain rfl : n = k := by omega
      have hzl : z ≤ 1000000 := by rw [hz.out]; exact HTL.out _
      go_wp2_with (go_at_call 86; refine (growNil_any z (by omega) _).mono ?_; rintro e w1 ⟨v1, rfl, ho1, hB1⟩)
      have h1 := h.gr hB1; clear hlt hk hz hzl
      go_loopw [6, 27] (fun v i wr => ∃ k : Nat, k ≤ n ∧ i = .int .i64 k ∧ wr.ownsRow w.heap.size 5 1 v (T k).length (u8s (T k)) ∧ Below w.heap.size w wr) (fun _ i _ => n - (intOf i).toNat)
      case atStart => exact ⟨0, by omega, rfl, by rw [HT0.out]; exact ho1, hB1⟩
      case round =>
        clear h1 ho1 hB1; obtain ⟨k, hk, rfl, hown, hB⟩ := hrel; have hbs := hB.size
        by_cases hlt : k < n
        · obtain ⟨ad, p, rfl, hp, hc, hr, hpc, hpl⟩ := (h.gr hB).at_ hlt; have hc' : wr.cell? (ad.add k) = some (.slice p.A p.n p.c) := hc; have hTT := HTS.out k p hp; have hl1 : (T k).length + p.n = (T (k + 1)).length := by rw [hTT, List.length_append, hpl]
          have hl2 := HTL.out (k + 1); have HTT := Lib.hid hTT; obtain ⟨m, hm⟩ : ∃ m, m = (T k).length := ⟨_, rfl⟩; rw [← hm] at hown hl1; have hl3 : m + p.n ≤ 1000000 := by omega
          have HL1 := Lib.hid hl1; clear hl1 hl2 hc hp hpl hTT hm
          go_wp2_with (at_builtin; go_must (refine wpList_app _ rfl (.tmp 31) (.tmp 32) 43 rfl w.heap.size 5 i0 (.int .u8 0) 1 Tryz.underlying43 hi0 hz0 hz1 hz2 rfl u6 m _ rfl hown p.A p.n p.c _ rfl hr (u8s_oneCell _) (by omega) (by unfold maxLen; omega) (by omega) ?_; rintro v2 w2 hA2))
          have ho2 := hA2.own; have hB2 := hB.trans (hA2.below hown hbs); rw [← u8s_append, ← HTT.out, HL1.out] at ho2; clear hA2 hown hB hr; go_simp; go_wp2_with fail
          go_roundw
          case rel => exact ⟨k + 1, by omega, by go_num, ho2⟩
          case measure => simp [intOf]; omega
        · obtain rfl : n = k := by omega
          rw [← HTE.out n rfl] at hown; go_wp2_with fail
          go_ret
          exact ⟨_, rfl, hown, hB⟩
end Go.Proofs.YtjpphldojbfpfaaGreatDoor
namespace Go.Proofs.YtjpphldojbfpfaaGreatDoor
open Go.RowKit
section
variable {P : Program} {ops : Array Oper} {Q : Exit → Act → World → Prop} {L : List (Value → World → Prop)} {i : Nat} {o : Oper} {a a0 : Act} {w : World}
theorem notG (hF : Finds ops (fun i => L.getD i AnyV) a0 i o a w) (g d : Nat) (b : Bool) (v : Value) (hg : o.guard = some (g, b)) (hb : depB ops o g d = true) (hφ : L.getD g AnyV = IsV v) (hne : v ≠ .bool b) : ¬ Wanted ops o a := by
  unfold depB at hb; simp only [Bool.and_eq_true] at hb; obtain ⟨⟨h1, h2⟩, h3⟩ := hb; have h1 : (ops[g]?).bind (fun o : Oper => o.dst) = some d := by simpa using h1
  cases hk' : ops[g]? with
  | none => rw [hk'] at h1; cases h1
  | some ok =>
    rw [hk'] at h1; obtain ⟨u, hv, hf⟩ := hF.dep g ok d hk' h1 (by simpa using h2) h3; simp only [hφ] at hf; have hf : u = v := hf; subst hf; have h1' : ok.dst = some d := h1; intro hw; simp only [Wanted, Region.wanted, hg, yielded, hk', h1', Option.bind_some, hv] at hw; cases u <;> simp_all
theorem notN (hF : Finds ops (fun i => L.getD i AnyV) a0 i o a w) (g d : Nat) (b : Bool) (hg : o.guard = some (g, b)) (hb : depB ops o g d = true) (hφ : L.getD g AnyV = IsV (.bool (!b))) : ¬ Wanted ops o a :=
  notG hF g d b _ hg hb hφ (by cases b <;> simp)
theorem s_not (hi : ops[i]? = some o) (hw : ¬ Wanted ops o a) (hφ : L.getD i AnyV = IsV undef) : Step P ops Q L i o a w := by
  unfold Step wpOp; unfold Wanted at hw; simp only [hi, hw]; exact ⟨undef, rfl, by rw [hφ]; rfl, Gr.refl _⟩
end
section
variable {P : Program} {ev : Operand → Value} {d : Option Tmp} {t T U S e : TypeId} {p : String} {af : Array Edge} {gd : Option (Nat × Bool)} {w : World} {x y : Operand}
theorem run_loadArr {g : Nat} {cs : List Value} (hT : ∃ n e, P.underlying T = some (.array n e)) (hi : (P.info? T).map (·.size) = some cs.length) (h1 : ev x = .pointer (some ⟨g, 0, none⟩)) (h : Arr w g t cs) :
    (execOp ev ⟨d, .load T x, t, p, af, gd⟩).run P w = .ok (.value (.agg cs.toArray)) w := by
  obtain ⟨n, e, hT⟩ := hT; have h2 := h.loadAt hT hi; simp only [execOp, h1, Sem.run_bind, h2, Result.andThen_ok, Sem.run_pure]
theorem run_loadMid {g off : Nat} {cs : List Value} (hT : ∃ n e, P.underlying T = some (.array n e)) (hi : (P.info? T).map (·.size) = some cs.length) (h1 : ev x = .pointer (some ⟨g, off, none⟩)) (h : w.rangeAt g off cs) :
    (execOp ev ⟨d, .load T x, t, p, af, gd⟩).run P w = .ok (.value (.agg cs.toArray)) w := by
  obtain ⟨n, e, hT⟩ := hT; have h2 := run_loadAt_mid (P := P) w g off T cs _ h hT rfl hi; simp only [execOp, h1, Sem.run_bind, h2, Result.andThen_ok, Sem.run_pure]
theorem run_load1B {ad : Addr} {v : Value} (hT : P.underlying T = some .bool ∨ (∃ k e, P.underlying T = some (.map k e)) ∨ P.underlying T = some .string ∨ (∃ e, P.underlying T = some (.slice e)) ∨ ∃ e, P.underlying T = some (.pointer e)) (h1 : ev x = .pointer (some ad)) (hc : w.cell? ad = some v) :
    (execOp ev ⟨d, .load T x, t, p, af, gd⟩).run P w = .ok (.value v) w := by
  have ha : (isAgg T).run P w = .ok false w := by
    rcases hT with hT | ⟨k, e, hT⟩ | hT | ⟨e, hT⟩ | ⟨e, hT⟩ <;> simp [isAgg, run_underlying hT]
  simp only [execOp, h1]; go_simp
theorem run_neBy {n : Nat} (hm : P.eqGuardType P.depth T = false) (ht : P.underlying T = some (.array n e)) (he : P.underlying e = some (.int .u8)) (hsz : ∀ w, (sizeOf e).run P w = .ok 1 w) {D E : List UInt8} (hD : D.length = n) (hE : E.length = n) (h1 : ev x = .agg (u8s D).toArray) (h2 : ev y = .agg (u8s E).toArray) :
    (execOp ev ⟨d, .binOp .neq T x y U, t, p, af, gd⟩).run P w = .ok (.value (.bool (!(D == E)))) w := by
  have h3 : (Op.equalIn 10000 T (.agg (u8s D).toArray) (.agg (u8s E).toArray)).run P w = .ok (D == E) w := run_equalIn_bytes (P := P) w 9998 T e n ht he hsz D E hD hE; simp only [execOp, h1, h2]; have hg : (eqGuard .neq T x y (.agg (u8s D).toArray) (.agg (u8s E).toArray)).run P w = .ok () w := run_eqGuard_agg (P := P) w _ T x y _ _ hm; have h4 := run_neq_struct (P := P) w T (u8s D).toArray (u8s E).toArray; rw [h3] at h4; go_simp
end
section
variable {P : Program} {ops : Array Oper} {Q : Exit → Act → World → Prop} {rest : List Oper} {o : Oper} {a : Act} {w : World}
theorem wpList_valW (hw : Region.wanted o (yielded ops a.tmps) = true) (v : Value) (w' : World) (hrun : (execOp a.eval o).run P w = .ok (.value v) w') (h : wpList P ops Q rest (a.put o.dst v) w') : wpList P ops Q (o :: rest) a w := by
  refine wpList_step fun K hK => ?_; rw [if_pos hw]; unfold Oper.wp; rw [hrun]; exact hK _ _ h
theorem wpList_loadW (hw : Region.wanted o (yielded ops a.tmps) = true) (ty : TypeId) (x : Operand) (ho : o.op = .load ty x) {g : Nat} {t : TypeId} {cs : List Value} (hx : a.eval x = .pointer (some ⟨g, 0, none⟩)) (hA : Arr w g t cs)
    (hT : ∃ n e, P.underlying ty = some (.array n e)) (hi : (P.info? ty).map (·.size) = some cs.length) (h : wpList P ops Q rest (a.put o.dst (.agg cs.toArray)) w) : wpList P ops Q (o :: rest) a w := by
  refine wpList_valW hw _ w ?_ h; obtain ⟨n, e, hT⟩ := hT; simp only [execOp, ho, hx, Sem.run_bind, hA.loadAt hT hi, Result.andThen_ok, Sem.run_pure]
end
theorem s_pickF {P : Program} {ops : Array Oper} {Q : Exit → Act → World → Prop} {L : List (Value → World → Prop)} {i : Nat} {o : Oper} {a : Act} {w : World} (hi : ops[i]? = some o) (hw : Wanted ops o a) (c x y : Operand) (ho : o.op = .pick c x y) (hc : a.eval c = .bool false) (v : Value) (e : a.eval y = v) (hφ : L.getD i AnyV = IsV v) : Step P ops Q L i o a w := by
  refine s_is hi hw v hφ ?_; simp [execOp, ho, hc, e, asBool]
end Go.Proofs.YtjpphldojbfpfaaGreatDoor
namespace Go.Proofs.YtjpphldojbfpfaaGreatDoor
open Go.RowKit
end Go.Proofs.YtjpphldojbfpfaaGreatDoor
namespace Go.Proofs.YtjpphldojbfpfaaGreatDoor
open Go.RowKit
theorem rd_made {w : World} {g : Nat} (hg : g = w.heap.size) (C : Array Value) (e : TypeId) (fr : Nat × Nat) (n : Nat) (l : List Value) (hC : C.toList = l) (hn : l.length = n) : Rd (w.alloc (.cells C e fr)) (some ⟨g, 0, none⟩) n l := by
  subst hg; have hs : C.size = n := by rw [← Array.length_toList, hC, hn]
  have hg : (w.alloc (.cells C e fr)).heap[w.heap.size]? = some (.cells C e fr) := by
    show (w.heap.push (.cells C e fr))[w.heap.size]? = _; simp
  have := Rd.of_row hg 0 n (by omega)
  rwa [hC, List.drop_zero, List.take_of_length_le (by simp [hn])] at this
theorem parts1 {w : World} {g : Nat} (hg : g = w.heap.size) (e : TypeId) (p : Part) (h : Rd w p.A p.n (u8s p.l)) (hc : p.n ≤ p.c) : Parts (w.alloc (.cells #[p.val] e)) (some ⟨g, 0, none⟩) 1 [p] :=
  ⟨rd_made hg _ _ _ 1 _ rfl rfl, fun q hq => by simp only [List.mem_singleton] at hq; subst hq; exact ⟨(Gr.alloc _ _).rd h, hc⟩⟩
end Go.Proofs.YtjpphldojbfpfaaGreatDoor
namespace Go.Proofs.YtjpphldojbfpfaaGreatDoor
open Go.RowKit
section
variable {P : Program} {ops : Array Oper} {Q : Exit → Act → World → Prop}
def tail2B (ops : Array Oper) (z : Nat) : Bool := (List.range ops.size).all fun i => !(decide (z < i)) || match ops[i]? with | some o => o.after.any (fun e => Region.binds .any e && decide (z ≤ e.on)) | none => true
theorem tail2B_at {z i : Nat} {o : Oper} (h : tail2B ops z = true) (hi : z < i) (ho : ops[i]? = some o) : ∃ e ∈ o.after, Region.binds .any e = true ∧ z ≤ e.on := by
  have hlt : i < ops.size := by
    rcases Nat.lt_or_ge i ops.size with h | h
    · exact h
    · rw [Array.getElem?_eq_none h] at ho; cases ho
  have := List.all_eq_true.1 h i (by simpa using hlt); rw [ho] at this; simp only [hi, decide_true, Bool.not_true, Bool.false_or] at this; rw [Array.any_eq_true'] at this; obtain ⟨e, he, hek⟩ := this; simp only [Bool.and_eq_true, decide_eq_true_eq] at hek; exact ⟨e, he, hek.1, hek.2⟩
def TailOK (P : Program) (ops : Array Oper) (Q : Exit → Act → World → Prop) (z : Nat) (a : Act) (w : World) : Prop :=
  ∀ listed : Array Bool, listed.size = ops.size → (∀ k, k ≤ z → listed.getD k false = true) → (∀ k, z < k → listed.getD k false = false) →
    (∀ k ok e, ops[k]? = some ok → listed.getD k false = true → e ∈ ok.after → Region.binds .any e = true → listed.getD e.on false = true) → wpAny P .any ops Q (unlisted ops listed) listed a w
theorem wpAny_ssaT (z : Nat) (a0 : Act) (w0 : World) (Φ : Nat → Value → World → Prop) (G : World → World → Prop) (htrans : ∀ a b c, G a b → G b c → G a c)
    (hΦ : ∀ i v w w', Φ i v w → G w w' → Φ i v w') (hB : ssaB ops a0.tmps.size = true)
    (hstep : ∀ i o, ops[i]? = some o → z < i → ∀ a w, G w0 w → Finds ops Φ a0 i o a w → wpOp P ops Q i (fun a' w' => ∃ v, a' = a.put o.dst v ∧ Φ i v w' ∧ G w w') a w)
    (hend : ∀ a w, G w0 w → Ssa ops Φ a0 (Array.replicate ops.size true) a w → Q .normal a w) :
    ∀ (fuel : Nat) (listed : Array Bool) (a : Act) (w : World), listed.size = ops.size → unlisted ops listed = fuel → (∀ k, k ≤ z → listed.getD k false = true) → G w0 w → Ssa ops Φ a0 listed a w → wpAny P .any ops Q fuel listed a w := by
  have hb : ∀ i oi, ops[i]? = some oi → (∀ e ∈ oi.after, Region.binds .any e = true → e.on < i) ∧ (∀ d, oi.dst = some d → d < a0.tmps.size) ∧
      (∀ k ok d, k ≠ i → ops[k]? = some ok → ok.dst = some d → oi.dst ≠ some d ∧ (d ∈ oi.looksAt ops → oi.after.any (fun e => Region.binds .any e && e.on == k) = true ∨ ok.after.any (fun e => Region.binds .any e && e.on == i) = true)) := by
    intro i oi hi
    have hlt : i < ops.size := by
      rcases Nat.lt_or_ge i ops.size with h | h
      · exact h
      · rw [Array.getElem?_eq_none h] at hi; cases hi
    have h1 := List.all_eq_true.1 hB i (by simpa using hlt); rw [hi] at h1; simp only [Bool.and_eq_true] at h1; obtain ⟨⟨h2, h3⟩, h4⟩ := h1; refine ⟨fun e he => ?_, fun d hd => ?_, fun k ok d hk hok hd => ?_⟩
    · have h5 := (Array.all_eq_true'.1 h2) e he; intro hbe; simpa [hbe] using h5
    · rw [hd] at h3; simpa using h3
    · have hlt' : k < ops.size := by
        rcases Nat.lt_or_ge k ops.size with h | h
        · exact h
        · rw [Array.getElem?_eq_none h] at hok; cases hok
      have h5 := List.all_eq_true.1 h4 k (by simpa using hlt'); rw [hok] at h5; simp only [hd, Bool.or_eq_true, beq_iff_eq, hk, false_or, Bool.and_eq_true, bne_iff_ne, ne_eq, Bool.not_eq_true'] at h5; refine ⟨h5.1, fun hm => ?_⟩; rcases h5.2 with (h6 | h6) | h6
      · rw [List.contains_iff_mem.2 hm] at h6; cases h6
      · exact .inl h6
      · exact .inr h6
  intro fuel
  induction fuel with
  | zero =>
    intro listed a w hs hu hlz hG hI
    have hall : ∀ i, i < ops.size → listed.getD i false = true := by
      intro i hi; have h0 : (List.range ops.size).filter (fun i => !listed.getD i false) = [] := List.eq_nil_of_length_eq_zero hu; have := List.filter_eq_nil_iff.1 h0 i (by simpa using hi); simpa using this
    have hl : listed = Array.replicate ops.size true := by
      apply Array.ext
      · simp [hs]
      · intro i h1 h2; have := hall i (by omega); simp [h1] at this; simp [this]
    refine ⟨?_, hend a w hG (hl ▸ hI)⟩; unfold Region.ready; rw [List.filter_eq_nil_iff]; intro i hi; have := hall i (by simpa using hi); rw [← getD_true_false listed i (by simp at hi; omega)] at this; simp [this]
  | succ fuel ih =>
    intro listed a w hs hu hlz hG hI; refine ⟨fun hr => ?_, fun i hi => ?_⟩
    · exfalso
      -- the least that is not listed may come up
      have hex : ∃ i, i < ops.size ∧ listed.getD i false = false := by
        have h0 : (List.range ops.size).filter (fun i => !listed.getD i false) ≠ [] := by
          intro h; unfold unlisted at hu; rw [h] at hu; simp at hu
        obtain ⟨i, hi⟩ := List.exists_mem_of_ne_nil _ h0; rw [List.mem_filter] at hi; exact ⟨i, by simpa using hi.1, by simpa using hi.2⟩
      obtain ⟨i, ⟨hi1, hi2⟩, hmin⟩ := exists_least hex
      have : i ∈ Region.ready .any ops listed := by
        rw [mem_ready]; refine ⟨by rw [getD_true_false listed i (by omega)]; exact hi2, _, Array.getElem?_eq_getElem hi1, fun e he hbe => ?_⟩; have h1 := (hb i _ (Array.getElem?_eq_getElem hi1)).1 e he hbe
        by_cases h2 : listed.getD e.on false = true
        · exact h2
        · exact absurd ⟨by omega, by simpa using h2⟩ (hmin e.on h1)
      rw [hr] at this; cases this
    · obtain ⟨hun, oi, hoi, hall⟩ := mem_ready.1 hi
      have hlt : i < ops.size := by
        rcases Nat.lt_or_ge i ops.size with h | h
        · exact h
        · rw [Array.getElem?_eq_none h] at hoi; cases hoi
      rw [getD_true_false listed i (by omega)] at hun; obtain ⟨b1, b2, b3⟩ := hb i oi hoi
      have hset : ∀ k, (listed.setIfInBounds i true).getD k false = (if k = i then true else listed.getD k false) := by
        intro k
        by_cases hk : k = i
        · subst hk; simp [Array.getD_eq_getD_getElem?, Array.getElem?_setIfInBounds_self_of_lt (by omega : k < listed.size)]
        · simp [Array.getD_eq_getD_getElem?, Array.getElem?_setIfInBounds_ne (Ne.symm hk), hk]
      have hdep : ∀ k, oi.after.any (fun e => Region.binds .any e && e.on == k) = true → listed.getD k false = true := by
        intro k hk; rw [Array.any_eq_true'] at hk; obtain ⟨e, he, hek⟩ := hk; simp only [Bool.and_eq_true, beq_iff_eq] at hek; rw [← hek.2]; exact hall e he hek.1
      have hF : Finds ops Φ a0 i oi a w := by
        refine ⟨hI.defers, hI.size, fun k ok d hok hd _ hk => ?_, fun d hd hno => ?_⟩
        · obtain ⟨v, hv, hφ⟩ := hI.new k ok hok (hdep k hk); exact ⟨v, hv d hd, hφ⟩
        · apply hI.old
          intro k ok hok hlk hkd
          by_cases hki : k = i
          · subst hki; rw [hun] at hlk; cases hlk
          · rcases (b3 k ok d hki hok hkd).2 hd with h1 | h1
            · rw [hno k ok hok hkd hki] at h1; cases h1
            · rw [Array.any_eq_true'] at h1; obtain ⟨e, he, hek⟩ := h1; simp only [Bool.and_eq_true, beq_iff_eq] at hek; have := hI.closed k ok e hok hlk he hek.1; rw [hek.2, hun] at this; cases this
      refine wpOp_mono (fun a' w' h => ?_) (hstep i oi hoi (by
        rcases Nat.lt_or_ge z i with h | h
        · exact h
        · rw [hlz i h] at hun; cases hun) a w hG hF)
      obtain ⟨v, rfl, hφ, hg⟩ := h
      have hput : ∀ t, oi.dst ≠ some t → (a.put oi.dst v).tmps[t]? = a.tmps[t]? := by
        intro t ht; cases hd : oi.dst with
        | none => rfl
        | some d =>
          have hne : d ≠ t := fun e => ht (by rw [hd, e]); simp [Act.put, Array.getElem?_setIfInBounds_ne hne]
      refine ih _ _ _ (by simp [hs]) ?_ (fun k hk => by
        rw [hset k]; split
        · rfl
        · exact hlz k hk) (htrans _ _ _ hG hg) ⟨?_, ?_, ?_, ?_, ?_⟩
      · -- one fewer
        unfold unlisted at hu ⊢
        have e1 : (List.range ops.size).filter (fun k => !(listed.setIfInBounds i true).getD k false) = ((List.range ops.size).filter fun k => !listed.getD k false).erase i := by
          rw [List.Nodup.erase_eq_filter (List.Pairwise.filter _ List.nodup_range), List.filter_filter]; apply List.filter_congr
          intro k _; rw [hset k]
          by_cases hk : k = i
          · simp [hk]
          · simp [hk]
        rw [e1, List.length_erase_of_mem (by rw [List.mem_filter]; exact ⟨by simpa using hlt, by simp [hun]⟩), hu]; omega
      · cases hd : oi.dst <;> simp [Act.put, hI.defers]
      · cases hd : oi.dst <;> simp [Act.put, hI.size]
      · intro k ok hok hlk; rw [hset k] at hlk
        by_cases hki : k = i
        · subst hki; rw [hoi] at hok; injection hok with hok; subst hok
          refine ⟨v, fun d hd => ?_, hφ⟩; have := b2 d hd; rw [hd]; simp [Act.put, Array.getElem?_setIfInBounds_self_of_lt (by rw [hI.size]; exact this : d < a.tmps.size)]
        · rw [if_neg hki] at hlk; obtain ⟨u, hu1, hu2⟩ := hI.new k ok hok hlk; refine ⟨u, fun d hd => ?_, hΦ _ _ _ _ hu2 hg⟩; rw [hput d (b3 k ok d hki hok hd).1]; exact hu1 d hd
      · intro t ht; have h1 : oi.dst ≠ some t := ht i oi hoi (by rw [hset i]; simp); rw [hput t h1]; apply hI.old
        intro k ok hok hlk; exact ht k ok hok (by rw [hset k]; split <;> simp_all)
      · intro k ok e hok hlk he hbe; rw [hset k] at hlk; rw [hset e.on]
        by_cases hki : k = i
        · subst hki; rw [hoi] at hok; injection hok with hok; subst hok
          split
          · rfl
          · exact hall e he hbe
        · rw [if_neg hki] at hlk; split
          · rfl
          · exact hI.closed k ok e hok hlk he hbe
theorem wpAny_cut2 (a0 : Act) (w0 : World) (Φ : Nat → Value → World → Prop) (G : World → World → Prop) (z : Nat) (hz : z < ops.size) (htail : tail2B ops z = true) (hdom : domB ops z = true) (htrans : ∀ a b c, G a b → G b c → G a c)
    (hΦ : ∀ i v w w', Φ i v w → G w w' → Φ i v w') (hB : ssaB ops a0.tmps.size = true)
    (hstep : ∀ i o, ops[i]? = some o → i < z → ∀ a w, G w0 w → Finds ops Φ a0 i o a w → wpOp P ops Q i (fun a' w' => ∃ v, a' = a.put o.dst v ∧ Φ i v w' ∧ G w w') a w)
    (hend : ∀ (a : Act) (w : World), G w0 w → (∀ i o, ops[i]? = some o → i < z → ∃ v, (∀ d, o.dst = some d → a.tmps[d]? = some v) ∧ Φ i v w) → a.defers = a0.defers → a.tmps.size = a0.tmps.size →
      (∀ t, (∀ i o, ops[i]? = some o → i < z → o.dst ≠ some t) → a.tmps[t]? = a0.tmps[t]?) → wpOp P ops Q z (TailOK P ops Q z) a w) :
    ∀ (fuel : Nat) (listed : Array Bool) (a : Act) (w : World), listed.size = ops.size → unlisted ops listed = fuel → (∀ k, z ≤ k → listed.getD k false = false) → G w0 w → Ssa ops Φ a0 listed a w → wpAny P .any ops Q fuel listed a w := by
  have hb : ∀ i oi, ops[i]? = some oi → (∀ e ∈ oi.after, Region.binds .any e = true → e.on < i) ∧ (∀ d, oi.dst = some d → d < a0.tmps.size) ∧
      (∀ k ok d, k ≠ i → ops[k]? = some ok → ok.dst = some d → oi.dst ≠ some d ∧ (d ∈ oi.looksAt ops → oi.after.any (fun e => Region.binds .any e && e.on == k) = true ∨ ok.after.any (fun e => Region.binds .any e && e.on == i) = true)) := by
    intro i oi hi
    have hlt : i < ops.size := by
      rcases Nat.lt_or_ge i ops.size with h | h
      · exact h
      · rw [Array.getElem?_eq_none h] at hi; cases hi
    have h1 := List.all_eq_true.1 hB i (by simpa using hlt); rw [hi] at h1; simp only [Bool.and_eq_true] at h1; obtain ⟨⟨h2, h3⟩, h4⟩ := h1; refine ⟨fun e he => ?_, fun d hd => ?_, fun k ok d hk hok hd => ?_⟩
    · have h5 := (Array.all_eq_true'.1 h2) e he; intro hbe; simpa [hbe] using h5
    · rw [hd] at h3; simpa using h3
    · have hlt' : k < ops.size := by
        rcases Nat.lt_or_ge k ops.size with h | h
        · exact h
        · rw [Array.getElem?_eq_none h] at hok; cases hok
      have h5 := List.all_eq_true.1 h4 k (by simpa using hlt'); rw [hok] at h5; simp only [hd, Bool.or_eq_true, beq_iff_eq, hk, false_or, Bool.and_eq_true, bne_iff_ne, ne_eq, Bool.not_eq_true'] at h5; refine ⟨h5.1, fun hm => ?_⟩; rcases h5.2 with (h6 | h6) | h6
      · rw [List.contains_iff_mem.2 hm] at h6; cases h6
      · exact .inl h6
      · exact .inr h6
  intro fuel
  induction fuel with
  | zero =>
    intro listed a w hs hu hzu0 hG hI; have hzu := hzu0 z (Nat.le_refl _); exfalso
    have h0 : (List.range ops.size).filter (fun i => !listed.getD i false) = [] := List.eq_nil_of_length_eq_zero hu; have := List.filter_eq_nil_iff.1 h0 z (by simp; omega); simp [hzu] at this
  | succ fuel ih =>
    intro listed a w hs hu hzu0 hG hI; have hzu := hzu0 z (Nat.le_refl _); refine ⟨fun hr => ?_, fun i hi => ?_⟩
    · exfalso
      have hex : ∃ i, i < ops.size ∧ listed.getD i false = false := ⟨z, by omega, hzu⟩; obtain ⟨i, ⟨hi1, hi2⟩, hmin⟩ := exists_least hex
      have : i ∈ Region.ready .any ops listed := by
        rw [mem_ready]; refine ⟨by rw [getD_true_false listed i (by omega)]; exact hi2, _, Array.getElem?_eq_getElem hi1, fun e he hbe => ?_⟩; have h1 := (hb i _ (Array.getElem?_eq_getElem hi1)).1 e he hbe
        by_cases h2 : listed.getD e.on false = true
        · exact h2
        · exact absurd ⟨by omega, by simpa using h2⟩ (hmin e.on h1)
      rw [hr] at this; cases this
    · obtain ⟨hun, oi, hoi, hall⟩ := mem_ready.1 hi
      have hlt : i < ops.size := by
        rcases Nat.lt_or_ge i ops.size with h | h
        · exact h
        · rw [Array.getElem?_eq_none h] at hoi; cases hoi
      rw [getD_true_false listed i (by omega)] at hun; obtain ⟨b1, b2, b3⟩ := hb i oi hoi
      have hset : ∀ k, (listed.setIfInBounds i true).getD k false = (if k = i then true else listed.getD k false) := by
        intro k
        by_cases hk : k = i
        · subst hk; simp [Array.getD_eq_getD_getElem?, Array.getElem?_setIfInBounds_self_of_lt (by omega : k < listed.size)]
        · simp [Array.getD_eq_getD_getElem?, Array.getElem?_setIfInBounds_ne (Ne.symm hk), hk]
      have hdep : ∀ k, oi.after.any (fun e => Region.binds .any e && e.on == k) = true → listed.getD k false = true := by
        intro k hk; rw [Array.any_eq_true'] at hk; obtain ⟨e, he, hek⟩ := hk; simp only [Bool.and_eq_true, beq_iff_eq] at hek; rw [← hek.2]; exact hall e he hek.1
      have hF : Finds ops Φ a0 i oi a w := by
        refine ⟨hI.defers, hI.size, fun k ok d hok hd _ hk => ?_, fun d hd hno => ?_⟩
        · obtain ⟨v, hv, hφ⟩ := hI.new k ok hok (hdep k hk); exact ⟨v, hv d hd, hφ⟩
        · apply hI.old
          intro k ok hok hlk hkd
          by_cases hki : k = i
          · subst hki; rw [hun] at hlk; cases hlk
          · rcases (b3 k ok d hki hok hkd).2 hd with h1 | h1
            · rw [hno k ok hok hkd hki] at h1; cases h1
            · rw [Array.any_eq_true'] at h1; obtain ⟨e, he, hek⟩ := h1; simp only [Bool.and_eq_true, beq_iff_eq] at hek; have := hI.closed k ok e hok hlk he hek.1; rw [hek.2, hun] at this; cases this
      have hclosed' : ∀ k ok e, ops[k]? = some ok → (listed.setIfInBounds i true).getD k false = true → e ∈ ok.after → Region.binds .any e = true → (listed.setIfInBounds i true).getD e.on false = true := by
        intro k ok e hok hlk he hbe; rw [hset k] at hlk; rw [hset e.on]
        by_cases hki : k = i
        · subst hki; rw [hoi] at hok; injection hok with hok; subst hok
          split
          · rfl
          · exact hall e he hbe
        · rw [if_neg hki] at hlk; split
          · rfl
          · exact hI.closed k ok e hok hlk he hbe
      have hcount : unlisted ops (listed.setIfInBounds i true) = fuel := by
        unfold unlisted at hu ⊢
        have e1 : (List.range ops.size).filter (fun k => !(listed.setIfInBounds i true).getD k false) = ((List.range ops.size).filter fun k => !listed.getD k false).erase i := by
          rw [List.Nodup.erase_eq_filter (List.Pairwise.filter _ List.nodup_range), List.filter_filter]; apply List.filter_congr
          intro k _; rw [hset k]
          by_cases hk : k = i
          · simp [hk]
          · simp [hk]
        rw [e1, List.length_erase_of_mem (by rw [List.mem_filter]; exact ⟨by simpa using hlt, by simp [hun]⟩), hu]; omega
      have hiz1 : ¬ z < i := by
        intro h; obtain ⟨e, he, hbe, hze⟩ := tail2B_at htail h hoi; have := hall e he hbe; rw [hzu0 e.on hze] at this; cases this
      by_cases hiz : i = z
      · subst hiz; have hallL := all_listed hdom hclosed' (by rw [hset i]; simp)
        have hothers : ∀ k, k < i → listed.getD k false = true := by
          intro k hk; have := hallL k (by omega); rw [hset k, if_neg (by omega)] at this; exact this
        have hw := hend a w hG (fun k ok hk hki => hI.new k ok hk (hothers k hki)) hI.defers hI.size fun t ht => hI.old t fun k o hk hl => ht k o hk (by
          rcases Nat.lt_or_ge k i with h | h
          · exact h
          · rw [hzu0 k h] at hl; cases hl)
        refine wpOp_mono (fun a' w' h => ?_) hw; rw [← hcount]; exact h _ (by simp [hs]) (fun k hk => hallL k (by omega)) (fun k hk => by rw [hset k, if_neg (by omega)]; exact hzu0 k (by omega)) hclosed'
      · refine wpOp_mono (fun a' w' h => ?_) (hstep i oi hoi (by omega) a w hG hF); obtain ⟨v, rfl, hφ, hg⟩ := h
        have hput : ∀ t, oi.dst ≠ some t → (a.put oi.dst v).tmps[t]? = a.tmps[t]? := by
          intro t ht; cases hd : oi.dst with
          | none => rfl
          | some d =>
            have hne : d ≠ t := fun e => ht (by rw [hd, e]); simp [Act.put, Array.getElem?_setIfInBounds_ne hne]
        refine ih _ _ _ (by simp [hs]) hcount (fun k hk => by rw [hset k, if_neg (by omega)]; exact hzu0 k hk) (htrans _ _ _ hG hg) ⟨?_, ?_, ?_, ?_, hclosed'⟩
        · cases hd : oi.dst <;> simp [Act.put, hI.defers]
        · cases hd : oi.dst <;> simp [Act.put, hI.size]
        · intro k ok hok hlk; rw [hset k] at hlk
          by_cases hki : k = i
          · subst hki; rw [hoi] at hok; injection hok with hok; subst hok
            refine ⟨v, fun d hd => ?_, hφ⟩; have := b2 d hd; rw [hd]; simp [Act.put, Array.getElem?_setIfInBounds_self_of_lt (by rw [hI.size]; exact this : d < a.tmps.size)]
          · rw [if_neg hki] at hlk; obtain ⟨u, hu1, hu2⟩ := hI.new k ok hok hlk; refine ⟨u, fun d hd => ?_, hΦ _ _ _ _ hu2 hg⟩; rw [hput d (b3 k ok d hki hok hd).1]; exact hu1 d hd
        · intro t ht; have h1 : oi.dst ≠ some t := ht i oi hoi (by rw [hset i]; simp); rw [hput t h1]; apply hI.old
          intro k ok hok hlk; exact ht k ok hok (by rw [hset k]; split <;> simp_all)
theorem wpOp_callR {i : Nat} {o : Oper} {a : Act} {w : World} {K : Act → World → Prop} (hi : ops[i]? = some o) (hg : o.guard = none) (f : FuncId) (args : Array Value) (hrun : (execOp a.eval o).run P w = .ok (.enter f args) w)
    (hc : Calls P f args w fun e w' => ∃ v, e = .returned v ∧ K (a.put o.dst v) w') : wpOp P ops Q i K a w := by
  have hw : Region.wanted o (yielded ops a.tmps) = true := by simp [Region.wanted, hg]
  unfold wpOp; simp only [hi, hw, if_true, Oper.wp, hrun, Oper.upon]; refine .inl (hc.mono ?_); rintro e w' ⟨v, rfl, h⟩; exact h
end
end Go.Proofs.YtjpphldojbfpfaaGreatDoor
namespace Go.Proofs.YtjpphldojbfpfaaGreatDoor
open Go.RowKit
def GG (w w' : World) : Prop := ∃ (q : Nat) (os : Array Obj), w' = Go.Sort.grow (w.drewN q) os
theorem GG.refl (w : World) : GG w w := ⟨0, #[], by rw [Go.Sort.grow_empty]; rfl⟩
theorem GG.drew (w : World) : GG w w.drew := ⟨1, #[], by rw [Go.Sort.grow_empty]; rfl⟩
theorem GG.alloc (w : World) (o : Obj) : GG w (w.alloc o) := ⟨0, #[o], by rw [Go.Sort.alloc_eq_grow]; rfl⟩
theorem GG.gr {w w' : World} (h : GG w w') : Gr w w' := by
  obtain ⟨q, os, rfl⟩ := h; refine ⟨rfl, rfl, rfl, by simp [Go.Sort.grow, World.drewN], fun k hk => ?_⟩; simp only [Go.Sort.grow, World.drewN]; rw [Array.getElem?_append_left hk]
theorem GG.trans {a b c : World} (h : GG a b) (k : GG b c) : GG a c := by
  obtain ⟨q, os, rfl⟩ := h; obtain ⟨q2, os2, rfl⟩ := k; refine ⟨q + q2, os ++ os2, ?_⟩; simp [Go.Sort.grow, World.drewN, Array.append_assoc, Nat.add_assoc]
section
variable {P : Program} {ops : Array Oper} {Q : Exit → Act → World → Prop} {L : List (Value → World → Prop)} {i : Nat} {o : Oper} {a : Act} {w : World} {G : World → World → Prop}
theorem gg_val (hi : ops[i]? = some o) (hg : o.guard = none) (v : Value) (w' : World) (hrun : (execOp a.eval o).run P w = .ok (.value v) w') (hφ : (L.getD i AnyV) v w') (hG : G w w') : wpOp P ops Q i (fun a' w' => ∃ v, a' = a.put o.dst v ∧ (L.getD i AnyV) v w' ∧ G w w') a w := by
  have hw : Region.wanted o (yielded ops a.tmps) = true := by simp [Region.wanted, hg]
  unfold wpOp; simp only [hi, hw, if_true, Oper.wp, hrun, Oper.upon]; exact .inl ⟨v, rfl, hφ, hG⟩
theorem gg_call (hi : ops[i]? = some o) (hg : o.guard = none) (f : FuncId) (args : Array Value) (hrun : (execOp a.eval o).run P w = .ok (.enter f args) w) (v : Value)
    (hc : Calls P f args w fun e w' => e = .returned v ∧ w = w') (hφ : (L.getD i AnyV) v w) (hG : G w w) : wpOp P ops Q i (fun a' w' => ∃ v, a' = a.put o.dst v ∧ (L.getD i AnyV) v w' ∧ G w w') a w :=
  wpOp_callR hi hg f args hrun (hc.mono fun _ _ ⟨he, hw⟩ => ⟨v, he, v, rfl, hw ▸ hφ, hw ▸ hG⟩)
end
end Go.Proofs.YtjpphldojbfpfaaGreatDoor
namespace Go.Proofs.YtjpphldojbfpfaaGreatDoor
open Go.RowKit
theorem set_part (off : Nat) : ∀ (cs : List Value) (i : Nat) (C : Array Value), off + i + cs.length ≤ C.size →
    ((cs.zipIdx i).foldl (fun (C : Array Value) p => C.setIfInBounds (off + p.2) p.1) C).toList = C.toList.take (off + i) ++ cs ++ C.toList.drop (off + i + cs.length)
  | [], i, C, h => by simp
  | c :: cs, i, C, h => by
    rw [List.zipIdx_cons, List.foldl_cons, set_part off cs (i + 1) _ (by simp at h ⊢; omega)]; have hl : off + i < C.toList.length := by simp at h ⊢; omega
    simp only [Array.toList_setIfInBounds, List.length_cons]; rw [show off + (i + 1) + cs.length = off + i + (cs.length + 1) by omega, List.drop_set_of_lt (by omega), show off + (i + 1) = off + i + 1 by omega, List.take_add_one, List.take_set_of_le (by omega), List.getElem?_set_self hl]; simp
theorem fill_step (place : Nat → Option (Nat × Nat)) (C : Array Value) (i : Nat) (v : Value) (cs : List Value) (off : Nat) (hp : place i = some (off, cs.length)) (hv : v.cells = cs.toArray) (rest : List (Nat × Value)) (h : off + cs.length ≤ C.size) :
    Instr.fill place C ((i, v) :: rest) = Instr.fill place (C.toList.take off ++ cs ++ C.toList.drop (off + cs.length)).toArray rest := by
  have h1 := set_part off cs 0 C (by omega); simp only [Nat.add_zero] at h1
  have h2 : (cs.toArray.zipIdx.foldl (fun (C : Array Value) (x : Value × Nat) => C.setIfInBounds (off + x.2) x.1) C) = (C.toList.take off ++ cs ++ C.toList.drop (off + cs.length)).toArray := by
    rw [← h1, ← Array.foldl_toList]; simp
  rw [Instr.fill]; simp only [hp, hv]; rw [if_neg (by simp; omega)]; exact congrArg (fun x => Instr.fill place x rest) h2
end Go.Proofs.YtjpphldojbfpfaaGreatDoor
namespace Go.Proofs.YtjpphldojbfpfaaGreatDoor
open Go.ChangeShapes Go.WideShapes Go.ChangeAt Go.RowKit
section
variable {P : Program} {H : Type} {enc : TypeId × Value → H} {w : World} {base : Nat} {spare : Nat → Bool} {held : Bool}
end
end Go.Proofs.YtjpphldojbfpfaaGreatDoor
namespace Go.Proofs.YtjpphldojbfpfaaGreatDoor
open Go.RowKit
section
variable {P : Program} {ev : Operand → Value} {d : Option Tmp} {t S T U : TypeId} {p : String} {af : Array Edge} {gd : Option (Nat × Bool)} {w : World} {x y : Operand}
end
end Go.Proofs.YtjpphldojbfpfaaGreatDoor
namespace Go.Proofs.YtjpphldojbfpfaaGreatDoor
open Go.RowKit
section
variable {w w' : World} {base : Nat} {A : Option Addr} {n c : Nat} {xs : List Value}
end
section
variable {P : Program} {w : World} {base : Nat} {A : Option Addr} {n c m : Nat} {xs news : List Value}
end
end Go.Proofs.YtjpphldojbfpfaaGreatDoor
namespace Go.Proofs.YtjpphldojbfpfaaGreatDoor
open Go.RowKit
section
variable {S : List Nat} {B g : Nat} {w0 w w' : World} {L : List (Nat × TypeId × List Value)} {t : TypeId} {cs : List Value}
variable {P : Program}
end
end Go.Proofs.YtjpphldojbfpfaaGreatDoor
