/- Small laws of this seat, laid as one text. No condition. -/
import Derived.Test.YteckblffpidigaaGreatDoorKitA
import Derived.ProofKit
import Derived.OpenShut
import Derived.ShutString
import Derived.ChangeOld
import Derived.Maps.Keyed
import Derived.DeepKeys4
import Derived.Carry
import Derived.WideLaws
import Derived.ChangeMaps5
import Derived.Laws.AppendOwn
import Derived.Lib.BufferWrite
import Derived.Laws.StructEq
import Derived.Lib.AppendZerosOnto
import Derived.Stop.BytesEq
import Derived.Laws.Small
import Derived.Sort.Grow
import Derived.Laws.Tables
import Derived.ChangeSame
import Derived.Deep.Upon
import Derived.Deep.AppendSrc
/- How a law's arguments are opened: bytes, arrays of numbers, slices of bytes. -/
namespace Go.Proofs.YteckblffpidigaaGreatDoor
open Go.ChangeShapes Go.WideShapes Go.ChangeAt Go.RowKit

section
variable {H : Type} {enc : TypeId × Value → H} {P : Program} {w : World} {base : Nat} {spare : Nat → Bool} {held : Bool}

/-- Numbers that fit a byte are bytes. -/
theorem bytes_of_wf : ∀ (zs : List Int), (∀ n ∈ zs, (Lit.int .u8 n).wf = true) → ∃ l : List UInt8, zs.map (Value.int .u8) = u8s l ∧ l.length = zs.length
  | [], _ => ⟨[], rfl, rfl⟩
  | z :: zs, h => by
    obtain ⟨l, hl, hn⟩ := bytes_of_wf zs fun n hn => h n (by simp [hn])
    have hz := h z (by simp)
    simp [Lit.wf, IntKind.min, IntKind.max, IntKind.signed, IntKind.bits] at hz
    refine ⟨UInt8.ofNat z.toNat :: l, ?_, by simp [hn]⟩
    simp only [List.map_cons, hl, u8s]
    congr 2
    rw [UInt8.toNat_ofNat']
    omega

/-- A slice of bytes that came in. -/
theorem open_u8s {r : Reach} {b0 : Nat} {t e : TypeId} {v : Value} {d : DataW H} {p : List MemPlace} (ht : P.underlying t = some (.slice e)) (he : P.underlying e = some (.int .u8)) (hc : P.cellsOf e = 1)
    (hv : Value.okWide P w r b0 t v) (h : DataW.Trod enc P w base (fun _ => true) held t v d p) :
    ∃ (A : Option Addr) (n c : Nat) (l : List UInt8), v = .slice A n c ∧ n ≤ c ∧ c ≤ maxLen ∧ Rd w A n (u8s l) := by
  obtain ⟨A, n, c, rfl⟩ := okWide_slice ht hv
  obtain ⟨fuel, hf⟩ := h
  rcases open_ints ht he hc hf with ⟨hcs, _⟩ | ⟨x, l, c', zs, hcs, _, hl, hm, hz, _, hcell, hwz⟩
  · simp [Value.cells] at hcs
    obtain ⟨rfl, rfl, rfl⟩ := hcs
    exact ⟨none, 0, 0, [], rfl, Nat.le_refl _, Nat.zero_le _, Rd.nil _ _⟩
  · simp [Value.cells] at hcs
    obtain ⟨rfl, rfl, rfl⟩ := hcs
    obtain ⟨m, hm1, hm2⟩ := bytes_of_wf (zs.take n) fun z hz' => hwz z (List.mem_of_mem_take hz')
    have hzl : zs.length = c := by simpa using hz
    refine ⟨_, n, c, m, rfl, hl, hm, ?_, fun i u hu => ⟨x, rfl, ?_⟩⟩
    · simp [hm2, hzl]; omega
    · rw [← hm1, List.getElem?_map, Option.map_eq_some_iff] at hu
      obtain ⟨z, hz1, rfl⟩ := hu
      rw [List.getElem?_take] at hz1
      split at hz1
      · rw [hcell i (by omega), List.getD_eq_getElem?_getD, hz1]; rfl
      · cases hz1

theorem open_array {r : Reach} {b0 : Nat} {t e : TypeId} {k : IntKind} {n : Nat} {v : Value} {d : DataW H} {p : List MemPlace} (ht : P.underlying t = some (.array n e)) (he : P.underlying e = some (.int k))
    (hc : P.cellsOf e = 1) (hC : P.cellsOf t = n) (hv : Value.okWide P w r b0 t v) (h : DataW.Trod enc P w base spare held t v d p) :
    ∃ zs : List Int, zs.length = n ∧ v = .agg (zs.map (Value.int k)).toArray ∧ ∀ z ∈ zs, (Lit.int k z).wf = true := by
  have hv' : ∃ cs, v = .agg cs ∧ cs.size = P.cellsOf t ∧ Row.okWide P w r b0 t cs := by simpa only [Value.okWide, ht] using hv
  obtain ⟨cs, rfl, hsz, _⟩ := hv'
  obtain ⟨fuel, hf⟩ := h
  obtain ⟨xs, m, _, _, hl, hn, hel⟩ := DataW.trod_array ht hf
  simp only [Value.cells, hc, Nat.mul_one] at hel
  have hel2 : ∀ i, i < n → ∃ z, cs[i]? = some (.int k z) ∧ (Lit.int k z).wf = true := by
    intro i hi
    have h1 := hel i hi
    rw [List.getElem?_eq_getElem (by omega)] at h1
    obtain ⟨z, h2, _, h4⟩ := DataW.trod_int he h1
    refine ⟨z, ?_, h4⟩
    have h5 : ((cs.toList.drop i).take 1)[0]? = some (.int k z) := by rw [h2]; rfl
    rw [List.getElem?_take, if_pos (by omega), List.getElem?_drop] at h5
    simpa using h5
  refine ⟨(List.range n).map fun i => intOf (cs[i]?.getD undef), by simp, ?_, fun z hz => ?_⟩
  · congr 1
    apply Array.ext_getElem?
    intro i
    by_cases hi : i < n
    · obtain ⟨z, hz, _⟩ := hel2 i hi
      simp [hi, hz, intOf]
    · rw [Array.getElem?_eq_none (by omega), Array.getElem?_eq_none (by simp; omega)]
  · rw [List.mem_map] at hz
    obtain ⟨i, hi, rfl⟩ := hz
    obtain ⟨z, hz, hw⟩ := hel2 i (by simpa using hi)
    rw [hz]; exact hw

theorem open_u8a {r : Reach} {b0 : Nat} {t e : TypeId} {n : Nat} {v : Value} {d : DataW H} {p : List MemPlace} (ht : P.underlying t = some (.array n e)) (he : P.underlying e = some (.int .u8))
    (hc : P.cellsOf e = 1) (hC : P.cellsOf t = n) (hv : Value.okWide P w r b0 t v) (h : DataW.Trod enc P w base spare held t v d p) :
    ∃ l : List UInt8, l.length = n ∧ v = .agg (u8s l).toArray := by
  obtain ⟨zs, h1, rfl, h2⟩ := open_array ht he hc hC hv h
  obtain ⟨l, h3, h4⟩ := bytes_of_wf zs h2
  exact ⟨l, by omega, by rw [h3]⟩
end

theorem u32_of_wf {z : Int} (h : (Lit.int .u32 z).wf = true) : ∃ x : UInt32, z = x.toNat := by
  simp [Lit.wf, IntKind.min, IntKind.max, IntKind.signed, IntKind.bits] at h
  exact ⟨UInt32.ofNat z.toNat, by rw [UInt32.toNat_ofNat']; omega⟩
theorem u64_of_wf {z : Int} (h : (Lit.int .u64 z).wf = true) : ∃ x : Nat, z = x ∧ x < 18446744073709551616 := by
  simp [Lit.wf, IntKind.min, IntKind.max, IntKind.signed, IntKind.bits] at h
  exact ⟨z.toNat, by omega, by omega⟩
theorem i64_of_wf {z : Int} (h : (Lit.int .i64 z).wf = true) : -9223372036854775808 ≤ z ∧ z ≤ 9223372036854775807 := by
  simp [Lit.wf, IntKind.min, IntKind.max, IntKind.signed, IntKind.bits] at h
  omega
theorem u8_of_wf {z : Int} (h : (Lit.int .u8 z).wf = true) : ∃ x : UInt8, z = x.toNat := by
  simp [Lit.wf, IntKind.min, IntKind.max, IntKind.signed, IntKind.bits] at h
  exact ⟨UInt8.ofNat z.toNat, by rw [UInt8.toNat_ofNat']; omega⟩
end Go.Proofs.YteckblffpidigaaGreatDoor
/- Maps of one's own, by the list of their entries: looked up, written, counted. No condition. -/
namespace Go.Proofs.YteckblffpidigaaGreatDoor
open Go.RowKit
open Go.Maps (Keyed)
open Go.ChangeMaps (setBlock)
/-- The block b is a map whose entries are, in the order in which they came, these pairs of keys and values. -/
def MapIs (P : Program) (k : TypeId) (w : World) (b : Nat) (L : List (Value × Value)) : Prop :=
  ∃ es clock, w.heap[b]? = some (.map es clock) ∧ es.toList.map (fun e => (e.key, e.val)) = L ∧ (∀ p ∈ L, ∃ l, keyOf P k p.1 = some l) ∧ (L.map Prod.fst).Nodup
section
variable {P : Program} {k t e : TypeId} {w w' : World} {b : Nat} {L : List (Value × Value)}
theorem MapIs.lt (h : MapIs P k w b L) : b < w.heap.size := by
  obtain ⟨es, c, hb, _⟩ := h
  exact (Array.getElem?_eq_some_iff.1 hb).1
theorem MapIs.same (h : MapIs P k w b L) (he : w'.heap[b]? = w.heap[b]?) : MapIs P k w' b L := by
  obtain ⟨es, c, hb, h2⟩ := h
  exact ⟨es, c, by rw [he]; exact hb, h2⟩
theorem MapIs.gr (h : MapIs P k w b L) (hG : Gr w w') : MapIs P k w' b L := h.same (hG.block b h.lt)
theorem MapIs.made (P : Program) (k : TypeId) (w : World) : MapIs P k (w.alloc (.map #[] 0)) w.heap.size [] := ⟨#[], 0, by unfold World.alloc; simp, rfl, by simp, by simp⟩
theorem MapIs.madeAt (P : Program) (k : TypeId) (w : World) {n : Nat} (h : w.heap.size = n) : MapIs P k (w.alloc (.map #[] 0)) n [] := by subst h; exact MapIs.made P k w
theorem nodup_val {k : Value} {v u : Value} : ∀ {L : List (Value × Value)}, (L.map Prod.fst).Nodup → (k, v) ∈ L → (k, u) ∈ L → v = u
  | [], _, h, _ => by cases h
  | (k0, v0) :: L, hn, h1, h2 => by
    simp only [List.map_cons, List.nodup_cons, List.mem_map, not_exists, not_and] at hn
    simp only [List.mem_cons, Prod.mk.injEq] at h1 h2
    rcases h1 with ⟨rfl, rfl⟩ | h1
    · rcases h2 with ⟨_, rfl⟩ | h2
      · rfl
      · exact absurd rfl (hn.1 _ h2)
    · rcases h2 with ⟨rfl, _⟩ | h2
      · exact absurd rfl (hn.1 _ h1)
      · exact nodup_val hn.2 h1 h2
/-- What is found at a key. -/
theorem MapIs.find (h : MapIs P k w b L) (K : Keyed P k) {x : Value} {lx : Lit} (hx : keyOf P k x = some lx) : ∃ es clock, w.heap[b]? = some (.map es clock) ∧ es.toList.map (fun e => (e.key, e.val)) = L ∧
    (((Instr.findKey k x es.toList).run P w = .ok none w ∧ ∀ p ∈ L, p.1 ≠ x) ∨ ∃ (j : Nat) (v : Value), (Instr.findKey k x es.toList).run P w = .ok (some (j, v)) w ∧ L[j]? = some (x, v) ∧ ∃ e, es[j]? = some e ∧ e.key = x ∧ e.val = v) := by
  obtain ⟨es, clock, hb, hL, hk, hn⟩ := h
  refine ⟨es, clock, hb, hL, ?_⟩
  have hes : ∀ e ∈ es.toList, ∃ l, keyOf P k e.key = some l := fun e he => hk (e.key, e.val) (by rw [← hL]; exact List.mem_map.2 ⟨e, he, rfl⟩)
  rcases K.find w hx es.toList hes with ⟨h1, h2⟩ | ⟨j, e, h1, h2, h3⟩
  · refine .inl ⟨h1, fun p hp => ?_⟩
    rw [← hL] at hp
    obtain ⟨e, he, rfl⟩ := List.mem_map.1 hp
    exact h2 e he
  · refine .inr ⟨j, e.val, h1, ?_, e, by simpa using h2, h3, rfl⟩
    rw [← hL, List.getElem?_map, h2]
    simp [h3]
theorem MapIs.hit (h : MapIs P k w b L) (K : Keyed P k) (ht : P.underlying t = some (.map k e)) {x v : Value} (hx : (x, v) ∈ L) (ok : Bool) :
    (Instr.lookup t (.map (some b)) x ok).run P w = .ok (if ok then .tuple #[v, .bool true] else v) w := by
  obtain ⟨lx, hlx⟩ : ∃ l, keyOf P k x = some l := by obtain ⟨_, _, _, _, hk, _⟩ := h; exact hk _ hx
  have hn : (L.map Prod.fst).Nodup := by obtain ⟨_, _, _, _, _, hn⟩ := h; exact hn
  obtain ⟨es, clock, hb, hL, h1⟩ := h.find K hlx
  rcases h1 with ⟨h1, h2⟩ | ⟨j, u, h1, h2, _⟩
  · exact absurd rfl (h2 _ hx)
  · have := nodup_val hn hx (List.mem_of_getElem? h2)
    subst this
    simp [Instr.lookup, run_underlying ht, MapKept.run_getObj_map hb, K.check w _ hlx, h1, Result.andThen]
theorem MapIs.miss (h : MapIs P k w b L) (K : Keyed P k) (ht : P.underlying t = some (.map k e)) {x z : Value} {lx : Lit} (hx : keyOf P k x = some lx) (hno : ∀ p ∈ L, p.1 ≠ x) (hz : (zeroValue e).run P w = .ok z w) (ok : Bool) :
    (Instr.lookup t (.map (some b)) x ok).run P w = .ok (if ok then .tuple #[z, .bool false] else z) w := by
  obtain ⟨es, clock, hb, hL, h1⟩ := h.find K hx
  rcases h1 with ⟨h1, h2⟩ | ⟨j, u, h1, h2, _⟩
  · simp [Instr.lookup, run_underlying ht, MapKept.run_getObj_map hb, K.check w _ hx, h1, hz, Result.andThen]
  · exact absurd rfl (hno _ (List.mem_of_getElem? h2))
/-- A new key is written. -/
theorem MapIs.add (h : MapIs P k w b L) (K : Keyed P k) (ht : P.underlying t = some (.map k e)) {x v : Value} {lx : Lit} (hx : keyOf P k x = some lx) (hno : ∀ p ∈ L, p.1 ≠ x) :
    ∃ w', (Instr.mapUpdate t (.map (some b)) x v).run P w = .ok () w' ∧ MapIs P k w' b (L ++ [(x, v)]) ∧ ∃ o, w' = setBlock w b o := by
  have hk : ∀ p ∈ L, ∃ l, keyOf P k p.1 = some l := by obtain ⟨_, _, _, _, hk, _⟩ := h; exact hk
  have hn : (L.map Prod.fst).Nodup := by obtain ⟨_, _, _, _, _, hn⟩ := h; exact hn
  obtain ⟨es, clock, hb, hL, h1⟩ := h.find K hx
  rcases h1 with ⟨h1, h2⟩ | ⟨j, u, h1, h2, _⟩
  · refine ⟨setBlock w b (.map (es.push ⟨x, v, clock⟩) (clock + 1)), ?_, ⟨_, _, ChangeMaps.heap_setBlock_same hb _, by simp [hL], ?_, ?_⟩, _, rfl⟩
    · simp [Instr.mapUpdate, run_underlying ht, MapKept.run_getObj_map hb, K.check w _ hx, h1, MapKept.run_setObj_map _ hb, Result.andThen, setBlock]
    · intro p hp
      rcases List.mem_append.1 hp with hp | hp
      · exact hk p hp
      · rw [List.mem_singleton.1 hp]; exact ⟨lx, hx⟩
    · rw [List.map_append, List.map_singleton, List.nodup_append]
      refine ⟨hn, by simp, fun a ha c hc => ?_⟩
      obtain ⟨p, hp, rfl⟩ := List.mem_map.1 ha
      rw [List.mem_singleton.1 hc]
      exact h2 p hp
  · exact absurd rfl (hno _ (List.mem_of_getElem? h2))
theorem run_len_mapIs {ty : TypeId} (h : MapIs P k w b L) (ht : P.underlying t = some (.map k e)) : (Builtin.len_ #[t] ty #[.map (some b)]).run P w = .ok (.int .i64 (L.length : Nat)) w := by
  obtain ⟨es, clock, hb, hL, _⟩ := h
  have hl : es.size = L.length := by rw [← hL]; simp
  have h1 : P.underlying t = some (.map (P.mapKeyOf t) (P.mapElemOf t)) := by
    rw [ht]; simp [Program.mapKeyOf, Program.mapElemOf, ht]
  rw [run_len_map (P := P) w t ty b es clock h1 hb, hl]
  rfl
end
section
variable {P : Program} {k t e : TypeId} {b : Nat} {L : List (Value × Value)} {ev : Operand → Value} {d : Option Tmp} {ty T U : TypeId} {p : String} {af : Array Edge} {gd : Option (Nat × Bool)} {w : World} {x y : Operand}
theorem run_hit (h : MapIs P k w b L) (K : Keyed P k) (ht : P.underlying t = some (.map k e)) {key v : Value} (h1 : ev x = .map (some b)) (h2 : ev y = key) (hx : (key, v) ∈ L) (ok : Bool) :
    (execOp ev ⟨d, .lookup t x y ok, ty, p, af, gd⟩).run P w = .ok (.value (if ok then .tuple #[v, .bool true] else v)) w := by
  simp only [execOp, h1, h2, Sem.run_bind, h.hit K ht hx ok, Result.andThen_ok, Sem.run_pure]
theorem run_miss (h : MapIs P k w b L) (K : Keyed P k) (ht : P.underlying t = some (.map k e)) {key z : Value} {lx : Lit} (h1 : ev x = .map (some b)) (h2 : ev y = key) (hx : keyOf P k key = some lx) (hno : ∀ p ∈ L, p.1 ≠ key) (hz : (zeroValue e).run P w = .ok z w) (ok : Bool) :
    (execOp ev ⟨d, .lookup t x y ok, ty, p, af, gd⟩).run P w = .ok (.value (if ok then .tuple #[z, .bool false] else z)) w := by
  simp only [execOp, h1, h2, Sem.run_bind, h.miss K ht hx hno hz ok, Result.andThen_ok, Sem.run_pure]
end
section
variable {P : Program} {ops : Array Oper} {Q : Exit → Act → World → Prop} {rest : List Oper} {o : Oper} {a : Act} {w : World} {k t e : TypeId} {b : Nat} {L : List (Value × Value)}
/-- A new key is written: the statement. -/
theorem wpList_add (hgd : o.guard = none) (m x v : Operand) (ho : o.op = .mapUpdate t m x v) (h : MapIs P k w b L) (K : Keyed P k) (ht : P.underlying t = some (.map k e)) {key val : Value} {lx : Lit} (hm : a.eval m = .map (some b)) (h1 : a.eval x = key) (h2 : a.eval v = val)
    (hx : keyOf P k key = some lx) (hno : ∀ p ∈ L, p.1 ≠ key) (hK : ∀ o' w', w' = setBlock w b o' → MapIs P k w' b (L ++ [(key, val)]) → wpList P ops Q rest (a.put o.dst undef) w') : wpList P ops Q (o :: rest) a w := by
  refine wpList_plain hgd fun K' hK' => ?_
  obtain ⟨w', hrun, hM, o', hw⟩ := h.add K ht (v := val) hx hno
  unfold Oper.wp
  simp only [execOp, ho, hm, h1, h2, Sem.run_bind, hrun, Result.andThen_ok, Sem.run_pure]
  exact hK' _ _ (hK o' w' hw hM)
end
end Go.Proofs.YteckblffpidigaaGreatDoor
/- What a call may turn: blocks of a kind, above a mark; all else stands. No condition. -/
namespace Go.Proofs.YteckblffpidigaaGreatDoor
open Go.RowKit
open Go.ChangeMaps (setBlock)
/-- May what lies in a block turn? -/
def Turns (τ : Nat → Obj → Bool) (k : Nat) : Option Obj → Bool
  | some o => τ k o
  | none => false
/-- From w to w': what lies below B stands, and so does all that may not turn. -/
structure Tn (τ : Nat → Obj → Bool) (B : Nat) (w w' : World) : Prop where
  os : w'.os = w.os
  tape : w'.tape = w.tape
  output : w'.output = w.output
  size : w.heap.size ≤ w'.heap.size
  block : ∀ k, k < w.heap.size → (k < B ∨ Turns τ k w.heap[k]? = false) → w'.heap[k]? = w.heap[k]?
  turns : ∀ k, k < w.heap.size → Turns τ k w'.heap[k]? = Turns τ k w.heap[k]?
section
variable {τ : Nat → Obj → Bool} {B : Nat} {w w' w2 : World}
theorem Tn.of_gr (h : Gr w w') : Tn τ B w w' := ⟨h.os, h.tape, h.output, h.size, fun k hk _ => h.block k hk, fun k hk => by rw [h.block k hk]⟩
theorem Tn.refl (w : World) : Tn τ B w w := Tn.of_gr (Gr.refl w)
theorem Tn.trans (h : Tn τ B w w') (k : Tn τ B w' w2) : Tn τ B w w2 :=
  ⟨k.os.trans h.os, k.tape.trans h.tape, k.output.trans h.output, Nat.le_trans h.size k.size,
   fun i hi ho => (k.block i (Nat.lt_of_lt_of_le hi h.size) (by rw [h.turns i hi]; exact ho)).trans (h.block i hi ho),
   fun i hi => (k.turns i (Nat.lt_of_lt_of_le hi h.size)).trans (h.turns i hi)⟩
theorem Tn.gr (h : Tn τ B w w') (k : Gr w' w2) : Tn τ B w w2 := h.trans (Tn.of_gr k)
theorem Tn.drew (h : Tn τ B w w') : Tn τ B w w'.drew := h.gr (Gr.drew w')
theorem Tn.down (h : Tn τ B w w') {B' : Nat} (hb : B' ≤ B) : Tn τ B' w w' :=
  ⟨h.os, h.tape, h.output, h.size, fun k hk ho => h.block k hk (ho.imp (fun x => Nat.lt_of_lt_of_le x hb) id), h.turns⟩
theorem Tn.below (h : Tn τ B w w') (hB : B ≤ w.heap.size) : Below B w w' := ⟨h.os, h.tape, h.output, h.size, fun k hk => h.block k (Nat.lt_of_lt_of_le hk hB) (.inl hk)⟩
/-- Nothing turns: all stands. -/
theorem Tn.stands (h : Tn τ B w w') (hn : ∀ k o, τ k o = false) : Gr w w' := ⟨h.os, h.tape, h.output, h.size, fun k hk => h.block k hk (.inr (by cases w.heap[k]? <;> simp [Turns, hn]))⟩
theorem Turns.wide {σ : Nat → Obj → Bool} (hs : ∀ k o, σ k o = true → τ k o = true) {k : Nat} {o : Option Obj} (h : Turns σ k o = true) : Turns τ k o = true := by
  rcases o with _ | o
  · cases h
  · exact hs _ _ h
/-- Fewer turn. -/
theorem Tn.wide {σ : Nat → Obj → Bool} (h : Tn σ B w w') (hs : ∀ k o, σ k o = true → τ k o = true) : Tn τ B w w' := by
  have hf : ∀ {k : Nat} {o : Option Obj}, Turns τ k o = false → Turns σ k o = false := fun {k o} h => by
    rcases hb : Turns σ k o
    · rfl
    · rw [Turns.wide hs hb] at h; cases h
  refine ⟨h.os, h.tape, h.output, h.size, fun k hk ho => h.block k hk (ho.imp id hf), fun k hk => ?_⟩
  rcases hb : Turns σ k w.heap[k]?
  · rw [h.block k hk (.inr hb)]
  · rw [Turns.wide hs hb, Turns.wide hs (by rw [h.turns k hk]; exact hb)]
theorem Arr.tn {g : Nat} {t : TypeId} {cs : List Value} (h : Arr w g t cs) (hT : Tn τ B w w') (ht : ∀ C f, τ g (.cells C t f) = false) : Arr w' g t cs := by
  unfold Arr at *
  rw [hT.block g (Arr.lt h) (.inr (by rw [h]; exact ht _ _))]
  exact h
theorem Arr.tnB {g : Nat} {t : TypeId} {cs : List Value} (h : Arr w g t cs) (hT : Tn τ B w w') (hg : g < B) : Arr w' g t cs := by
  unfold Arr at *
  rw [hT.block g (Arr.lt h) (.inl hg)]
  exact h
/-- A row that is read and does not turn. -/
structure RdS (τ : Nat → Obj → Bool) (B : Nat) (w : World) (A : Option Addr) (n : Nat) (xs : List Value) : Prop where
  rd : Rd w A n xs
  safe : 0 < n → ∀ ad, A = some ad → ad.block < w.heap.size ∧ (ad.block < B ∨ Turns τ ad.block w.heap[ad.block]? = false)
theorem RdS.nil (w : World) (A : Option Addr) : RdS τ B w A 0 [] := ⟨Rd.nil _ _, fun h => absurd h (by omega)⟩
theorem RdS.tn {A : Option Addr} {n : Nat} {xs : List Value} (h : RdS τ B w A n xs) (hT : Tn τ B w w') : RdS τ B w' A n xs := by
  rcases Nat.eq_zero_or_pos n with rfl | hn
  · have hx : xs = [] := List.eq_nil_of_length_eq_zero h.rd.1
    subst hx
    exact RdS.nil _ _
  · refine ⟨h.rd.keep fun p hp he => ?_, fun _ ad e => ?_⟩
    · obtain ⟨ad, u, e1, _, hu⟩ := h.rd.at_ hn
      have hb := h.safe hn ad e1
      have hpe := he ad e1
      exact World.cell?_of_block (hT.block p.block hp (by rw [hpe]; exact hb.2))
    · obtain ⟨h1, h2⟩ := h.safe hn ad e
      refine ⟨Nat.lt_of_lt_of_le h1 hT.size, h2.imp id fun hf => by rw [hT.turns _ h1]; exact hf⟩
theorem RdS.gr {A : Option Addr} {n : Nat} {xs : List Value} (h : RdS τ B w A n xs) (hG : Gr w w') : RdS τ B w' A n xs := h.tn (Tn.of_gr hG)
theorem RdS.of_old {A : Option Addr} {n : Nat} {xs : List Value} (h : Rd w A n xs) (hB : w.heap.size ≤ B) : RdS τ B w A n xs :=
  ⟨h, fun hn ad e => by
    obtain ⟨ad', u, e1, _, hu⟩ := h.at_ hn
    rw [e] at e1
    injection e1 with e1
    subst e1
    have := lt_of_cell hu
    rw [add_block] at this
    exact ⟨this, .inl (Nat.lt_of_lt_of_le this hB)⟩⟩
theorem RdS.of_own {A : Option Addr} {n c base : Nat} {e : TypeId} {xs : List Value} (h : w.ownsRow base e 1 (.slice A n c) n xs) (he : ∀ k C f, base ≤ k → τ k (.cells C e f) = false) : RdS τ B w A n xs :=
  ⟨Rd.of_own h, fun hn ad e1 => by
    subst e1
    rcases h.2 with ⟨e2, _⟩ | ⟨g, cap, cur, e2, hbg, hg, _⟩
    · injection e2 with e2; cases e2
    · injection e2 with e2
      injection e2 with e2
      subst e2
      exact ⟨(Array.getElem?_eq_some_iff.1 hg).1, .inr (by rw [hg]; exact he _ _ _ hbg)⟩⟩
theorem RdS.of_arr {g : Nat} {t : TypeId} {cs : List Value} {n : Nat} (h : Rd w (some ⟨g, 0, none⟩) n cs) {C : Array Value} {f : Nat × Nat} (hg : w.heap[g]? = some (.cells C t f)) (ht : τ g (.cells C t f) = false) : RdS τ B w (some ⟨g, 0, none⟩) n cs :=
  ⟨h, fun _ ad e1 => by
    injection e1 with e1
    subst e1
    exact ⟨(Array.getElem?_eq_some_iff.1 hg).1, .inr (by rw [hg]; exact ht)⟩⟩
theorem RdS.take {A : Option Addr} {n k : Nat} {xs : List Value} (h : RdS τ B w A n xs) (hk : k ≤ n) : RdS τ B w A k (xs.take k) := ⟨h.rd.take hk, fun h0 => h.safe (by omega)⟩
theorem MapIs.tn {P : Program} {k : TypeId} {b : Nat} {L : List (Value × Value)} (h : MapIs P k w b L) (hT : Tn τ B w w') (hb : ∀ es c, τ b (.map es c) = false) : MapIs P k w' b L := by
  have hl := h.lt
  obtain ⟨es, c, hbk, h2⟩ := h
  exact ⟨es, c, by rw [hT.block b hl (.inr (by rw [hbk]; exact hb _ _))]; exact hbk, h2⟩
theorem Tn.set {P : Program} {k : TypeId} {b : Nat} {L L' : List (Value × Value)} {o : Obj} (h : MapIs P k w b L) (hw : w' = setBlock w b o) (h' : MapIs P k w' b L') (hb : B ≤ b) (hm : ∀ es c, τ b (.map es c) = true) : Tn τ B w w' := by
  obtain ⟨es, c, hbk, _⟩ := h
  obtain ⟨es', c', hbk', _⟩ := h'
  subst hw
  have ho : ∀ i, i ≠ b → (setBlock w b o).heap[i]? = w.heap[i]? := fun i hi => ChangeMaps.heap_setBlock_other hbk o hi
  refine ⟨rfl, rfl, rfl, by simp [setBlock], fun i _ hf => ho i (fun e => ?_), fun i _ => ?_⟩
  · subst e
    rcases hf with hf | hf
    · omega
    · rw [hbk] at hf; simp [Turns, hm] at hf
  · by_cases e : i = b
    · subst e; rw [hbk', hbk]; simp [Turns, hm]
    · rw [ho i e]
theorem MapIs.other {P : Program} {k : TypeId} {b c : Nat} {L : List (Value × Value)} {o : Obj} (h : MapIs P k w b L) {es : Array MapEntry} {ck : Nat} (hc : w.heap[c]? = some (.map es ck)) (hne : b ≠ c) : MapIs P k (setBlock w c o) b L :=
  h.same (ChangeMaps.heap_setBlock_other hc o hne)
end
end Go.Proofs.YteckblffpidigaaGreatDoor
/- Rows of one's own behind a turn; a cell set. No condition. -/
namespace Go.Proofs.YteckblffpidigaaGreatDoor
open Go.RowKit
section
variable {τ : Nat → Obj → Bool} {B : Nat} {w w' : World}
theorem own_tn {base : Nat} {e : TypeId} {size : Nat} {A : Option Addr} {n c : Nat} {xs : List Value} (h : w.ownsRow base e size (.slice A n c) n xs) (hT : Tn τ B w w') (ht : ∀ k C f, τ k (.cells C e f) = false) : w'.ownsRow base e size (.slice A n c) n xs := by
  refine ⟨h.1, ?_⟩
  rcases h.2 with h2 | ⟨g, cap, cur, e1, h1, h2, h3⟩
  · exact .inl h2
  · exact .inr ⟨g, cap, cur, e1, h1, by rw [hT.block g (Array.getElem?_eq_some_iff.1 h2).1 (.inr (by rw [h2]; exact ht _ _ _))]; exact h2, h3⟩
end
theorem Tn.cell {τ : Nat → Obj → Bool} {B : Nat} {w : World} {g : Nat} {t : TypeId} {cs : List Value} (h : Arr w g t cs) (hB : B ≤ g) (hm : ∀ C f, τ g (.cells C t f) = true) (i : Nat) (u : Value) : Tn τ B w (w.setCell ⟨g, i, none⟩ u) := by
  have hg := Lib.grownBy_setCell w g i u
  have h2 := h.set i u
  refine ⟨hg.os, hg.tape, hg.output, hg.size, fun k hk ho => ?_, fun k hk => ?_⟩
  · refine hg.block k hk fun e => ?_
    injection e with e
    subst e
    rcases ho with ho | ho
    · omega
    · rw [h] at ho
      simp [Turns, hm] at ho
  · by_cases e : k = g
    · subst e
      rw [h2, h]
      simp [Turns, hm]
    · rw [hg.block k hk fun e2 => e (Option.some.inj e2)]
theorem own_at1 {w : World} {B : Nat} {e : TypeId} {A : Option Addr} {n c : Nat} {xs : List Value} (h : w.ownsRow B e 1 (.slice A n c) n xs) {k : Nat} {u : Value} (hk : k < n) (hu : xs[k]? = some u) : ∃ gN, A = some ⟨gN, 0, none⟩ ∧ w.cell? ⟨gN, k, none⟩ = some u := by
  have hrd := Rd.of_own h
  rcases h.2 with ⟨_, e2⟩ | ⟨gN, cap, cur, e1, _⟩
  · omega
  · injection e1 with e1
    subst e1
    obtain ⟨ad, ea, hc⟩ := hrd.2 k u hu
    injection ea with ea
    subst ea
    rw [add_row, Nat.zero_add] at hc
    exact ⟨gN, rfl, hc⟩
theorem own_lt {w : World} {base : Nat} {e : TypeId} {A : Option Addr} {size n c : Nat} {xs : List Value} (h : w.ownsRow base e size (.slice A n c) n xs) : ∀ ad, A = some ad → ad.block < w.heap.size := by
  intro ad hA
  rcases h.2 with ⟨e1, _⟩ | ⟨g, cap, cur, e1, _, h2, _⟩
  · injection e1 with e1; rw [e1] at hA; cases hA
  · injection e1 with e1
    rw [e1] at hA
    injection hA with hA
    subst hA
    exact (Array.getElem?_eq_some_iff.1 h2).1
end Go.Proofs.YteckblffpidigaaGreatDoor
/- append to a row of one's own, its block's kind kept; parts of strings compared. No condition. -/
namespace Go.Proofs.YteckblffpidigaaGreatDoor
open Go.RowKit
section
variable {P : Program} {w : World}
theorem run_append_tn (base : Nat) (t ty e : TypeId) (i : TypeInfo) (z : Value) (size bytes : Nat) (ht : P.underlying t = some (.slice e)) (hi : P.info? e = some i) (hz : i.zero = some z)
    (hsize : i.size = size) (hby : i.bytes = bytes) (hzs : z.cells.size = size) (hsz : 0 < size) (A : Option Addr) (n c : Nat) (xs : List Value) (hown : w.ownsRow base e size (.slice A n c) n xs)
    (a : Addr) (m c2 : Nat) (news : List Value) (hl : news.length = m * size) (hnews : ∀ j u, news[j]? = some u → w.cell? (a.add j) = some u) (h1 : ∀ u ∈ news, u.oneCell' = true)
    (h63 : n + m ≤ maxLen) (hbytes : (n + m) * bytes ≤ 140737488355328) (hbase : base ≤ w.heap.size) :
    ∃ A' c' w', (Builtin.append_ #[t, t] ty #[.slice A n c, .slice (some a) m c2]).run P w = .ok (.slice A' (n + m) c') w' ∧ w'.ownsRow base e size (.slice A' (n + m) c') (n + m) (xs ++ news) ∧
      w.grownBy w' (Value.ownBlock (.slice A n c)) ∧ ∀ τ : Nat → Obj → Bool, (∀ k C f, τ k (.cells C e f) = true) → Tn τ base w w' := by
  obtain ⟨v', w', hr, h2, h3, _⟩ := run_append_own (P := P) w base t ty e i z size bytes ht hi hz hsize hby hzs hsz _ n xs hown a m c2 news hl hnews h1 h63 hbytes hbase
  have hv : ∃ A' c', v' = .slice A' (n + m) c' := by
    rcases h2.2 with ⟨e1, e2⟩ | ⟨g', cap', _, e1, _⟩
    · exact ⟨none, 0, by rw [e1, e2]⟩
    · exact ⟨_, _, e1⟩
  obtain ⟨A', c', rfl⟩ := hv
  refine ⟨A', c', w', hr, h2, h3, fun τ hτ => ?_⟩
  rcases hown.2 with ⟨e1, e2⟩ | ⟨g, cap, cur, e1, hbg, hg, hnc, hcm, hcs, htake⟩
  · injection e1 with e1 e3 e4
    subst e1
    exact Tn.of_gr ⟨h3.os, h3.tape, h3.output, h3.size, fun k hk => h3.block k hk (by simp [Value.ownBlock])⟩
  · injection e1 with e1 e3 e4
    subst e1 e4
    have hglt : g < w.heap.size := (Array.getElem?_eq_some_iff.1 hg).1
    by_cases hroom : n + m ≤ c
    · subst hsize
      have hfit : n * i.size + news.length ≤ cur.size := by rw [hl, hcs, ← Nat.add_mul]; exact Nat.mul_le_mul_right _ hroom
      have hr2 := run_append_room (P := P) w t ty e i ht hi g n c cur hg a m c2 news hl hnews h1 hroom hfit
      rw [hr] at hr2
      injection hr2 with _ hw
      subst hw
      refine ⟨rfl, rfl, rfl, h3.size, fun k hk ho => ?_, fun k hk => ?_⟩
      · refine setRow_other w g k _ fun hkg => ?_
        subst hkg
        rcases ho with ho | ho
        · omega
        · rw [hg] at ho
          have := hτ k cur (0, 0)
          simp [Turns, this] at ho
      · by_cases hkg : k = g
        · subst hkg
          rw [setRow_heap w k cur _ e _ hg, hg]
          simp [Turns, hτ]
        · rw [setRow_other w g k _ hkg]
    · have holds : ∀ j u, xs[j]? = some u → w.cell? ((⟨g, 0, none⟩ : Addr).add j) = some u := hown.cells (g := g) rfl
      have hr2 := run_append_grow (P := P) w t ty e i z ht hi hz ⟨g, 0, none⟩ n c xs (by rw [hown.1, hsize]) holds a m c2 news (by rw [hl, hsize]) hnews (by omega) (by have := h63; unfold maxLen at this; omega) (growslice_fits (by omega) (by rw [hby]; exact hbytes))
      rw [hr] at hr2
      injection hr2 with _ hw
      subst hw
      exact Tn.of_gr (Gr.trans (Gr.drew w) (Gr.alloc _ _))
theorem wpList_appT {ops : Array Oper} {rest : List Oper} {o : Oper} {x : Act} {Q : Exit → Act → World → Prop} (hgd : o.guard = none) (s y : Operand) (t : TypeId)
    (ho : o.op = .call { callee := .builtin .append, args := #[s, y], argTypes := #[t, t] })
    (base : Nat) (e : TypeId) (i : TypeInfo) (z : Value) (size bytes : Nat) (ht : P.underlying t = some (.slice e)) (hi : P.info? e = some i) (hz : i.zero = some z)
    (hsize : i.size = size) (hby : i.bytes = bytes) (hzs : z.cells.size = size) (hsz : 0 < size) {A : Option Addr} {n c : Nat} {xs : List Value} (hs : x.eval s = .slice A n c) (hown : w.ownsRow base e size (.slice A n c) n xs)
    (a : Addr) (m c2 : Nat) (news : List Value) (hx : x.eval y = .slice (some a) m c2) (hl : news.length = m * size) (hnews : ∀ j u, news[j]? = some u → w.cell? (a.add j) = some u) (h1 : ∀ u ∈ news, u.oneCell' = true)
    (h63 : n + m ≤ maxLen) (hbytes : (n + m) * bytes ≤ 140737488355328) (hbase : base ≤ w.heap.size)
    (hK : ∀ A' c' w', w'.ownsRow base e size (.slice A' (n + m) c') (n + m) (xs ++ news) → w.grownBy w' (Value.ownBlock (.slice A n c)) →
      (∀ τ : Nat → Obj → Bool, (∀ k C f, τ k (.cells C e f) = true) → Tn τ base w w') → wpList P ops Q rest (x.put o.dst (.slice A' (n + m) c')) w') : wpList P ops Q (o :: rest) x w := by
  obtain ⟨A', c', w', hr, h2, h3, h4⟩ := run_append_tn (P := P) base t o.type e i z size bytes ht hi hz hsize hby hzs hsz A n c xs hown a m c2 news hl hnews h1 h63 hbytes hbase
  refine wpList_plain hgd fun _ hKK => ?_
  unfold Oper.wp execOp
  simp only [ho, resolve, invoke, builtin, Sem.run_bind, Sem.run_pure, Result.andThen_ok, List.map_toArray, List.map_cons, List.map_nil, hs, hx, hr]
  exact hKK _ _ (hK A' c' w' h2 h3 h4)
theorem str_same {s t : ByteArray} {a b : List UInt8} (hs : s = ⟨a.toArray⟩) (ht : t = ⟨b.toArray⟩) (h : a = b) : (s == t) = true := by
  subst hs ht h
  show (a.toArray == a.toArray) = true
  exact beq_self_eq_true _
theorem str_sameL {s t : ByteArray} {a b : List UInt8} (hs : s = ⟨a.toArray⟩) (ht : t = ⟨b.toArray⟩) (h : a = b) : (s.toList == t.toList) = true := by
  rw [← beq_toListBytes]
  exact str_same hs ht h
theorem str_other {s t : ByteArray} {a b : List UInt8} (hs : s = ⟨a.toArray⟩) (ht : t = ⟨b.toArray⟩) (h : a ≠ b) : (s == t) = false := by
  subst hs ht
  show (a.toArray == b.toArray) = false
  simpa using h
theorem str_otherL {s t : ByteArray} {a b : List UInt8} (hs : s = ⟨a.toArray⟩) (ht : t = ⟨b.toArray⟩) (h : a ≠ b) : (s.toList == t.toList) = false := by
  rw [← beq_toListBytes]
  exact str_other hs ht h
end
end Go.Proofs.YteckblffpidigaaGreatDoor
/- Blocks of the call's own, told as one list, the newest first. No condition. -/
namespace Go.Proofs.YteckblffpidigaaGreatDoor
open Go.RowKit
/-- From B on the call owns these blocks, all unlike; below B nothing has turned since w0. -/
structure Mem (B : Nat) (w0 w : World) (L : List (Nat × TypeId × List Value)) : Prop where
  arr : ∀ x ∈ L, Arr w x.1 x.2.1 x.2.2
  dis : L.Pairwise fun a b => b.1 < a.1
  base : ∀ x ∈ L, B ≤ x.1
  below : Below B w0 w
section
variable {B g : Nat} {w0 w w' : World} {L : List (Nat × TypeId × List Value)} {t : TypeId} {cs : List Value}
theorem Mem.nil (w : World) : Mem w.heap.size w w [] := ⟨fun x h => by simp at h, List.Pairwise.nil, fun x h => by simp at h, Below.refl _ _⟩
theorem Mem.at_ (h : Mem B w0 w L) (k : Nat) (hk : L[k]? = some (g, t, cs)) : Arr w g t cs := h.arr _ (List.mem_of_getElem? hk)
theorem Mem.size (h : Mem B w0 w L) (hB : B ≤ w0.heap.size) : B ≤ w.heap.size := Nat.le_trans hB h.below.size
theorem Mem.lt (h : Mem B w0 w L) (k : Nat) (hk : L[k]? = some (g, t, cs)) : g < w.heap.size := (h.at_ k hk).lt
theorem Mem.le (h : Mem B w0 w L) (k : Nat) (hk : L[k]? = some (g, t, cs)) : B ≤ g := h.base _ (List.mem_of_getElem? hk)
theorem Mem.gr (h : Mem B w0 w L) (hB : B ≤ w0.heap.size) (hG : Gr w w') : Mem B w0 w' L :=
  ⟨fun x hx => (h.arr x hx).gr hG, h.dis, h.base, h.below.trans (hG.mono (h.size hB))⟩
theorem Mem.dr (h : Mem B w0 w L) (hd : Dr w w') : Mem B w0 w' L :=
  ⟨fun x hx => (h.arr x hx).dr hd, h.dis, h.base, h.below.trans (below_dr hd)⟩
theorem Mem.cons (h : Mem B w0 w L) (hB : B ≤ w0.heap.size) (hG : Gr w w') {n : Nat} (ha : Arr w' n t cs) (hn : w.heap.size ≤ n) : Mem B w0 w' ((n, t, cs) :: L) := by
  have h' := h.gr hB hG
  refine ⟨fun x hx => ?_, List.pairwise_cons.2 ⟨fun y hy => ?_, h.dis⟩, fun x hx => ?_, h'.below⟩
  · rcases List.mem_cons.1 hx with rfl | hx
    · exact ha
    · exact h'.arr x hx
  · exact Nat.lt_of_lt_of_le (h.arr y hy).lt hn
  · rcases List.mem_cons.1 hx with rfl | hx
    · exact Nat.le_trans (h.size hB) hn
    · exact h.base x hx
/-- A variable just made. -/
theorem Mem.new (h : Mem B w0 w L) (hB : B ≤ w0.heap.size) {C : Array Value} (hC : C.toList = cs) : Mem B w0 (w.alloc (.cells C t)) ((w.heap.size, t, cs) :: L) :=
  h.cons hB (Gr.alloc _ _) (Arr.newAt rfl hC) (Nat.le_refl _)
theorem Mem.drop1 {x : Nat × TypeId × List Value} (h : Mem B w0 w (x :: L)) : Mem B w0 w L :=
  ⟨fun y hy => h.arr y (List.mem_cons_of_mem _ hy), (List.pairwise_cons.1 h.dis).2, fun y hy => h.base y (List.mem_cons_of_mem _ hy), h.below⟩
theorem Mem.skip {x y : Nat × TypeId × List Value} (h : Mem B w0 w (x :: y :: L)) : Mem B w0 w (x :: L) := by
  have h1 := List.pairwise_cons.1 h.dis
  refine ⟨fun z hz => h.arr z ?_, List.pairwise_cons.2 ⟨fun z hz => h1.1 z (List.mem_cons_of_mem _ hz), (List.pairwise_cons.1 h1.2).2⟩, fun z hz => h.base z ?_, h.below⟩
  all_goals
    rcases List.mem_cons.1 hz with rfl | hz
    · exact List.mem_cons_self
    · exact List.mem_cons_of_mem _ (List.mem_cons_of_mem _ hz)
theorem pairwise_set_ {L : List (Nat × TypeId × List Value)} (h : L.Pairwise fun a b => b.1 < a.1) {k : Nat} (hk : L[k]? = some (g, t, cs)) (cs' : List Value) : (L.set k (g, t, cs')).Pairwise fun a b => b.1 < a.1 := by
  have e : (L.set k (g, t, cs')).map (·.1) = L.map (·.1) := by
    apply List.ext_getElem?
    intro i
    rw [List.getElem?_map, List.getElem?_map, List.getElem?_set]
    split
    · rename_i hi
      subst hi
      have hlt : k < L.length := by
        rcases Nat.lt_or_ge k L.length with h1 | h1
        · exact h1
        · rw [List.getElem?_eq_none h1] at hk; cases hk
      rw [hk]
      simp [hlt]
    · rfl
  have h2 : ((L.set k (g, t, cs')).map (·.1)).Pairwise fun a b => b < a := by
    rw [e]
    exact List.pairwise_map.2 h
  exact List.pairwise_map.1 h2
theorem Mem.turn (h : Mem B w0 w L) (k : Nat) (hk : L[k]? = some (g, t, cs)) {cs' : List Value} (ha : Arr w' g t cs') (ho : ∀ g' t' cs1, g' ≠ g → Arr w g' t' cs1 → Arr w' g' t' cs1) (hb : Below g w w') :
    Mem B w0 w' (L.set k (g, t, cs')) := by
  have hlt : k < L.length := by
    rcases Nat.lt_or_ge k L.length with h1 | h1
    · exact h1
    · rw [List.getElem?_eq_none h1] at hk; cases hk
  refine ⟨fun x hx => ?_, pairwise_set_ h.dis hk cs', fun x hx => ?_, h.below.trans (hb.mono (h.le k hk))⟩
  · obtain ⟨i, hi⟩ := List.mem_iff_getElem?.1 hx
    rw [List.getElem?_set] at hi
    split at hi
    · injection hi with hi
      subst hi
      exact ha
    · rename_i hne
      refine ho _ _ _ (fun e => ?_) (h.arr x (List.mem_of_getElem? hi))
      have hil : i < L.length := by
        rcases Nat.lt_or_ge i L.length with h1 | h1
        · exact h1
        · rw [List.getElem?_eq_none h1] at hi; cases hi
      have e1 : L[i] = x := by rw [List.getElem?_eq_getElem hil] at hi; injection hi
      have e2 : L[k] = (g, t, cs) := by rw [List.getElem?_eq_getElem hlt] at hk; injection hk
      have hp := List.pairwise_iff_getElem.1 h.dis
      rcases Nat.lt_or_ge i k with h1 | h1
      · have := hp i k hil hlt h1
        rw [e1, e2] at this
        exact absurd this (by simp only; omega)
      · have := hp k i hlt hil (by omega)
        rw [e1, e2] at this
        exact absurd this (by simp only; omega)
  · obtain ⟨i, hi⟩ := List.mem_iff_getElem?.1 hx
    rw [List.getElem?_set] at hi
    split at hi
    · injection hi with hi
      subst hi
      exact h.le k hk
    · exact h.base x (List.mem_of_getElem? hi)
/-- One cell stored. -/
theorem Mem.set (h : Mem B w0 w L) (k : Nat) (hk : L[k]? = some (g, t, cs)) (i : Nat) (v : Value) : Mem B w0 (w.setCell ⟨g, i, none⟩ v) (L.set k (g, t, cs.set i v)) :=
  h.turn k hk ((h.at_ k hk).set i v) (fun _ _ _ hne ha => ha.other hne v) (below_setCell (Nat.le_refl _))
/-- A whole array stored (what wpList_put leaves). -/
theorem Mem.put (h : Mem B w0 w L) (k : Nat) (hk : L[k]? = some (g, t, cs)) {cs' : List Value} (ha : Arr w' g t cs') (hb : Below g w w') (ho : ∀ g' t' cs1, g' ≠ g → Arr w g' t' cs1 → Arr w' g' t' cs1) : Mem B w0 w' (L.set k (g, t, cs')) :=
  h.turn k hk ha ho hb
variable {P : Program}
theorem wpList_putM {ops : Array Oper} {rest : List Oper} {op : Oper} {a : Act} {Q : Exit → Act → World → Prop} (h : Mem B w0 w L) (k : Nat) (hk : L[k]? = some (g, t, cs)) (hgd : op.guard = none) (ty : TypeId) (x y : Operand) (ho : op.op = .store ty x y)
    (vs : List Value) (hx : a.eval x = .pointer (some ⟨g, 0, none⟩)) (hy : a.eval y = .agg vs.toArray) (hn : cs.length = vs.length)
    (hi : (P.info? ty).map (·.size) = some vs.length) (h1 : ∀ v ∈ vs, v.oneCell' = true)
    (K : ∀ w2, Mem B w0 w2 (L.set k (g, t, vs)) → Below g w w2 → wpList P ops Q rest (a.put op.dst undef) w2) : wpList P ops Q (op :: rest) a w :=
  wpList_put (h.at_ k hk) hgd ty x y ho vs hx hy hn hi h1 fun w2 h2 h3 h4 => K w2 (h.put k hk h2 h3 h4) h3
theorem wpList_newM {ops : Array Oper} {rest : List Oper} {op : Oper} {a : Act} {Q : Exit → Act → World → Prop} {C : Array Value} (h : Mem B w0 w L) (hB : B ≤ w0.heap.size) (hgd : op.guard = none) (ty : TypeId) (x y : Operand) (ho : op.op = .store ty x y)
    (b : Nat) (vs : List Value) (hx : a.eval x = .pointer (some ⟨b, 0, none⟩)) (hy : a.eval y = .agg vs.toArray) (hb : b = w.heap.size) (hn : C.size = vs.length)
    (hi : (P.info? ty).map (·.size) = some vs.length) (h1 : ∀ v ∈ vs, v.oneCell' = true)
    (K : ∀ w2, Mem B w0 w2 ((b, t, vs) :: L) → Gr w w2 → wpList P ops Q rest (a.put op.dst undef) w2) : wpList P ops Q (op :: rest) a (w.alloc (.cells C t)) :=
  wpList_new hgd ty x y ho b vs hx hy hb hn hi h1 fun w2 h2 h3 => K w2 (h.cons hB h3 h2 (by omega)) h3
end
end Go.Proofs.YteckblffpidigaaGreatDoor
/- A drawn region with whole arrays stored in it, each into a block of its own: `return a, b`. No condition. -/
namespace Go.Proofs.YteckblffpidigaaGreatDoor
open Go.RowKit
section
variable {P : Program} {ops : Array Oper} {Q : Exit → Act → World → Prop}
theorem wp_region_cutG (G : World → World → Prop) (hrefl : ∀ w, G w w) (htrans : ∀ a b c, G a b → G b c → G a c) {id : Nat} {a0 : Act} {w0 : World} (hm : P.follows .mixedOrders = true) (L : List (Value → World → Prop)) (z : Nat) (hz : z < ops.size) (htail : tailB ops z = true) (hdom : domB ops z = true) (hB : ssaB ops a0.tmps.size = true)
    (hL : ∀ φ ∈ L, ∀ v w w', φ v w → G w w' → φ v w')
    (hstep : AllFrom (StepL P ops Q a0 w0.drew G L) 0 (ops.toList.take z))
    (hend : ∀ (vs : Nat → Value) w, G w0.drew w → AllFrom (fun i _ => (L.getD i AnyV) (vs i) w) 0 (ops.toList.take z) → wpList P ops Q (ops.toList.drop z) (putAll vs 0 (ops.toList.take z) a0) w) : (Code.region id ops true).wp P Q a0 w0 := by
  have hΦ : ∀ i v (w w' : World), (L.getD i AnyV) v w → G w w' → (L.getD i AnyV) v w' := by
    intro i v w w' h hg
    rcases Nat.lt_or_ge i L.length with hlt | hge
    · simp only [List.getD_eq_getElem?_getD, List.getElem?_eq_getElem hlt, Option.getD_some] at h ⊢
      exact hL _ (List.getElem_mem hlt) v w w' h hg
    · simp only [List.getD_eq_getElem?_getD, List.getElem?_eq_none hge, Option.getD_none] at h ⊢
      exact trivial
  refine wp_region_any hm (wpAny_cut a0 w0.drew (fun i => L.getD i AnyV) G z hz htail hdom htrans hΦ hB ?_ ?_ ops.size (Array.replicate ops.size false) a0 w0.drew (by simp) ?_ ?_ (hrefl _) ⟨rfl, rfl, ?_, fun _ _ => rfl, ?_⟩)
  · intro i o hi hiz a w hg hF
    have h1 := allFrom_get (ops.toList.take z) 0 hstep i o (by rw [List.getElem?_take]; simp [hiz, hi])
    simp only [Nat.zero_add] at h1
    exact h1 a w hg hF
  · intro a w hg hnew hdef hsize hold
    have hch : ∀ i, ∃ v, i < z → (∀ d, ((ops[i]?).bind (fun o : Oper => o.dst)) = some d → a.tmps[d]? = some v) ∧ (L.getD i AnyV) v w := by
      intro i
      by_cases hi : i < z
      · obtain ⟨v, h1, h2⟩ := hnew i _ (Array.getElem?_eq_getElem (by omega : i < ops.size)) hi
        exact ⟨v, fun _ => ⟨fun d hd => h1 d (by simpa [(by omega : i < ops.size)] using hd), h2⟩⟩
      · exact ⟨undef, fun h => absurd h hi⟩
    have hvs := fun i => Classical.choose_spec (hch i)
    have hall : ∀ (os : List Oper) (k : Nat), k + os.length ≤ z → AllFrom (fun i _ => (L.getD i AnyV) (Classical.choose (hch i)) w) k os := by
      intro os
      induction os with
      | nil => intro k _; exact trivial
      | cons o os ih => intro k hk; simp at hk; exact ⟨(hvs k (by omega)).2, ih (k + 1) (by omega)⟩
    have hend' := hend (fun i => Classical.choose (hch i)) w hg (hall _ 0 (by simp; omega))
    have hlen : ∀ j (o : Oper), (ops.toList.take z)[j]? = some o → j < z ∧ ops[j]? = some o := by
      intro j o h
      rw [List.getElem?_take] at h
      split at h
      · exact ⟨by assumption, by simpa using h⟩
      · cases h
    have ha : putAll (fun i => Classical.choose (hch i)) 0 (ops.toList.take z) a0 = a := by
      have h1 := putAll_defers (fun i => Classical.choose (hch i)) (ops.toList.take z) 0 a0
      have h2 := putAll_size (fun i => Classical.choose (hch i)) (ops.toList.take z) 0 a0
      have h3 : (putAll (fun i => Classical.choose (hch i)) 0 (ops.toList.take z) a0).tmps = a.tmps := by
        apply Array.ext_getElem?
        intro t
        by_cases hex : ∃ (j : Nat) (o : Oper), (ops.toList.take z)[j]? = some o ∧ o.dst = some t
        · obtain ⟨j, o, hj0, hd⟩ := hex
          obtain ⟨hjz, hj⟩ := hlen j o hj0
          have hlt : j < ops.size := by omega
          have hb := List.all_eq_true.1 hB j (by simpa using hlt)
          rw [hj] at hb
          simp only [Bool.and_eq_true, hd, decide_eq_true_eq] at hb
          rw [putAll_new _ t (ops.toList.take z) 0 a0 j o hj0 hd hb.1.2 fun k o' hk hd' => ?_, (hvs j hjz).1 t (by rw [hj]; exact hd)]
          · simp
          · rcases Nat.decEq k j with hkj | hkj
            · exfalso
              obtain ⟨hkz, hk'⟩ := hlen k o' hk
              have hltk : k < ops.size := by omega
              have h5 := List.all_eq_true.1 hb.2 k (by simpa using hltk)
              rw [hk'] at h5
              simp [hkj, hd'] at h5
            · exact hkj
        · rw [putAll_old _ t (ops.toList.take z) 0 a0 (fun (o : Oper) ho e => hex (by obtain ⟨j, hj⟩ := List.getElem?_of_mem ho; exact ⟨j, o, hj, e⟩)), hold t fun i o hi hiz e => hex ⟨i, o, by rw [List.getElem?_take]; simp [hiz, hi], e⟩]
      have h4 := hdef
      cases a
      cases hq : putAll (fun i => Classical.choose (hch i)) 0 (ops.toList.take z) a0
      rw [hq] at h1 h3
      simp only at h1 h3 h4
      rw [h1, h3, h4]
    rw [← ha]
    exact hend'
  · unfold unlisted
    rw [List.filter_eq_self.2]
    · simp
    · intro i hi
      simp only [List.mem_range] at hi
      simp [hi]
  · intro k _
    rw [Array.getD_eq_getD_getElem?, Array.getElem?_replicate]
    split <;> simp
  · intro i o hi hl
    exfalso
    rw [Array.getD_eq_getD_getElem?, Array.getElem?_replicate] at hl
    split at hl <;> simp at hl
  · intro i o e hi hl
    exfalso
    rw [Array.getD_eq_getD_getElem?, Array.getElem?_replicate] at hl
    split at hl <;> simp at hl


end
/-- Below B nothing has turned; of S's blocks each holds what it held, or what it is to hold; all others are as they were. -/
structure GM (B : Nat) (S : List (Nat × TypeId × List Value)) (w w' : World) : Prop where
  below : Below B w w'
  other : ∀ g t cs, (∀ s ∈ S, s.1 ≠ g) → Arr w g t cs → Arr w' g t cs
  done : ∀ s ∈ S, Arr w s.1 s.2.1 s.2.2 → Arr w' s.1 s.2.1 s.2.2
  there : ∀ s ∈ S, (∃ cs, cs.length = s.2.2.length ∧ Arr w s.1 s.2.1 cs) → ∃ cs, cs.length = s.2.2.length ∧ Arr w' s.1 s.2.1 cs
section
variable {B : Nat} {S : List (Nat × TypeId × List Value)}
theorem GM.refl (w : World) : GM B S w w := ⟨Below.refl _ _, fun _ _ _ _ h => h, fun _ _ h => h, fun _ _ h => h⟩
theorem GM.trans {a b c : World} (h : GM B S a b) (k : GM B S b c) : GM B S a c :=
  ⟨h.below.trans k.below, fun g t cs hs ha => k.other g t cs hs (h.other g t cs hs ha), fun s hs ha => k.done s hs (h.done s hs ha), fun s hs ha => k.there s hs (h.there s hs ha)⟩
theorem GM.store {w w' : World} {s : Nat × TypeId × List Value} (hs : s ∈ S) (hd : S.Pairwise fun a b => b.1 < a.1) (hB : B ≤ s.1) (ha : Arr w' s.1 s.2.1 s.2.2) (hb : Below s.1 w w')
    (ho : ∀ g t cs, g ≠ s.1 → Arr w g t cs → Arr w' g t cs) : GM B S w w' := by
  have hone : ∀ x ∈ S, x.1 = s.1 → x = s := by
    intro x hx he
    obtain ⟨i, hi, rfl⟩ := List.mem_iff_getElem.1 hx
    obtain ⟨j, hj, rfl⟩ := List.mem_iff_getElem.1 hs
    have hp := List.pairwise_iff_getElem.1 hd
    rcases Nat.lt_trichotomy i j with h | h | h
    · have := hp i j hi hj h; omega
    · subst h; rfl
    · have := hp j i hj hi h; omega
  refine ⟨hb.mono hB, fun g t cs hg hA => ho g t cs (fun e => hg s hs e.symm) hA, fun x hx hA => ?_, fun x hx hA => ?_⟩
  · by_cases he : x.1 = s.1
    · rw [hone x hx he]; exact ha
    · exact ho _ _ _ he hA
  · by_cases he : x.1 = s.1
    · rw [hone x hx he]; exact ⟨_, rfl, ha⟩
    · obtain ⟨cs, h1, h2⟩ := hA
      exact ⟨cs, h1, ho _ _ _ he h2⟩
variable {P : Program} {ops : Array Oper} {Q : Exit → Act → World → Prop} {L : List (Value → World → Prop)} {i : Nat} {o : Oper} {a : Act} {w : World}
theorem g_val (hi : ops[i]? = some o) (hg : o.guard = none) (x : Value) (hφ : L.getD i AnyV = IsV x) (hrun : (execOp a.eval o).run P w = .ok (.value x) w) :
    wpOp P ops Q i (fun a' w' => ∃ v, a' = a.put o.dst v ∧ (L.getD i AnyV) v w' ∧ GM B S w w') a w := by
  rw [hφ]
  unfold wpOp
  have hw : Region.wanted o (yielded ops a.tmps) = true := by simp [Region.wanted, hg]
  simp only [hi, hw, if_true, Oper.wp, hrun, Oper.upon]
  exact .inl ⟨x, rfl, rfl, GM.refl _⟩
theorem g_load (hi : ops[i]? = some o) (hg : o.guard = none) (ty : TypeId) (x : Operand) (ho : o.op = .load ty x) (g : Nat) (hx : a.eval x = .pointer (some ⟨g, 0, none⟩)) (t : TypeId) (cs : List Value) (d : TypeDesc) (hA : Arr w g t cs)
    (hu : P.underlying ty = some d) (hd : d.isRow = true) (hs : (P.info? ty).map (·.size) = some cs.length) (hφ : L.getD i AnyV = IsV (.agg cs.toArray)) :
    wpOp P ops Q i (fun a' w' => ∃ v, a' = a.put o.dst v ∧ (L.getD i AnyV) v w' ∧ GM B S w w') a w := by
  rw [hφ]
  unfold wpOp
  have hw : Region.wanted o (yielded ops a.tmps) = true := by simp [Region.wanted, hg]
  simp only [hi, hw, if_true]
  exact .inl (wp_load_mid ty x ho g 0 hx cs d hA.range hu hd hs ⟨_, rfl, rfl, GM.refl _⟩)
theorem g_store (hi : ops[i]? = some o) (hg : o.guard = none) (ty : TypeId) (x y : Operand) (ho : o.op = .store ty x y) (g : Nat) (t : TypeId) (vs : List Value) (hx : a.eval x = .pointer (some ⟨g, 0, none⟩)) (hy : a.eval y = .agg vs.toArray)
    (hs : (g, t, vs) ∈ S) (hd : S.Pairwise fun a b => b.1 < a.1) (hB : B ≤ g) (ht : ∃ cs, cs.length = vs.length ∧ Arr w g t cs) (hsz : (P.info? ty).map (·.size) = some vs.length) (h1 : ∀ v ∈ vs, v.oneCell' = true)
    (hφ : L.getD i AnyV = fun _ w => Arr w g t vs) :
    wpOp P ops Q i (fun a' w' => ∃ v, a' = a.put o.dst v ∧ (L.getD i AnyV) v w' ∧ GM B S w w') a w := by
  rw [hφ]
  unfold wpOp
  have hw : Region.wanted o (yielded ops a.tmps) = true := by simp [Region.wanted, hg]
  simp only [hi, hw, if_true]
  obtain ⟨cs, hl, hA⟩ := ht
  refine .inl (wp_store_mid ty x y ho g 0 vs.toArray hx hy (by have := hA.there; rw [hl] at this; simpa using this) (by simpa using hsz) (all_oneCell_toArray h1) ?_)
  have hA2 := hA.setAll vs hl.symm
  exact ⟨undef, rfl, hA2, GM.store (s := (g, t, vs)) hs hd hB hA2 (below_setCells (Nat.le_refl _) _ _ _) fun g' t' cs' hne hA' => hA'.setCells_other hne _ _⟩
end
theorem results_cell2_row {P : Program} {fn : Func} {p q : Tmp} {ty ty2 : TypeId} (h : fn.results = #[.cell p ty, .cell q ty2]) (tmps : Array Value) (w : World) (g g2 : Nat) (t t2 : TypeId) (cs cs2 : Array Value) (fr fr2 : Nat × Nat) (d d2 : TypeDesc)
    (hp : tmps.getD p undef = .pointer (some ⟨g, 0, none⟩)) (hg : w.heap[g]? = some (.cells cs t fr))
    (hu : P.underlying ty = some d) (hd : (match d with | .struct _ | .array _ _ => true | _ => false) = true) (hi : (P.info? ty).map (·.size) = some cs.size)
    (hp2 : tmps.getD q undef = .pointer (some ⟨g2, 0, none⟩)) (hg2 : w.heap[g2]? = some (.cells cs2 t2 fr2))
    (hu2 : P.underlying ty2 = some d2) (hd2 : (match d2 with | .struct _ | .array _ _ => true | _ => false) = true) (hi2 : (P.info? ty2).map (·.size) = some cs2.size) :
    (results fn tmps).run P w = .ok (.tuple #[.agg cs, .agg cs2]) w := by
  have hp' : tmps[p]?.getD undef = .pointer (some ⟨g, 0, none⟩) := by simpa using hp
  have hp2' : tmps[q]?.getD undef = .pointer (some ⟨g2, 0, none⟩) := by simpa using hp2
  simp [results, h, hp', hp2', asAddr, run_loadVar_row w g t ty cs fr d hg hu hd hi, run_loadVar_row w g2 t2 ty2 cs2 fr2 d2 hg2 hu2 hd2 hi2]
end Go.Proofs.YteckblffpidigaaGreatDoor
/- append to a row of one's own inside a region that draws its order: what was there stays. No condition. -/
namespace Go.Proofs.YteckblffpidigaaGreatDoor
open Go.RowKit
/-- The block of a row may turn. -/
def blkT (A : Option Addr) (e : TypeId) : Nat → Obj → Bool := fun k o => (match A with | some ad => k == ad.block | none => false) && (match o with | .cells _ t _ => t == e | _ => false)
theorem blkT_other {A : Option Addr} {e t : TypeId} (h : (t == e) = false) (k : Nat) (C : Array Value) (f : Nat × Nat) : blkT A e k (.cells C t f) = false := by
  simp only [blkT, h, Bool.and_false]
theorem blkT_far {A : Option Addr} {e : TypeId} {k : Nat} (h : ∀ ad, A = some ad → ad.block ≠ k) (o : Obj) : blkT A e k o = false := by
  cases A with
  | none => rfl
  | some ad =>
    have := h ad rfl
    simp only [blkT, Bool.and_eq_false_iff, beq_eq_false_iff_ne, ne_eq]
    exact .inl fun e => this e.symm
section
variable {P : Program} {w : World}
theorem own_eqA {w : World} {base : Nat} {e : TypeId} {size n c c' : Nat} {g : Nat} {xs ys : List Value} {m : Nat} (h : w.ownsRow base e size (.slice (some ⟨g, 0, none⟩) n c) n xs) (h' : w.ownsRow base e size (.slice (some ⟨g, 0, none⟩) m c') m ys) (hs : 0 < size) : c = c' := by
  rcases h.2 with ⟨e1, _⟩ | ⟨g1, cap1, cur1, e1, _, h1, _, _, h2, _⟩
  · cases e1
  rcases h'.2 with ⟨e2, _⟩ | ⟨g2, cap2, cur2, e2, _, k1, _, _, k2, _⟩
  · cases e2
  injection e1 with e1 _ e3
  injection e2 with e2 _ e4
  injection e1 with e1
  injection e2 with e2
  injection e1 with e1
  injection e2 with e2
  subst e1 e2 e3 e4
  rw [h1] at k1
  injection k1 with k1
  injection k1 with k1
  subst k1
  rw [h2] at k2
  exact Nat.eq_of_mul_eq_mul_right hs k2
theorem run_append_keep (base : Nat) (t ty e : TypeId) (i : TypeInfo) (z : Value) (size bytes : Nat) (ht : P.underlying t = some (.slice e)) (hi : P.info? e = some i) (hz : i.zero = some z)
    (hsize : i.size = size) (hby : i.bytes = bytes) (hzs : z.cells.size = size) (hsz : 0 < size) (A : Option Addr) (n c : Nat) (xs : List Value) (hown : w.ownsRow base e size (.slice A n c) n xs)
    (a : Addr) (m c2 : Nat) (news : List Value) (hl : news.length = m * size) (hnews : ∀ j u, news[j]? = some u → w.cell? (a.add j) = some u) (h1 : ∀ u ∈ news, u.oneCell' = true)
    (h63 : n + m ≤ maxLen) (hbytes : (n + m) * bytes ≤ 140737488355328) (hbase : base ≤ w.heap.size) :
    ∃ A' c' w', (Builtin.append_ #[t, t] ty #[.slice A n c, .slice (some a) m c2]).run P w = .ok (.slice A' (n + m) c') w' ∧ w'.ownsRow base e size (.slice A' (n + m) c') (n + m) (xs ++ news) ∧
      Tn (blkT A e) base w w' ∧ w'.ownsRow base e size (.slice A n c) n xs ∧ ∀ A2 d, w.ownsRow base e size (.slice A2 (n + m) d) (n + m) (xs ++ news) → w'.ownsRow base e size (.slice A2 (n + m) d) (n + m) (xs ++ news) := by
  obtain ⟨v', w', hr, h2, h3, _⟩ := run_append_own (P := P) w base t ty e i z size bytes ht hi hz hsize hby hzs hsz _ n xs hown a m c2 news hl hnews h1 h63 hbytes hbase
  have hv : ∃ A' c', v' = .slice A' (n + m) c' := by
    rcases h2.2 with ⟨e1, e2⟩ | ⟨g', cap', _, e1, _⟩
    · exact ⟨none, 0, by rw [e1, e2]⟩
    · exact ⟨_, _, e1⟩
  obtain ⟨A', c', rfl⟩ := hv
  have hown' := hown
  rcases hown.2 with ⟨e1, e2⟩ | ⟨g, cap, cur, e1, hbg, hg, hnc, hcm, hcs, htake⟩
  · injection e1 with e1 e3 e4
    subst e1
    have hG : Gr w w' := ⟨h3.os, h3.tape, h3.output, h3.size, fun k hk => h3.block k hk (by simp [Value.ownBlock])⟩
    exact ⟨A', c', w', hr, h2, Tn.of_gr hG, Gr.own hG hown', fun A2 d h => Gr.own hG h⟩
  · injection e1 with e1 e3 e4
    subst e1 e4
    have hglt : g < w.heap.size := (Array.getElem?_eq_some_iff.1 hg).1
    by_cases hroom : n + m ≤ c
    · subst hsize
      have hfit : n * i.size + news.length ≤ cur.size := by rw [hl, hcs, ← Nat.add_mul]; exact Nat.mul_le_mul_right _ hroom
      have hr2 := run_append_room (P := P) w t ty e i ht hi g n c cur hg a m c2 news hl hnews h1 hroom hfit
      rw [hr] at hr2
      injection hr2 with hv hw
      injection hv with hA _ hc
      subst hA hc
      have hT : Tn (blkT (some ⟨g, 0, none⟩) e) base w w' := by
        subst hw
        refine ⟨rfl, rfl, rfl, h3.size, fun k hk ho => ?_, fun k hk => ?_⟩
        · refine setRow_other w g k _ fun hkg => ?_
          subst hkg
          rcases ho with ho | ho
          · omega
          · rw [hg] at ho
            simp [Turns, blkT] at ho
        · by_cases hkg : k = g
          · subst hkg
            rw [setRow_heap w k cur _ e _ hg, hg]
            simp [Turns, blkT]
          · rw [setRow_other w g k _ hkg]
      refine ⟨_, _, w', hr, h2, hT, ?_, fun A2 d h => ?_⟩
      · refine ⟨hown'.1, ?_⟩
        rcases h2.2 with ⟨q, _⟩ | ⟨g', cap', cur', q1, q2, q3, q4, q5, q6, q7⟩
        · cases q
        · injection q1 with q1 _ q8
          injection q1 with q1
          injection q1 with q1
          subst q1 q8
          refine .inr ⟨g, _, cur', rfl, q2, q3, by omega, q5, q6, ?_⟩
          have hxl : xs.length = n * i.size := hown'.1
          have h9 := congrArg (List.take (n * i.size)) q7
          rw [List.take_take, Nat.min_eq_left (Nat.mul_le_mul_right _ (by omega))] at h9
          rw [h9, List.take_append_of_le_length (by omega), List.take_of_length_le (by omega)]
      · rcases h.2 with ⟨q, q0⟩ | ⟨g2, cap2, cur2, q1, q2, q3, q4⟩
        · exact ⟨h.1, .inl ⟨q, q0⟩⟩
        · injection q1 with q1 _ q8
          subst q1 q8
          by_cases hgg : g2 = g
          · subst hgg
            have := own_eqA h hown' hsz
            subst this
            exact h2
          · refine ⟨h.1, .inr ⟨g2, d, cur2, rfl, q2, ?_, q4⟩⟩
            rw [hT.block g2 (Array.getElem?_eq_some_iff.1 q3).1 (.inr (by
              rw [q3]
              simp [Turns, blkT, hgg]))]
            exact q3
    · have holds : ∀ j u, xs[j]? = some u → w.cell? ((⟨g, 0, none⟩ : Addr).add j) = some u := hown'.cells (g := g) rfl
      have hr2 := run_append_grow (P := P) w t ty e i z ht hi hz ⟨g, 0, none⟩ n c xs (by rw [hown'.1, hsize]) holds a m c2 news (by rw [hl, hsize]) hnews (by omega) (by have := h63; unfold maxLen at this; omega) (growslice_fits (by omega) (by rw [hby]; exact hbytes))
      have hr3 := hr
      rw [hr] at hr2
      injection hr2 with _ hw
      have hG : Gr w w' := by
        rw [hw]
        exact Gr.trans (Gr.drew w) (Gr.alloc _ _)
      exact ⟨A', c', w', hr3, h2, Tn.of_gr hG, Gr.own hG hown', fun A2 d h => Gr.own hG h⟩
end
end Go.Proofs.YteckblffpidigaaGreatDoor
/- A cell of a row of records. No condition. -/
namespace Go.Proofs.YteckblffpidigaaGreatDoor
open Go.RowKit
theorem flat_get {α : Type} {f : α → List Value} {k : Nat} (hk : ∀ x, (f x).length = k) : ∀ (L : List α) (i j : Nat), j < k → (L.flatMap f)[i * k + j]? = (L[i]?).bind fun x => (f x)[j]?
  | [], i, j, _ => by simp
  | x :: L, 0, j, hj => by
    rw [List.flatMap_cons, Nat.zero_mul, Nat.zero_add, List.getElem?_append_left (by rw [hk]; exact hj)]
    rfl
  | x :: L, i + 1, j, hj => by
    rw [List.flatMap_cons, List.getElem?_append_right (by rw [hk, Nat.add_mul]; omega), hk, show (i + 1) * k + j - k = i * k + j by rw [Nat.add_mul]; omega, flat_get hk L i j hj]
    rfl
end Go.Proofs.YteckblffpidigaaGreatDoor
/- Single operations, told: a byte of a string, a byte as a number, sums of numbers. No condition. -/
namespace Go.Proofs.YteckblffpidigaaGreatDoor
open Go.RowKit
section
variable {P : Program} {ev : Operand → Value} {d : Option Tmp} {t T U S e : TypeId} {p : String} {af : Array Edge} {gd : Option (Nat × Bool)} {w : World} {x y : Operand}
theorem run_idxS (hT : P.underlying T = some .string) {s : ByteArray} {k : Nat} {c : UInt8} (h1 : ev x = .string s) (h2 : ev y = .int .i64 k) (hk : k < s.size) (hc : s[k]'hk = c) :
    (execOp ev ⟨d, .index T x y, t, p, af, gd⟩).run P w = .ok (.value (.int .u8 c.toNat)) w := by
  simp only [execOp, h1, h2]
  go_simp
theorem run_u8int (hs : P.underlying S = some (.int .u8)) (hd : P.underlying T = some (.int .i64)) {c : UInt8} (h1 : ev x = .int .u8 c.toNat) :
    (execOp ev ⟨d, .convert S T x, t, p, af, gd⟩).run P w = .ok (.value (.int .i64 (c.toNat : Nat))) w := by
  have h : c.toNat < 256 := c.toNat_lt
  simp only [execOp, h1]
  go_simp
  exact IntWalk.i64_in _ (by omega)
theorem run_addN {a b : Nat} (h1 : ev x = .int .i64 a) (h2 : ev y = .int .i64 b) (hl : a + b ≤ 9223372036854775807) :
    (execOp ev ⟨d, .binOp .add T x y U, t, p, af, gd⟩).run P w = .ok (.value (.int .i64 ((a + b : Nat) : Int))) w := by
  simp only [execOp, h1, h2]
  go_simp
  exact IntWalk.i64_in _ (by omega)
theorem run_mulN {a b : Nat} (h1 : ev x = .int .i64 a) (h2 : ev y = .int .i64 b) (hl : a * b ≤ 9223372036854775807) :
    (execOp ev ⟨d, .binOp .mul T x y U, t, p, af, gd⟩).run P w = .ok (.value (.int .i64 ((a * b : Nat) : Int))) w := by
  simp only [execOp, h1, h2]
  go_simp
  rw [← Int.natCast_mul]
  exact IntWalk.i64_in _ (by omega)
theorem run_subN {a b : Nat} (h1 : ev x = .int .i64 a) (h2 : ev y = .int .i64 b) (hl : b ≤ a) (ha : a ≤ 9223372036854775807) :
    (execOp ev ⟨d, .binOp .sub T x y U, t, p, af, gd⟩).run P w = .ok (.value (.int .i64 ((a - b : Nat) : Int))) w := by
  simp only [execOp, h1, h2]
  go_simp
  rw [← Int.ofNat_sub hl]
  exact IntWalk.i64_in _ (by omega)
theorem run_negN {a : Nat} (h1 : ev x = .int .i64 a) (ha : a ≤ 9223372036854775807) :
    (execOp ev ⟨d, .unOp .neg T x, t, p, af, gd⟩).run P w = .ok (.value (.int .i64 (-(a : Int)))) w := by
  simp only [execOp, h1]
  go_simp
  exact IntWalk.i64_in _ (by omega)
theorem run_lssN {a b : Nat} (h1 : ev x = .int .i64 a) (h2 : ev y = .int .i64 b) :
    (execOp ev ⟨d, .binOp .lss T x y U, t, p, af, gd⟩).run P w = .ok (.value (.bool (decide (a < b)))) w := by
  simp only [execOp, h1, h2]
  go_simp
theorem run_not32 {a : UInt32} (h1 : ev x = .int .u32 a.toNat) :
    (execOp ev ⟨d, .unOp .xor T x, t, p, af, gd⟩).run P w = .ok (.value (.int .u32 ((~~~a).toNat : Int))) w := by
  simp only [execOp, h1]
  go_simp
  have e1 : (if IntKind.u32.signed = true then -1 else IntKind.u32.max) = ((0xFFFFFFFF : UInt32).toNat : Int) := rfl
  rw [e1, xor32]
  congr 1
  have h := a.toNat_lt
  have e2 : (0xFFFFFFFF : UInt32) ^^^ a = ~~~a := UInt32.toBitVec_inj.1 (BitVec.allOnes_xor (x := a.toBitVec))
  rw [e2, UInt32.toNat_not]
  rfl
theorem run_shr32 {a : UInt32} {k : Nat} (h1 : ev x = .int .u32 a.toNat) (h2 : ev y = .int .i64 k) (hk : k < 32) :
    (execOp ev ⟨d, .binOp .shr T x y U, t, p, af, gd⟩).run P w = .ok (.value (.int .u32 ((a >>> UInt32.ofNat k).toNat : Int))) w := by
  simp only [execOp, h1, h2]
  go_simp
  rw [Nat.mod_eq_of_lt hk, Int.shiftRight_eq_div_pow]
  simp
theorem run_idxSl (hT : P.underlying T = some (.slice e)) (hsz : (P.info? e).map (·.size) = some 1) {ad : Addr} {n c k : Nat} (h1 : ev x = .slice (some ad) n c) (h2 : ev y = .int .i64 k) (hk : k < n) :
    (execOp ev ⟨d, .indexAddr T x y, t, p, af, gd⟩).run P w = .ok (.value (.pointer (some (ad.add k)))) w := by
  simp only [execOp, h1, h2]
  go_simp
  simp [run_size1 hsz]
theorem run_loadSl (hT : P.underlying T = some (.slice e)) {ad : Addr} {v : Value} (h1 : ev x = .pointer (some ad)) (hc : w.cell? ad = some v) : (execOp ev ⟨d, .load T x, t, p, af, gd⟩).run P w = .ok (.value v) w := by
  have ha : (isAgg T).run P w = .ok false w := by simp [isAgg, run_underlying hT]
  simp only [execOp, h1]
  go_simp
theorem run_shr32w {a : UInt32} {k : Nat} (h1 : ev x = .int .u32 a.toNat) (h2 : ev y = .int .u64 k) (hk : k < 32) :
    (execOp ev ⟨d, .binOp .shr T x y U, t, p, af, gd⟩).run P w = .ok (.value (.int .u32 ((a >>> UInt32.ofNat k).toNat : Int))) w := by
  simp only [execOp, h1, h2]
  go_simp
  rw [Nat.mod_eq_of_lt hk, Int.shiftRight_eq_div_pow]
  simp
end
theorem Gr.cell {w w' : World} (h : Gr w w') {p : Addr} {v : Value} (hc : w.cell? p = some v) : w'.cell? p = some v := (Below.cell h (lt_of_cell hc)).trans hc
end Go.Proofs.YteckblffpidigaaGreatDoor
/- Parts of slices; one cell of a block of the call's own stored behind a drawn region. No condition. -/
namespace Go.Proofs.YteckblffpidigaaGreatDoor
open Go.RowKit
/-- Where a part begins. -/
def cutA (A : Option Addr) (c lo : Nat) : Option Addr := if c = lo then A else A.map (·.add lo)
theorem cutA_zero (A : Option Addr) (c : Nat) : cutA A c 0 = A := by
  unfold cutA
  split
  · rfl
  · cases A <;> simp [add_zero_]
section
variable {P : Program} {T e : TypeId} {A : Option Addr} {n c lo hi : Nat} {l h : Int}
theorem run_cut_lh (hT : P.underlying T = some (.slice e)) (hsz : (P.info? e).map (·.size) = some 1) (hl : l = lo) (hh : h = hi) (h1 : lo ≤ hi) (h2 : hi ≤ c) (w : World) :
    (Instr.sliceAt T (.slice A n c) (some (.int .i64 l)) (some (.int .i64 h)) none).run P w = .ok (.slice (cutA A c lo) (hi - lo) (c - lo)) w := by
  subst hl hh
  have e1 : P.elem T = e := by simp [Program.elem, hT]
  rw [run_sliceAt_slice w T _ _ _ _ (by rw [e1]; exact hT), run_slice_lh w T _ _ _ (by rw [e1]; exact hT) _ _ _ _ (by omega) (by omega) (by omega), e1]
  simp only [run_size1 hsz, Result.andThen_ok, sliced, Nat.mul_one, Int.toNat_natCast, cutA]
theorem run_cut_l (hT : P.underlying T = some (.slice e)) (hsz : (P.info? e).map (·.size) = some 1) (hl : l = lo) (h1 : lo ≤ n) (w : World) :
    (Instr.sliceAt T (.slice A n c) (some (.int .i64 l)) none none).run P w = .ok (.slice (cutA A c lo) (n - lo) (c - lo)) w := by
  subst hl
  have e1 : P.elem T = e := by simp [Program.elem, hT]
  rw [run_sliceAt_slice w T _ _ _ _ (by rw [e1]; exact hT), run_slice_l w T _ _ _ (by rw [e1]; exact hT) _ _ (by omega) (by omega), e1]
  simp only [run_size1 hsz, Result.andThen_ok, sliced, Nat.mul_one, Int.toNat_natCast, cutA]
theorem run_cut_h (hT : P.underlying T = some (.slice e)) (hsz : (P.info? e).map (·.size) = some 1) (hh : h = hi) (h2 : hi ≤ c) (w : World) :
    (Instr.sliceAt T (.slice A n c) none (some (.int .i64 h)) none).run P w = .ok (.slice A hi c) w := by
  subst hh
  have e1 : P.elem T = e := by simp [Program.elem, hT]
  have e2 : A.map (·.add 0) = A := by cases A <;> simp [add_zero_]
  rw [run_sliceAt_slice w T _ _ _ _ (by rw [e1]; exact hT), run_slice_h w T _ _ _ (by rw [e1]; exact hT) _ _ (by omega) (by omega), e1]
  simp only [run_size1 hsz, Result.andThen_ok, sliced, Nat.zero_mul, e2, ite_self, Nat.sub_zero, Int.toNat_natCast]
end
section
variable {P : Program} {T e : TypeId} {n : Nat}
theorem run_acut_l (hT : P.underlying T = some (.array n e)) (hsz : (P.info? e).map (·.size) = some 1) (g lo : Nat) (h2 : lo < n) (h : Int) (hh : h = lo) (w : World) :
    (Instr.sliceAt T (.pointer (some ⟨g, 0, none⟩)) (some (.int .i64 h)) none none).run P w = .ok (.slice (some ⟨g, lo, none⟩) (n - lo) (n - lo)) w := by
  subst hh
  obtain ⟨e1, e2⟩ := arrayLen_of hT
  rw [run_sliceAt_array_l w T _ (by rw [e1, e2]; exact hT) _ _ (by omega) (by rw [e1]; omega), e1, e2]
  simp only [run_size1 hsz, Result.andThen_ok, slicedAt, Int.toNat_natCast, Nat.mul_one]
  rw [if_neg (by omega), add_row, Nat.zero_add]
theorem run_acut_h (hT : P.underlying T = some (.array n e)) (hsz : (P.info? e).map (·.size) = some 1) (g hi : Nat) (h2 : hi ≤ n) (h : Int) (hh : h = hi) (w : World) :
    (Instr.sliceAt T (.pointer (some ⟨g, 0, none⟩)) none (some (.int .i64 h)) none).run P w = .ok (.slice (some ⟨g, 0, none⟩) hi n) w := by
  subst hh
  obtain ⟨e1, e2⟩ := arrayLen_of hT
  rw [run_sliceAt_array_h w T _ (by rw [e1, e2]; exact hT) _ _ (by omega) (by rw [e1]; omega), e1, e2]
  simp only [run_size1 hsz, Result.andThen_ok, slicedAt, Nat.sub_zero, Nat.zero_mul, Int.toNat_natCast, add_zero_, ite_self]
end
theorem Rd.cutLH {w : World} {A : Option Addr} {n c lo hi : Nat} {xs : List Value} (h : Rd w A n xs) (h1 : lo ≤ hi) (h2 : hi ≤ n) (h3 : n ≤ c) : Rd w (cutA A c lo) (hi - lo) ((xs.drop lo).take (hi - lo)) :=
  (h.cut (k := lo) (by omega) h3).take (by omega)
theorem Rd.cutL {w : World} {A : Option Addr} {n c lo : Nat} {xs : List Value} (h : Rd w A n xs) (h2 : lo ≤ n) (h3 : n ≤ c) : Rd w (cutA A c lo) (n - lo) (xs.drop lo) := h.cut (k := lo) (by omega) h3
section
variable {P : Program} {B g : Nat} {w0 w w' : World} {L : List (Nat × TypeId × List Value)} {t : TypeId} {cs : List Value}
theorem wpList_setM {ops : Array Oper} {rest : List Oper} {op : Oper} {a : Act} {Q : Exit → Act → World → Prop} (h : Mem B w0 w L) (k : Nat) (hk : L[k]? = some (g, t, cs)) (hgd : op.guard = none) (ty : TypeId) (x y : Operand) (ho : op.op = .store ty x y)
    (hT : (P.info? ty).map (·.size) = some 1) (i : Nat) (kd : IntKind) (z : Int) (hx : a.eval x = .pointer (some ⟨g, i, none⟩)) (hy : a.eval y = .int kd z) (hi : i < cs.length)
    (hK : ∀ w2, Mem B w0 w2 (L.set k (g, t, cs.set i (.int kd z))) → Below g w w2 → wpList P ops Q rest (a.put op.dst undef) w2) : wpList P ops Q (op :: rest) a w := by
  refine wpList_plain hgd fun K hKK => ?_
  unfold Oper.wp
  obtain ⟨dst, o, tt, ps, af, gd⟩ := op
  simp only at ho
  subst ho
  rw [run_store1 hT hx hy (by rw [(h.at_ k hk).cell (List.getElem?_eq_getElem hi)]; rfl) ((h.at_ k hk).frozen i)]
  exact hKK _ _ (hK _ (h.set k hk i _) (below_setCell (Nat.le_refl _)))
end
end Go.Proofs.YteckblffpidigaaGreatDoor
/- Slices of slices of bytes; slices.Grow and slices.Concat of them. No condition. -/
namespace Go.Proofs.YteckblffpidigaaGreatDoor
open Go.RowKit Go.Lib
/-- One slice of bytes, as it lies. -/
structure Part where
  A : Option Addr
  n : Nat
  c : Nat
  l : List UInt8
def Part.val (p : Part) : Value := .slice p.A p.n p.c
/-- The address A begins n places with these slices, each of which reads its bytes. -/
structure Parts (w : World) (A : Option Addr) (n : Nat) (ps : List Part) : Prop where
  row : Rd w A n (ps.map Part.val)
  each : ∀ p ∈ ps, Rd w p.A p.n (u8s p.l) ∧ p.n ≤ p.c
def allP (ps : List Part) : List UInt8 := ps.flatMap (·.l)
section
variable {w w' : World} {A : Option Addr} {n : Nat} {ps : List Part}
theorem Parts.len (h : Parts w A n ps) : ps.length = n := by simpa using h.row.1
theorem Parts.gr (h : Parts w A n ps) (g : Gr w w') : Parts w' A n ps := ⟨g.rd h.row, fun p hp => ⟨g.rd (h.each p hp).1, (h.each p hp).2⟩⟩
theorem Parts.at_ (h : Parts w A n ps) {k : Nat} (hk : k < n) : ∃ ad p, A = some ad ∧ ps[k]? = some p ∧ w.cell? (ad.add k) = some p.val ∧ Rd w p.A p.n (u8s p.l) ∧ p.n ≤ p.c ∧ p.l.length = p.n := by
  have hl : k < ps.length := by rw [h.len]; exact hk
  obtain ⟨ad, e, hc⟩ := h.row.2 k (ps[k]).val (by simp [List.getElem?_eq_getElem hl])
  have hm : ps[k] ∈ ps := List.getElem_mem _
  refine ⟨ad, ps[k], e, List.getElem?_eq_getElem hl, hc, (h.each _ hm).1, (h.each _ hm).2, ?_⟩
  simpa using (h.each _ hm).1.1
end
theorem allP_take {ps : List Part} {k : Nat} {p : Part} (h : ps[k]? = some p) : allP (ps.take (k + 1)) = allP (ps.take k) ++ p.l := by
  rw [take_snoc_ ps k p h, allP, List.flatMap_append]
  simp [allP]
theorem allP_le {ps : List Part} (k : Nat) : (allP (ps.take k)).length ≤ (allP ps).length := by
  have e : allP ps = allP (ps.take k) ++ allP (ps.drop k) := by
    rw [allP, allP, allP, ← List.flatMap_append, List.take_append_drop]
  rw [e, List.length_append]
  omega
theorem zeroCells_size (z : Value) (hz : z.cells.size = 1) (n : Nat) : (Builtin.zeroCells z.cells n).size = n := by simp [Builtin.zeroCells, hz]
set_option maxRecDepth 100000 in
set_option maxHeartbeats 2000000 in
theorem growNil_any (n : Nat) (hn : n ≤ 1000000000) (w : World) :
    Calls Tryz.prog 69 #[.slice none 0 0, .int .i64 n] w fun e w' => ∃ v, e = .returned v ∧ w'.ownsRow w.heap.size 5 1 v 0 [] ∧ Below w.heap.size w w' := by
  obtain ⟨i0, hi0, hz0, hz1, hz2⟩ := info_parts Tryz.info5
  have h1 : ¬ ((n : Int) < 0) := by omega
  rcases Nat.eq_zero_or_pos n with h0 | h0
  · subst h0
    simp only [show ((0 : Nat) : Int) = 0 from rfl]
    go_enter Tryz.func69, Tryz.ntmps69
    go_wp2_with fail
    go_ret
    exact ⟨_, rfl, World.ownsRow_nil _ _ _ _, Below.refl _ _⟩
  · have hrz := fun ty => Lib.run_append_grow_zeros (P := Tryz.prog) w 31 3 ty 5 i0 (.int .u8 0) .i64 .i64 Tryz.underlying31 Tryz.underlying3 hi0 hz0 none 0 0 [] (by rw [hz1]; exact run_firstCells_none w.drew 1 0 0 0) n (by omega) (by omega) (by omega) (by omega) (by rw [hz2]; omega) (growslice_fits (by omega) (by rw [hz2]; omega))
    simp only [Nat.zero_add] at hrz
    have hg := grownCap_ge w n 0 5
    have hm := grownCap_le_maxLen w n 0 5 (by unfold maxLen; omega)
    have hg2 : grownCap w n 0 5 ≤ 9223372036854775807 := by unfold maxLen at hm; exact hm
    generalize grownCap w n 0 5 = G at hrz hg hm hg2
    have h4 : (0 : Int) < (n : Int) := by omega
    go_enter Tryz.func69, Tryz.ntmps69
    go_wp2_with (at_builtin; refine Lib.wpList_append_run _ rfl _ _ _ _ rfl _ _ rfl rfl _ _ (hrz _) ?_)
    go_ret
    refine ⟨_, rfl, ⟨rfl, .inr ⟨w.heap.size, G, _, rfl, Nat.le_refl _, heap_alloc_new _ _, by omega, hm, ?_, rfl⟩⟩, ?_⟩
    · have e : ∀ k, (Builtin.zeroCells #[Value.int .u8 0] k).size = k := fun k => zeroCells_size (.int .u8 0) rfl k
      simp only [Nat.mul_one, Array.size_append, e]
      omega
    · exact ((Below.refl _ _).drew).alloc (Nat.le_refl _) _
set_option maxRecDepth 100000 in
set_option maxHeartbeats 2000000 in
theorem concat_any (A : Option Addr) (n c : Nat) (ps : List Part) (hn : n ≤ 1000000) (hl : (allP ps).length ≤ 1000000) (w : World) (h : Parts w A n ps) :
    Calls Tryz.prog 44 #[.slice A n c] w fun e w' => ∃ v, e = .returned v ∧ w'.ownsRow w.heap.size 5 1 v (allP ps).length (u8s (allP ps)) ∧ Below w.heap.size w w' := by
  obtain ⟨i0, hi0, hz0, hz1, hz2⟩ := info_parts Tryz.info5
  obtain ⟨T, hT⟩ : ∃ T : Nat → List UInt8, T = fun k => allP (ps.take k) := ⟨_, rfl⟩
  have hTl : ∀ k, (T k).length ≤ 1000000 := by intro k; rw [hT]; exact Nat.le_trans (allP_le k) hl
  have hTs : ∀ k p, ps[k]? = some p → T (k + 1) = T k ++ p.l := by intro k p hp; rw [hT]; exact allP_take hp
  have hTe : ∀ k, k = n → allP ps = T k := by intro k hk; rw [hT, hk, ← h.len]; simp
  have hT0 : T 0 = [] := by rw [hT]; simp [allP]
  have HTL := Lib.hid hTl
  have HTS := Lib.hid hTs
  have HTE := Lib.hid hTe
  have HT0 := Lib.hid hT0
  clear hT hTl hTs hTe hT0 hl
  go_enter Tryz.func44, Tryz.ntmps44
  go_wp2_with fail
  go_loop [3, 11] (fun s i => ∃ k z : Nat, k ≤ n ∧ i = .int .i64 k ∧ s = .int .i64 z ∧ Hid (z = (T k).length)) (fun _ i => n - (intOf i).toNat)
  case atStart => exact ⟨0, 0, by omega, rfl, rfl, by show _ = _; rw [HT0.out]; rfl⟩
  case round =>
    obtain ⟨k, z, hk, rfl, rfl, hz⟩ := hrel
    by_cases hlt : k < n
    · obtain ⟨ad, p, rfl, hp, hc, hr, hpc, hpl⟩ := h.at_ hlt
      have hc' : w.cell? (ad.add k) = some (.slice p.A p.n p.c) := hc
      have hz2 : z + p.n = (T (k + 1)).length := by rw [HTS.out k p hp, List.length_append, hz.out, hpl]
      have hz3 : z + p.n ≤ 1000000 := by rw [hz2]; exact HTL.out _
      have HZ2 := Lib.hid hz2
      clear hz2 hc hp hpl
      go_wp2_with fail
      go_round
      case rel => exact ⟨k + 1, z + p.n, by omega, by go_num, by go_num, HZ2⟩
      case measure => simp [intOf]; omega
    · obtain rfl : n = k := by omega
      have hzl : z ≤ 1000000 := by rw [hz.out]; exact HTL.out _
      go_wp2_with (go_at_call 69; refine (growNil_any z (by omega) _).mono ?_; rintro e w1 ⟨v1, rfl, ho1, hB1⟩)
      have h1 := h.gr hB1
      clear hlt hk hz hzl
      go_loopw [6, 27] (fun v i wr => ∃ k : Nat, k ≤ n ∧ i = .int .i64 k ∧ wr.ownsRow w.heap.size 5 1 v (T k).length (u8s (T k)) ∧ Below w.heap.size w wr) (fun _ i _ => n - (intOf i).toNat)
      case atStart => exact ⟨0, by omega, rfl, by rw [HT0.out]; exact ho1, hB1⟩
      case round =>
        clear h1 ho1 hB1
        obtain ⟨k, hk, rfl, hown, hB⟩ := hrel
        have hbs := hB.size
        by_cases hlt : k < n
        · obtain ⟨ad, p, rfl, hp, hc, hr, hpc, hpl⟩ := (h.gr hB).at_ hlt
          have hc' : wr.cell? (ad.add k) = some (.slice p.A p.n p.c) := hc
          have hTT := HTS.out k p hp
          have hl1 : (T k).length + p.n = (T (k + 1)).length := by rw [hTT, List.length_append, hpl]
          have hl2 := HTL.out (k + 1)
          have HTT := Lib.hid hTT
          obtain ⟨m, hm⟩ : ∃ m, m = (T k).length := ⟨_, rfl⟩
          rw [← hm] at hown hl1
          have hl3 : m + p.n ≤ 1000000 := by omega
          have HL1 := Lib.hid hl1
          clear hl1 hl2 hc hp hpl hTT hm
          go_wp2_with (at_builtin; go_must (refine wpList_app _ rfl (.tmp 31) (.tmp 32) 31 rfl w.heap.size 5 i0 (.int .u8 0) 1 Tryz.underlying31 hi0 hz0 hz1 hz2 rfl u6 m _ rfl hown p.A p.n p.c _ rfl hr (u8s_oneCell _) (by omega) (by unfold maxLen; omega) (by omega) ?_; rintro v2 w2 hA2))
          have ho2 := hA2.own
          have hB2 := hB.trans (hA2.below hown hbs)
          rw [← u8s_append, ← HTT.out, HL1.out] at ho2
          clear hA2 hown hB hr
          go_simp
          go_wp2_with fail
          go_roundw
          case rel => exact ⟨k + 1, by omega, by go_num, ho2⟩
          case measure => simp [intOf]; omega
        · obtain rfl : n = k := by omega
          rw [← HTE.out n rfl] at hown
          go_wp2_with fail
          go_ret
          exact ⟨_, rfl, hown, hB⟩
end Go.Proofs.YteckblffpidigaaGreatDoor
/- Drawn regions: operations that a guard leaves out, and operations whose outcome stays open. No condition. -/
namespace Go.Proofs.YteckblffpidigaaGreatDoor
open Go.RowKit
section
variable {P : Program} {ops : Array Oper} {Q : Exit → Act → World → Prop} {L : List (Value → World → Prop)} {i : Nat} {o : Oper} {a a0 : Act} {w : World}
theorem notG (hF : Finds ops (fun i => L.getD i AnyV) a0 i o a w) (g d : Nat) (b : Bool) (v : Value) (hg : o.guard = some (g, b)) (hb : depB ops o g d = true) (hφ : L.getD g AnyV = IsV v) (hne : v ≠ .bool b) : ¬ Wanted ops o a := by
  unfold depB at hb
  simp only [Bool.and_eq_true] at hb
  obtain ⟨⟨h1, h2⟩, h3⟩ := hb
  have h1 : (ops[g]?).bind (fun o : Oper => o.dst) = some d := by simpa using h1
  cases hk' : ops[g]? with
  | none => rw [hk'] at h1; cases h1
  | some ok =>
    rw [hk'] at h1
    obtain ⟨u, hv, hf⟩ := hF.dep g ok d hk' h1 (by simpa using h2) h3
    simp only [hφ] at hf
    have hf : u = v := hf
    subst hf
    have h1' : ok.dst = some d := h1
    intro hw
    simp only [Wanted, Region.wanted, hg, yielded, hk', h1', Option.bind_some, hv] at hw
    cases u <;> simp_all
theorem notN (hF : Finds ops (fun i => L.getD i AnyV) a0 i o a w) (g d : Nat) (b : Bool) (hg : o.guard = some (g, b)) (hb : depB ops o g d = true) (hφ : L.getD g AnyV = IsV (.bool (!b))) : ¬ Wanted ops o a :=
  notG hF g d b _ hg hb hφ (by cases b <;> simp)
theorem notU (hF : Finds ops (fun i => L.getD i AnyV) a0 i o a w) (g d : Nat) (b : Bool) (hg : o.guard = some (g, b)) (hb : depB ops o g d = true) (hφ : L.getD g AnyV = IsV undef) : ¬ Wanted ops o a :=
  notG hF g d b _ hg hb hφ (by simp [undef])
theorem s_not (hi : ops[i]? = some o) (hw : ¬ Wanted ops o a) (hφ : L.getD i AnyV = IsV undef) : Step P ops Q L i o a w := by
  unfold Step wpOp
  unfold Wanted at hw
  simp only [hi, hw]
  exact ⟨undef, rfl, by rw [hφ]; rfl, Gr.refl _⟩
end
section
variable {P : Program} {ev : Operand → Value} {d : Option Tmp} {t T U S e : TypeId} {p : String} {af : Array Edge} {gd : Option (Nat × Bool)} {w : World} {x y : Operand}
theorem run_loadArr {g : Nat} {cs : List Value} (hT : ∃ n e, P.underlying T = some (.array n e)) (hi : (P.info? T).map (·.size) = some cs.length) (h1 : ev x = .pointer (some ⟨g, 0, none⟩)) (h : Arr w g t cs) :
    (execOp ev ⟨d, .load T x, t, p, af, gd⟩).run P w = .ok (.value (.agg cs.toArray)) w := by
  obtain ⟨n, e, hT⟩ := hT
  have h2 := h.loadAt hT hi
  simp only [execOp, h1, Sem.run_bind, h2, Result.andThen_ok, Sem.run_pure]
theorem run_loadMid {g off : Nat} {cs : List Value} (hT : ∃ n e, P.underlying T = some (.array n e)) (hi : (P.info? T).map (·.size) = some cs.length) (h1 : ev x = .pointer (some ⟨g, off, none⟩)) (h : w.rangeAt g off cs) :
    (execOp ev ⟨d, .load T x, t, p, af, gd⟩).run P w = .ok (.value (.agg cs.toArray)) w := by
  obtain ⟨n, e, hT⟩ := hT
  have h2 := run_loadAt_mid (P := P) w g off T cs _ h hT rfl hi
  simp only [execOp, h1, Sem.run_bind, h2, Result.andThen_ok, Sem.run_pure]
theorem run_load1B {ad : Addr} {v : Value} (hT : P.underlying T = some .bool ∨ (∃ k e, P.underlying T = some (.map k e)) ∨ P.underlying T = some .string ∨ (∃ e, P.underlying T = some (.slice e)) ∨ ∃ e, P.underlying T = some (.pointer e)) (h1 : ev x = .pointer (some ad)) (hc : w.cell? ad = some v) :
    (execOp ev ⟨d, .load T x, t, p, af, gd⟩).run P w = .ok (.value v) w := by
  have ha : (isAgg T).run P w = .ok false w := by
    rcases hT with hT | ⟨k, e, hT⟩ | hT | ⟨e, hT⟩ | ⟨e, hT⟩ <;> simp [isAgg, run_underlying hT]
  simp only [execOp, h1]
  go_simp
theorem run_eqBy {n : Nat} (hm : P.eqGuardType P.depth T = false) (ht : P.underlying T = some (.array n e)) (he : P.underlying e = some (.int .u8)) (hsz : ∀ w, (sizeOf e).run P w = .ok 1 w) {D E : List UInt8} (hD : D.length = n) (hE : E.length = n) (h1 : ev x = .agg (u8s D).toArray) (h2 : ev y = .agg (u8s E).toArray) :
    (execOp ev ⟨d, .binOp .eql T x y U, t, p, af, gd⟩).run P w = .ok (.value (.bool (D == E))) w := by
  have h3 : (Op.equalIn 10000 T (.agg (u8s D).toArray) (.agg (u8s E).toArray)).run P w = .ok (D == E) w := run_equalIn_bytes (P := P) w 9998 T e n ht he hsz D E hD hE
  simp only [execOp, h1, h2]
  have hg : (eqGuard .eql T x y (.agg (u8s D).toArray) (.agg (u8s E).toArray)).run P w = .ok () w := run_eqGuard_agg (P := P) w _ T x y _ _ hm
  have h4 := run_eql_struct (P := P) w T (u8s D).toArray (u8s E).toArray
  rw [h3] at h4
  go_simp
theorem run_neBy {n : Nat} (hm : P.eqGuardType P.depth T = false) (ht : P.underlying T = some (.array n e)) (he : P.underlying e = some (.int .u8)) (hsz : ∀ w, (sizeOf e).run P w = .ok 1 w) {D E : List UInt8} (hD : D.length = n) (hE : E.length = n) (h1 : ev x = .agg (u8s D).toArray) (h2 : ev y = .agg (u8s E).toArray) :
    (execOp ev ⟨d, .binOp .neq T x y U, t, p, af, gd⟩).run P w = .ok (.value (.bool (!(D == E)))) w := by
  have h3 : (Op.equalIn 10000 T (.agg (u8s D).toArray) (.agg (u8s E).toArray)).run P w = .ok (D == E) w := run_equalIn_bytes (P := P) w 9998 T e n ht he hsz D E hD hE
  simp only [execOp, h1, h2]
  have hg : (eqGuard .neq T x y (.agg (u8s D).toArray) (.agg (u8s E).toArray)).run P w = .ok () w := run_eqGuard_agg (P := P) w _ T x y _ _ hm
  have h4 := run_neq_struct (P := P) w T (u8s D).toArray (u8s E).toArray
  rw [h3] at h4
  go_simp
theorem run_eqT {b c : Bool} (hT : P.underlying T = some .bool) (h1 : ev x = .bool b) (h2 : ev y = .bool c) : (execOp ev ⟨d, .binOp .eql T x y U, t, p, af, gd⟩).run P w = .ok (.value (.bool (b == c))) w := by
  simp only [execOp, h1, h2]
  have h4 := run_eql_bool (P := P) w T b c hT
  go_simp
theorem run_neT {b c : Bool} (hT : P.underlying T = some .bool) (h1 : ev x = .bool b) (h2 : ev y = .bool c) : (execOp ev ⟨d, .binOp .neq T x y U, t, p, af, gd⟩).run P w = .ok (.value (.bool (!(b == c)))) w := by
  simp only [execOp, h1, h2]
  have h4 := run_neq_bool (P := P) w T b c hT
  go_simp
theorem run_eqI {k : IntKind} {b c : Int} (h1 : ev x = .int k b) (h2 : ev y = .int k c) : (execOp ev ⟨d, .binOp .eql T x y U, t, p, af, gd⟩).run P w = .ok (.value (.bool (b == c))) w := by
  simp only [execOp, h1, h2]
  go_simp
theorem run_neIk {k : IntKind} {b c : Int} (h1 : ev x = .int k b) (h2 : ev y = .int k c) : (execOp ev ⟨d, .binOp .neq T x y U, t, p, af, gd⟩).run P w = .ok (.value (.bool (!(b == c)))) w := by
  simp only [execOp, h1, h2]
  go_simp
  simp only [bne]
theorem run_notT {b : Bool} (h1 : ev x = .bool b) : (execOp ev ⟨d, .unOp .not T x, t, p, af, gd⟩).run P w = .ok (.value (.bool (!b))) w := by
  simp only [execOp, h1]
  go_simp
end
section
variable {P : Program} {ops : Array Oper} {Q : Exit → Act → World → Prop} {rest : List Oper} {o : Oper} {a : Act} {w : World}
/-- A value, behind a guard that holds. -/
theorem wpList_valW (hw : Region.wanted o (yielded ops a.tmps) = true) (v : Value) (w' : World) (hrun : (execOp a.eval o).run P w = .ok (.value v) w') (h : wpList P ops Q rest (a.put o.dst v) w') : wpList P ops Q (o :: rest) a w := by
  refine wpList_step fun K hK => ?_
  rw [if_pos hw]
  unfold Oper.wp
  rw [hrun]
  exact hK _ _ h
/-- A whole array is loaded, behind a guard that holds. -/
theorem wpList_loadW (hw : Region.wanted o (yielded ops a.tmps) = true) (ty : TypeId) (x : Operand) (ho : o.op = .load ty x) {g : Nat} {t : TypeId} {cs : List Value} (hx : a.eval x = .pointer (some ⟨g, 0, none⟩)) (hA : Arr w g t cs)
    (hT : ∃ n e, P.underlying ty = some (.array n e)) (hi : (P.info? ty).map (·.size) = some cs.length) (h : wpList P ops Q rest (a.put o.dst (.agg cs.toArray)) w) : wpList P ops Q (o :: rest) a w := by
  refine wpList_valW hw _ w ?_ h
  obtain ⟨n, e, hT⟩ := hT
  simp only [execOp, ho, hx, Sem.run_bind, hA.loadAt hT hi, Result.andThen_ok, Sem.run_pure]
end
theorem s_pickF {P : Program} {ops : Array Oper} {Q : Exit → Act → World → Prop} {L : List (Value → World → Prop)} {i : Nat} {o : Oper} {a : Act} {w : World} (hi : ops[i]? = some o) (hw : Wanted ops o a) (c x y : Operand) (ho : o.op = .pick c x y) (hc : a.eval c = .bool false) (v : Value) (e : a.eval y = v) (hφ : L.getD i AnyV = IsV v) : Step P ops Q L i o a w := by
  refine s_is hi hw v hφ ?_
  simp [execOp, ho, hc, e, asBool]
end Go.Proofs.YteckblffpidigaaGreatDoor
/- What a remainder of a converted number is; a slice that is owned whole. No condition. -/
namespace Go.Proofs.YteckblffpidigaaGreatDoor
open Go.RowKit
theorem wrap_remN (z : Int) (m : Nat) (hm : 0 < m) (hm2 : m < 1000000) : ∃ i : Nat, i < m ∧ wrap64 ((IntKind.u64.wrap z).tmod m) = i := by
  have h0 : 0 ≤ z % 18446744073709551616 := Int.emod_nonneg _ (by omega)
  have h1 := Int.emod_lt_of_pos (z % 18446744073709551616) (b := m) (by omega)
  have h2 := Int.emod_nonneg (z % 18446744073709551616) (b := m) (by omega)
  refine ⟨((z % 18446744073709551616) % m).toNat, by omega, ?_⟩
  rw [IntKind.wrap_u64, Int.tmod_eq_emod_of_nonneg h0, Int.toNat_of_nonneg h2]
  exact IntWalk.wrap64_in _ (by omega)
theorem Arr.of_ownN {w : World} {base : Nat} {e : TypeId} {g n : Nat} {xs : List Value} (h : w.ownsRow base e 1 (.slice (some ⟨g, 0, none⟩) n n) n xs) : Arr w g e xs := by
  obtain ⟨_, h2⟩ := h
  rcases h2 with ⟨h2, _⟩ | ⟨g', cap, cur, h2, _, h3, _, _, h4, h5⟩
  · cases h2
  · injection h2 with h6 h7 h8
    injection h6 with h6
    injection h6 with h6
    subst h6 h8
    rw [Nat.mul_one] at h4 h5
    rw [List.take_of_length_le (by simp [h4])] at h5
    unfold Arr
    rw [← h5]
    exact h3
/-- A byte that is reckoned. -/
theorem byte_of (z : Int) : ∃ y : UInt8, z % 256 = (y.toNat : Int) := ⟨UInt8.ofNat (z % 256).toNat, by rw [UInt8.toNat_ofNat']; omega⟩
theorem alloc32_run (o : Oper) (ev : Operand → Value) (w : World) (h : o.op = .alloc 51) : (execOp ev o).run Tryz.prog w = .ok (.value (.pointer (some ⟨w.heap.size, 0, none⟩))) (w.alloc (.cells (u8s (List.replicate 32 0)).toArray 51)) := by
  unfold execOp
  simp only [h]
  go_simp
  kernel_rfl
end Go.Proofs.YteckblffpidigaaGreatDoor
/- Slices of slices just made; arrays of thirty-two bytes compared. No condition. -/
namespace Go.Proofs.YteckblffpidigaaGreatDoor
open Go.RowKit
theorem rd_made {w : World} {g : Nat} (hg : g = w.heap.size) (C : Array Value) (e : TypeId) (fr : Nat × Nat) (n : Nat) (l : List Value) (hC : C.toList = l) (hn : l.length = n) : Rd (w.alloc (.cells C e fr)) (some ⟨g, 0, none⟩) n l := by
  subst hg
  have hs : C.size = n := by rw [← Array.length_toList, hC, hn]
  have hg : (w.alloc (.cells C e fr)).heap[w.heap.size]? = some (.cells C e fr) := by
    show (w.heap.push (.cells C e fr))[w.heap.size]? = _
    simp
  have := Rd.of_row hg 0 n (by omega)
  rwa [hC, List.drop_zero, List.take_of_length_le (by simp [hn])] at this
/-- A slice of one slice. -/
theorem parts1 {w : World} {g : Nat} (hg : g = w.heap.size) (e : TypeId) (p : Part) (h : Rd w p.A p.n (u8s p.l)) (hc : p.n ≤ p.c) : Parts (w.alloc (.cells #[p.val] e)) (some ⟨g, 0, none⟩) 1 [p] :=
  ⟨rd_made hg _ _ _ 1 _ rfl rfl, fun q hq => by simp only [List.mem_singleton] at hq; subst hq; exact ⟨(Gr.alloc _ _).rd h, hc⟩⟩
/-- A slice of slices that lay there. -/
theorem partsN {w : World} {g : Nat} (hg : g = w.heap.size) (e : TypeId) (C : Array Value) (ps : List Part) (n : Nat) (hC : C.toList = ps.map Part.val) (hn : ps.length = n) (h : ∀ p ∈ ps, Rd w p.A p.n (u8s p.l) ∧ p.n ≤ p.c) : Parts (w.alloc (.cells C e)) (some ⟨g, 0, none⟩) n ps :=
  ⟨rd_made hg _ _ _ n _ hC (by simp [hn]), fun q hq => ⟨(Gr.alloc _ _).rd (h q hq).1, (h q hq).2⟩⟩
theorem Arr.rdAllS {w : World} {g : Nat} {t : TypeId} {l : List UInt8} (h : Arr w g t (u8s l)) {n : Nat} (hn : l.length = n) : Rd w (some ⟨g, 0, none⟩) n (u8s l) := by
  subst hn
  have := h.rd 0 l.length (by simp)
  rwa [List.drop_zero, List.take_of_length_le (by simp)] at this
theorem allP_bound {ps : List Part} {s : Nat} (h : ∀ p ∈ ps, p.l.length ≤ s) : (allP ps).length ≤ ps.length * s := by
  induction ps with
  | nil => simp [allP]
  | cons p ps ih =>
    have h1 := h p (by simp)
    have h2 := ih (fun q hq => h q (by simp [hq]))
    have e : allP (p :: ps) = p.l ++ allP ps := by simp [allP]
    rw [e, List.length_append, List.length_cons, Nat.succ_mul]
    omega
/-- A slice of slices that read together as this text. -/
def PartsV (n c : Nat) (l : List UInt8) (v : Value) (w : World) : Prop := ∃ A ps, v = .slice A n c ∧ Parts w A n ps ∧ allP ps = l
theorem PartsV.gr {n c : Nat} {l : List UInt8} {v : Value} {w w' : World} (h : PartsV n c l v w) (g : Gr w w') : PartsV n c l v w' := by
  obtain ⟨A, ps, h1, h2, h3⟩ := h
  exact ⟨A, ps, h1, h2.gr g, h3⟩
theorem run_eqA32 {ev : Operand → Value} {d : Option Tmp} {t : TypeId} {p : String} {af : Array Edge} {gd : Option (Nat × Bool)} {w : World} {x y : Operand} {T : TypeId} {D : List UInt8} (hD : D.length = 32) (h1 : ev x = .agg (u8s D).toArray) (h2 : ev y = .agg (u8s D).toArray) :
    (execOp ev ⟨d, .binOp .eql 51 x y T, t, p, af, gd⟩).run Tryz.prog w = .ok (.value (.bool true)) w := by
  have h3 : (Op.equalIn 10000 51 (.agg (u8s D).toArray) (.agg (u8s D).toArray)).run Tryz.prog w = .ok (D == D) w := run_equalIn_bytes (P := Tryz.prog) w 9998 51 5 32 Tryz.underlying51 Tryz.underlying5 (fun w => by kernel_rfl) D D hD hD
  rw [beq_self_eq_true] at h3
  simp only [execOp, h1, h2]
  go_simp
theorem run_build3S {ev : Operand → Value} {d : Option Tmp} {t : TypeId} {p : String} {af : Array Edge} {gd : Option (Nat × Bool)} {w : World} {x y z : Operand} {A B C : Option Addr} {n c n2 c2 n3 c3 : Nat} (h1 : ev x = .slice A n c) (h2 : ev y = .slice B n2 c2) (h3 : ev z = .slice C n3 c3) :
    (execOp ev ⟨d, .buildSlice 85 3 #[(0, x), (1, y), (2, z)], t, p, af, gd⟩).run Tryz.prog w = .ok (.value (.slice (some ⟨w.heap.size, 0, none⟩) 3 3)) (w.alloc (.cells #[.slice A n c, .slice B n2 c2, .slice C n3 c3] 31)) := by
  simp only [execOp]
  go_simp
theorem eqA32 (D : List UInt8) (hD : D.length = 32) (w : World) : (Op.equalIn 10000 51 (.agg (u8s D).toArray) (.agg (u8s D).toArray)).run Tryz.prog w = .ok true w := by
  have h3 : (Op.equalIn 10000 51 (.agg (u8s D).toArray) (.agg (u8s D).toArray)).run Tryz.prog w = .ok (D == D) w := run_equalIn_bytes (P := Tryz.prog) w 9998 51 5 32 Tryz.underlying51 Tryz.underlying5 (fun w => by kernel_rfl) D D hD hD
  rwa [beq_self_eq_true] at h3
/-- 'append' of one slice in a block of its own, under a guard that says yes. -/
theorem wpList_appW1 {P : Program} (w : World) {ops : Array Oper} {rest : List Oper} {o : Oper} {a : Act} {Q : Exit → Act → World → Prop} (hw : Region.wanted o (yielded ops a.tmps) = true) (s x : Operand) (t : TypeId)
    (ho : o.op = .call { callee := .builtin .append, args := #[s, x], argTypes := #[t, t] })
    (base : Nat) (e : TypeId) (i : TypeInfo) (z : Value) (bytes : Nat) (ht : P.underlying t = some (.slice e)) (hi : P.info? e = some i) (hz : i.zero = some z)
    (hsize : i.size = 1) (hby : i.bytes = bytes) (hzs : z.cells.size = 1)
    (v : Value) (n : Nat) (xs : List Value) (hs : a.eval s = v) (hown : w.ownsRow base e 1 v n xs)
    (y u : Value) (hx : a.eval x = .slice (some ⟨w.heap.size, 0, none⟩) 1 1) (hy : y = u) (h1 : u.oneCell' = true)
    (hbytes : (n + 1) * bytes ≤ 140737488355328) (h63 : n + 1 ≤ maxLen) (hbase : base ≤ w.heap.size)
    (h : ∀ v' w', Apped base e w w' v v' (n + 1) (xs ++ [u]) → wpList P ops Q rest (a.put o.dst v') w') : wpList P ops Q (o :: rest) a (w.alloc (.cells #[y] e)) := by
  subst hy
  refine wpList_step fun K hK => ?_
  rw [if_pos hw]
  refine wp_app (w.alloc (.cells #[y] e)) s x t ho base e i z bytes ht hi hz hsize hby hzs v n xs hs (hown.alloc _) _ 1 1 [y] hx
    ⟨rfl, fun j u hj => ⟨_, rfl, cell_one_new w y e j u hj⟩⟩ (by simpa using h1) hbytes h63 (by simp; omega) fun v' w' hA => hK _ _ (h v' w' ⟨hA.own, ?_, ?_⟩)
  · have h2 := hA.grown
    exact ⟨h2.os, h2.tape, h2.output, by have := h2.size; simp at this; omega, fun k hk hne => (h2.block k (by simp; omega) hne).trans (Below.heap_alloc w _ k hk)⟩
  · rcases hA.lies with e1 | ⟨g, e1, hg⟩
    · exact .inl e1
    · exact .inr ⟨g, e1, by simp at hg; omega⟩
end Go.Proofs.YteckblffpidigaaGreatDoor
/- A region that draws its order and holds one operation that turns memory: what is ahead of it in any order, then it, then the rest in any order. No condition. -/
namespace Go.Proofs.YteckblffpidigaaGreatDoor
open Go.RowKit
section
variable {P : Program} {ops : Array Oper} {Q : Exit → Act → World → Prop}
/-- From z on each operation waits for z or for one behind it. -/
def tail2B (ops : Array Oper) (z : Nat) : Bool := (List.range ops.size).all fun i => !(decide (z < i)) || match ops[i]? with | some o => o.after.any (fun e => Region.binds .any e && decide (z ≤ e.on)) | none => true
theorem tail2B_at {z i : Nat} {o : Oper} (h : tail2B ops z = true) (hi : z < i) (ho : ops[i]? = some o) : ∃ e ∈ o.after, Region.binds .any e = true ∧ z ≤ e.on := by
  have hlt : i < ops.size := by
    rcases Nat.lt_or_ge i ops.size with h | h
    · exact h
    · rw [Array.getElem?_eq_none h] at ho; cases ho
  have := List.all_eq_true.1 h i (by simpa using hlt)
  rw [ho] at this
  simp only [hi, decide_true, Bool.not_true, Bool.false_or] at this
  rw [Array.any_eq_true'] at this
  obtain ⟨e, he, hek⟩ := this
  simp only [Bool.and_eq_true, decide_eq_true_eq] at hek
  exact ⟨e, he, hek.1, hek.2⟩
/-- All up to z is done, nothing behind it: the rest goes well, in whatever order. -/
def TailOK (P : Program) (ops : Array Oper) (Q : Exit → Act → World → Prop) (z : Nat) (a : Act) (w : World) : Prop :=
  ∀ listed : Array Bool, listed.size = ops.size → (∀ k, k ≤ z → listed.getD k false = true) → (∀ k, z < k → listed.getD k false = false) →
    (∀ k ok e, ops[k]? = some ok → listed.getD k false = true → e ∈ ok.after → Region.binds .any e = true → listed.getD e.on false = true) → wpAny P .any ops Q (unlisted ops listed) listed a w
theorem wpAny_ssaT (z : Nat) (a0 : Act) (w0 : World) (Φ : Nat → Value → World → Prop) (G : World → World → Prop) (htrans : ∀ a b c, G a b → G b c → G a c)
    (hΦ : ∀ i v w w', Φ i v w → G w w' → Φ i v w') (hB : ssaB ops a0.tmps.size = true)
    (hstep : ∀ i o, ops[i]? = some o → z < i → ∀ a w, G w0 w → Finds ops Φ a0 i o a w → wpOp P ops Q i (fun a' w' => ∃ v, a' = a.put o.dst v ∧ Φ i v w' ∧ G w w') a w)
    (hend : ∀ a w, G w0 w → Ssa ops Φ a0 (Array.replicate ops.size true) a w → Q .normal a w) :
    ∀ (fuel : Nat) (listed : Array Bool) (a : Act) (w : World), listed.size = ops.size → unlisted ops listed = fuel → (∀ k, k ≤ z → listed.getD k false = true) → G w0 w → Ssa ops Φ a0 listed a w → wpAny P .any ops Q fuel listed a w := by
  have hb : ∀ i oi, ops[i]? = some oi → (∀ e ∈ oi.after, Region.binds .any e = true → e.on < i) ∧ (∀ d, oi.dst = some d → d < a0.tmps.size) ∧
      (∀ k ok d, k ≠ i → ops[k]? = some ok → ok.dst = some d → oi.dst ≠ some d ∧ (d ∈ oi.looksAt ops → oi.after.any (fun e => Region.binds .any e && e.on == k) = true ∨ ok.after.any (fun e => Region.binds .any e && e.on == i) = true)) := by
    intro i oi hi
    have hlt : i < ops.size := by
      rcases Nat.lt_or_ge i ops.size with h | h
      · exact h
      · rw [Array.getElem?_eq_none h] at hi; cases hi
    have h1 := List.all_eq_true.1 hB i (by simpa using hlt)
    rw [hi] at h1
    simp only [Bool.and_eq_true] at h1
    obtain ⟨⟨h2, h3⟩, h4⟩ := h1
    refine ⟨fun e he => ?_, fun d hd => ?_, fun k ok d hk hok hd => ?_⟩
    · have h5 := (Array.all_eq_true'.1 h2) e he
      intro hbe
      simpa [hbe] using h5
    · rw [hd] at h3; simpa using h3
    · have hlt' : k < ops.size := by
        rcases Nat.lt_or_ge k ops.size with h | h
        · exact h
        · rw [Array.getElem?_eq_none h] at hok; cases hok
      have h5 := List.all_eq_true.1 h4 k (by simpa using hlt')
      rw [hok] at h5
      simp only [hd, Bool.or_eq_true, beq_iff_eq, hk, false_or, Bool.and_eq_true, bne_iff_ne, ne_eq, Bool.not_eq_true'] at h5
      refine ⟨h5.1, fun hm => ?_⟩
      rcases h5.2 with (h6 | h6) | h6
      · rw [List.contains_iff_mem.2 hm] at h6; cases h6
      · exact .inl h6
      · exact .inr h6
  intro fuel
  induction fuel with
  | zero =>
    intro listed a w hs hu hlz hG hI
    have hall : ∀ i, i < ops.size → listed.getD i false = true := by
      intro i hi
      have h0 : (List.range ops.size).filter (fun i => !listed.getD i false) = [] := List.eq_nil_of_length_eq_zero hu
      have := List.filter_eq_nil_iff.1 h0 i (by simpa using hi)
      simpa using this
    have hl : listed = Array.replicate ops.size true := by
      apply Array.ext
      · simp [hs]
      · intro i h1 h2
        have := hall i (by omega)
        simp [h1] at this
        simp [this]
    refine ⟨?_, hend a w hG (hl ▸ hI)⟩
    unfold Region.ready
    rw [List.filter_eq_nil_iff]
    intro i hi
    have := hall i (by simpa using hi)
    rw [← getD_true_false listed i (by simp at hi; omega)] at this
    simp [this]
  | succ fuel ih =>
    intro listed a w hs hu hlz hG hI
    refine ⟨fun hr => ?_, fun i hi => ?_⟩
    · exfalso
      -- the least that is not listed may come up
      have hex : ∃ i, i < ops.size ∧ listed.getD i false = false := by
        have h0 : (List.range ops.size).filter (fun i => !listed.getD i false) ≠ [] := by
          intro h; unfold unlisted at hu; rw [h] at hu; simp at hu
        obtain ⟨i, hi⟩ := List.exists_mem_of_ne_nil _ h0
        rw [List.mem_filter] at hi
        exact ⟨i, by simpa using hi.1, by simpa using hi.2⟩
      obtain ⟨i, ⟨hi1, hi2⟩, hmin⟩ := exists_least hex
      have : i ∈ Region.ready .any ops listed := by
        rw [mem_ready]
        refine ⟨by rw [getD_true_false listed i (by omega)]; exact hi2, _, Array.getElem?_eq_getElem hi1, fun e he hbe => ?_⟩
        have h1 := (hb i _ (Array.getElem?_eq_getElem hi1)).1 e he hbe
        by_cases h2 : listed.getD e.on false = true
        · exact h2
        · exact absurd ⟨by omega, by simpa using h2⟩ (hmin e.on h1)
      rw [hr] at this
      cases this
    · obtain ⟨hun, oi, hoi, hall⟩ := mem_ready.1 hi
      have hlt : i < ops.size := by
        rcases Nat.lt_or_ge i ops.size with h | h
        · exact h
        · rw [Array.getElem?_eq_none h] at hoi; cases hoi
      rw [getD_true_false listed i (by omega)] at hun
      obtain ⟨b1, b2, b3⟩ := hb i oi hoi
      have hset : ∀ k, (listed.setIfInBounds i true).getD k false = (if k = i then true else listed.getD k false) := by
        intro k
        by_cases hk : k = i
        · subst hk; simp [Array.getD_eq_getD_getElem?, Array.getElem?_setIfInBounds_self_of_lt (by omega : k < listed.size)]
        · simp [Array.getD_eq_getD_getElem?, Array.getElem?_setIfInBounds_ne (Ne.symm hk), hk]
      have hdep : ∀ k, oi.after.any (fun e => Region.binds .any e && e.on == k) = true → listed.getD k false = true := by
        intro k hk
        rw [Array.any_eq_true'] at hk
        obtain ⟨e, he, hek⟩ := hk
        simp only [Bool.and_eq_true, beq_iff_eq] at hek
        rw [← hek.2]
        exact hall e he hek.1
      have hF : Finds ops Φ a0 i oi a w := by
        refine ⟨hI.defers, hI.size, fun k ok d hok hd _ hk => ?_, fun d hd hno => ?_⟩
        · obtain ⟨v, hv, hφ⟩ := hI.new k ok hok (hdep k hk)
          exact ⟨v, hv d hd, hφ⟩
        · apply hI.old
          intro k ok hok hlk hkd
          by_cases hki : k = i
          · subst hki; rw [hun] at hlk; cases hlk
          · rcases (b3 k ok d hki hok hkd).2 hd with h1 | h1
            · rw [hno k ok hok hkd hki] at h1; cases h1
            · rw [Array.any_eq_true'] at h1
              obtain ⟨e, he, hek⟩ := h1
              simp only [Bool.and_eq_true, beq_iff_eq] at hek
              have := hI.closed k ok e hok hlk he hek.1
              rw [hek.2, hun] at this
              cases this
      refine wpOp_mono (fun a' w' h => ?_) (hstep i oi hoi (by
        rcases Nat.lt_or_ge z i with h | h
        · exact h
        · rw [hlz i h] at hun; cases hun) a w hG hF)
      obtain ⟨v, rfl, hφ, hg⟩ := h
      have hput : ∀ t, oi.dst ≠ some t → (a.put oi.dst v).tmps[t]? = a.tmps[t]? := by
        intro t ht
        cases hd : oi.dst with
        | none => rfl
        | some d =>
          have hne : d ≠ t := fun e => ht (by rw [hd, e])
          simp [Act.put, Array.getElem?_setIfInBounds_ne hne]
      refine ih _ _ _ (by simp [hs]) ?_ (fun k hk => by
        rw [hset k]
        split
        · rfl
        · exact hlz k hk) (htrans _ _ _ hG hg) ⟨?_, ?_, ?_, ?_, ?_⟩
      · -- one fewer
        unfold unlisted at hu ⊢
        have e1 : (List.range ops.size).filter (fun k => !(listed.setIfInBounds i true).getD k false) = ((List.range ops.size).filter fun k => !listed.getD k false).erase i := by
          rw [List.Nodup.erase_eq_filter (List.Pairwise.filter _ List.nodup_range), List.filter_filter]
          apply List.filter_congr
          intro k _
          rw [hset k]
          by_cases hk : k = i
          · simp [hk]
          · simp [hk]
        rw [e1, List.length_erase_of_mem (by rw [List.mem_filter]; exact ⟨by simpa using hlt, by simp [hun]⟩), hu]
        omega
      · cases hd : oi.dst <;> simp [Act.put, hI.defers]
      · cases hd : oi.dst <;> simp [Act.put, hI.size]
      · intro k ok hok hlk
        rw [hset k] at hlk
        by_cases hki : k = i
        · subst hki
          rw [hoi] at hok; injection hok with hok; subst hok
          refine ⟨v, fun d hd => ?_, hφ⟩
          have := b2 d hd
          rw [hd]
          simp [Act.put, Array.getElem?_setIfInBounds_self_of_lt (by rw [hI.size]; exact this : d < a.tmps.size)]
        · rw [if_neg hki] at hlk
          obtain ⟨u, hu1, hu2⟩ := hI.new k ok hok hlk
          refine ⟨u, fun d hd => ?_, hΦ _ _ _ _ hu2 hg⟩
          rw [hput d (b3 k ok d hki hok hd).1]
          exact hu1 d hd
      · intro t ht
        have h1 : oi.dst ≠ some t := ht i oi hoi (by rw [hset i]; simp)
        rw [hput t h1]
        apply hI.old
        intro k ok hok hlk
        exact ht k ok hok (by rw [hset k]; split <;> simp_all)
      · intro k ok e hok hlk he hbe
        rw [hset k] at hlk
        rw [hset e.on]
        by_cases hki : k = i
        · subst hki
          rw [hoi] at hok; injection hok with hok; subst hok
          split
          · rfl
          · exact hall e he hbe
        · rw [if_neg hki] at hlk
          split
          · rfl
          · exact hI.closed k ok e hok hlk he hbe
theorem wpAny_cut2 (a0 : Act) (w0 : World) (Φ : Nat → Value → World → Prop) (G : World → World → Prop) (z : Nat) (hz : z < ops.size) (htail : tail2B ops z = true) (hdom : domB ops z = true) (htrans : ∀ a b c, G a b → G b c → G a c)
    (hΦ : ∀ i v w w', Φ i v w → G w w' → Φ i v w') (hB : ssaB ops a0.tmps.size = true)
    (hstep : ∀ i o, ops[i]? = some o → i < z → ∀ a w, G w0 w → Finds ops Φ a0 i o a w → wpOp P ops Q i (fun a' w' => ∃ v, a' = a.put o.dst v ∧ Φ i v w' ∧ G w w') a w)
    (hend : ∀ (a : Act) (w : World), G w0 w → (∀ i o, ops[i]? = some o → i < z → ∃ v, (∀ d, o.dst = some d → a.tmps[d]? = some v) ∧ Φ i v w) → a.defers = a0.defers → a.tmps.size = a0.tmps.size →
      (∀ t, (∀ i o, ops[i]? = some o → i < z → o.dst ≠ some t) → a.tmps[t]? = a0.tmps[t]?) → wpOp P ops Q z (TailOK P ops Q z) a w) :
    ∀ (fuel : Nat) (listed : Array Bool) (a : Act) (w : World), listed.size = ops.size → unlisted ops listed = fuel → (∀ k, z ≤ k → listed.getD k false = false) → G w0 w → Ssa ops Φ a0 listed a w → wpAny P .any ops Q fuel listed a w := by
  have hb : ∀ i oi, ops[i]? = some oi → (∀ e ∈ oi.after, Region.binds .any e = true → e.on < i) ∧ (∀ d, oi.dst = some d → d < a0.tmps.size) ∧
      (∀ k ok d, k ≠ i → ops[k]? = some ok → ok.dst = some d → oi.dst ≠ some d ∧ (d ∈ oi.looksAt ops → oi.after.any (fun e => Region.binds .any e && e.on == k) = true ∨ ok.after.any (fun e => Region.binds .any e && e.on == i) = true)) := by
    intro i oi hi
    have hlt : i < ops.size := by
      rcases Nat.lt_or_ge i ops.size with h | h
      · exact h
      · rw [Array.getElem?_eq_none h] at hi; cases hi
    have h1 := List.all_eq_true.1 hB i (by simpa using hlt)
    rw [hi] at h1
    simp only [Bool.and_eq_true] at h1
    obtain ⟨⟨h2, h3⟩, h4⟩ := h1
    refine ⟨fun e he => ?_, fun d hd => ?_, fun k ok d hk hok hd => ?_⟩
    · have h5 := (Array.all_eq_true'.1 h2) e he
      intro hbe
      simpa [hbe] using h5
    · rw [hd] at h3; simpa using h3
    · have hlt' : k < ops.size := by
        rcases Nat.lt_or_ge k ops.size with h | h
        · exact h
        · rw [Array.getElem?_eq_none h] at hok; cases hok
      have h5 := List.all_eq_true.1 h4 k (by simpa using hlt')
      rw [hok] at h5
      simp only [hd, Bool.or_eq_true, beq_iff_eq, hk, false_or, Bool.and_eq_true, bne_iff_ne, ne_eq, Bool.not_eq_true'] at h5
      refine ⟨h5.1, fun hm => ?_⟩
      rcases h5.2 with (h6 | h6) | h6
      · rw [List.contains_iff_mem.2 hm] at h6; cases h6
      · exact .inl h6
      · exact .inr h6
  intro fuel
  induction fuel with
  | zero =>
    intro listed a w hs hu hzu0 hG hI
    have hzu := hzu0 z (Nat.le_refl _)
    exfalso
    have h0 : (List.range ops.size).filter (fun i => !listed.getD i false) = [] := List.eq_nil_of_length_eq_zero hu
    have := List.filter_eq_nil_iff.1 h0 z (by simp; omega)
    simp [hzu] at this
  | succ fuel ih =>
    intro listed a w hs hu hzu0 hG hI
    have hzu := hzu0 z (Nat.le_refl _)
    refine ⟨fun hr => ?_, fun i hi => ?_⟩
    · exfalso
      have hex : ∃ i, i < ops.size ∧ listed.getD i false = false := ⟨z, by omega, hzu⟩
      obtain ⟨i, ⟨hi1, hi2⟩, hmin⟩ := exists_least hex
      have : i ∈ Region.ready .any ops listed := by
        rw [mem_ready]
        refine ⟨by rw [getD_true_false listed i (by omega)]; exact hi2, _, Array.getElem?_eq_getElem hi1, fun e he hbe => ?_⟩
        have h1 := (hb i _ (Array.getElem?_eq_getElem hi1)).1 e he hbe
        by_cases h2 : listed.getD e.on false = true
        · exact h2
        · exact absurd ⟨by omega, by simpa using h2⟩ (hmin e.on h1)
      rw [hr] at this
      cases this
    · obtain ⟨hun, oi, hoi, hall⟩ := mem_ready.1 hi
      have hlt : i < ops.size := by
        rcases Nat.lt_or_ge i ops.size with h | h
        · exact h
        · rw [Array.getElem?_eq_none h] at hoi; cases hoi
      rw [getD_true_false listed i (by omega)] at hun
      obtain ⟨b1, b2, b3⟩ := hb i oi hoi
      have hset : ∀ k, (listed.setIfInBounds i true).getD k false = (if k = i then true else listed.getD k false) := by
        intro k
        by_cases hk : k = i
        · subst hk; simp [Array.getD_eq_getD_getElem?, Array.getElem?_setIfInBounds_self_of_lt (by omega : k < listed.size)]
        · simp [Array.getD_eq_getD_getElem?, Array.getElem?_setIfInBounds_ne (Ne.symm hk), hk]
      have hdep : ∀ k, oi.after.any (fun e => Region.binds .any e && e.on == k) = true → listed.getD k false = true := by
        intro k hk
        rw [Array.any_eq_true'] at hk
        obtain ⟨e, he, hek⟩ := hk
        simp only [Bool.and_eq_true, beq_iff_eq] at hek
        rw [← hek.2]
        exact hall e he hek.1
      have hF : Finds ops Φ a0 i oi a w := by
        refine ⟨hI.defers, hI.size, fun k ok d hok hd _ hk => ?_, fun d hd hno => ?_⟩
        · obtain ⟨v, hv, hφ⟩ := hI.new k ok hok (hdep k hk)
          exact ⟨v, hv d hd, hφ⟩
        · apply hI.old
          intro k ok hok hlk hkd
          by_cases hki : k = i
          · subst hki; rw [hun] at hlk; cases hlk
          · rcases (b3 k ok d hki hok hkd).2 hd with h1 | h1
            · rw [hno k ok hok hkd hki] at h1; cases h1
            · rw [Array.any_eq_true'] at h1
              obtain ⟨e, he, hek⟩ := h1
              simp only [Bool.and_eq_true, beq_iff_eq] at hek
              have := hI.closed k ok e hok hlk he hek.1
              rw [hek.2, hun] at this
              cases this
      have hclosed' : ∀ k ok e, ops[k]? = some ok → (listed.setIfInBounds i true).getD k false = true → e ∈ ok.after → Region.binds .any e = true → (listed.setIfInBounds i true).getD e.on false = true := by
        intro k ok e hok hlk he hbe
        rw [hset k] at hlk
        rw [hset e.on]
        by_cases hki : k = i
        · subst hki
          rw [hoi] at hok; injection hok with hok; subst hok
          split
          · rfl
          · exact hall e he hbe
        · rw [if_neg hki] at hlk
          split
          · rfl
          · exact hI.closed k ok e hok hlk he hbe
      have hcount : unlisted ops (listed.setIfInBounds i true) = fuel := by
        unfold unlisted at hu ⊢
        have e1 : (List.range ops.size).filter (fun k => !(listed.setIfInBounds i true).getD k false) = ((List.range ops.size).filter fun k => !listed.getD k false).erase i := by
          rw [List.Nodup.erase_eq_filter (List.Pairwise.filter _ List.nodup_range), List.filter_filter]
          apply List.filter_congr
          intro k _
          rw [hset k]
          by_cases hk : k = i
          · simp [hk]
          · simp [hk]
        rw [e1, List.length_erase_of_mem (by rw [List.mem_filter]; exact ⟨by simpa using hlt, by simp [hun]⟩), hu]
        omega
      have hiz1 : ¬ z < i := by
        intro h
        obtain ⟨e, he, hbe, hze⟩ := tail2B_at htail h hoi
        have := hall e he hbe
        rw [hzu0 e.on hze] at this; cases this
      by_cases hiz : i = z
      · subst hiz
        have hallL := all_listed hdom hclosed' (by rw [hset i]; simp)
        have hothers : ∀ k, k < i → listed.getD k false = true := by
          intro k hk
          have := hallL k (by omega)
          rw [hset k, if_neg (by omega)] at this
          exact this
        have hw := hend a w hG (fun k ok hk hki => hI.new k ok hk (hothers k hki)) hI.defers hI.size fun t ht => hI.old t fun k o hk hl => ht k o hk (by
          rcases Nat.lt_or_ge k i with h | h
          · exact h
          · rw [hzu0 k h] at hl; cases hl)
        refine wpOp_mono (fun a' w' h => ?_) hw
        rw [← hcount]
        exact h _ (by simp [hs]) (fun k hk => hallL k (by omega)) (fun k hk => by rw [hset k, if_neg (by omega)]; exact hzu0 k (by omega)) hclosed'
      · refine wpOp_mono (fun a' w' h => ?_) (hstep i oi hoi (by omega) a w hG hF)
        obtain ⟨v, rfl, hφ, hg⟩ := h
        have hput : ∀ t, oi.dst ≠ some t → (a.put oi.dst v).tmps[t]? = a.tmps[t]? := by
          intro t ht
          cases hd : oi.dst with
          | none => rfl
          | some d =>
            have hne : d ≠ t := fun e => ht (by rw [hd, e])
            simp [Act.put, Array.getElem?_setIfInBounds_ne hne]
        refine ih _ _ _ (by simp [hs]) hcount (fun k hk => by rw [hset k, if_neg (by omega)]; exact hzu0 k hk) (htrans _ _ _ hG hg) ⟨?_, ?_, ?_, ?_, hclosed'⟩
        · cases hd : oi.dst <;> simp [Act.put, hI.defers]
        · cases hd : oi.dst <;> simp [Act.put, hI.size]
        · intro k ok hok hlk
          rw [hset k] at hlk
          by_cases hki : k = i
          · subst hki
            rw [hoi] at hok; injection hok with hok; subst hok
            refine ⟨v, fun d hd => ?_, hφ⟩
            have := b2 d hd
            rw [hd]
            simp [Act.put, Array.getElem?_setIfInBounds_self_of_lt (by rw [hI.size]; exact this : d < a.tmps.size)]
          · rw [if_neg hki] at hlk
            obtain ⟨u, hu1, hu2⟩ := hI.new k ok hok hlk
            refine ⟨u, fun d hd => ?_, hΦ _ _ _ _ hu2 hg⟩
            rw [hput d (b3 k ok d hki hok hd).1]
            exact hu1 d hd
        · intro t ht
          have h1 : oi.dst ≠ some t := ht i oi hoi (by rw [hset i]; simp)
          rw [hput t h1]
          apply hI.old
          intro k ok hok hlk
          exact ht k ok hok (by rw [hset k]; split <;> simp_all)
theorem wp_region_cut2 {id : Nat} {a0 : Act} {w0 : World} (hm : P.follows .mixedOrders = true) (L : List (Value → World → Prop)) (z : Nat) (hz : z < ops.size) (htail : tail2B ops z = true) (hdom : domB ops z = true) (hB : ssaB ops a0.tmps.size = true)
    (hL : ∀ φ ∈ L, ∀ v w w', φ v w → Gr w w' → φ v w')
    (hstep : AllFrom (StepL P ops Q a0 w0.drew Gr L) 0 (ops.toList.take z))
    (hend : ∀ (vs : Nat → Value) w, Gr w0.drew w → AllFrom (fun i _ => (L.getD i AnyV) (vs i) w) 0 (ops.toList.take z) → wpOp P ops Q z (TailOK P ops Q z) (putAll vs 0 (ops.toList.take z) a0) w) : (Code.region id ops true).wp P Q a0 w0 := by
  have hΦ : ∀ i v (w w' : World), (L.getD i AnyV) v w → Gr w w' → (L.getD i AnyV) v w' := by
    intro i v w w' h hg
    rcases Nat.lt_or_ge i L.length with hlt | hge
    · simp only [List.getD_eq_getElem?_getD, List.getElem?_eq_getElem hlt, Option.getD_some] at h ⊢
      exact hL _ (List.getElem_mem hlt) v w w' h hg
    · simp only [List.getD_eq_getElem?_getD, List.getElem?_eq_none hge, Option.getD_none] at h ⊢
      exact trivial
  refine wp_region_any hm (wpAny_cut2 a0 w0.drew (fun i => L.getD i AnyV) Gr z hz htail hdom (fun _ _ _ => Gr.trans) hΦ hB ?_ ?_ ops.size (Array.replicate ops.size false) a0 w0.drew (by simp) ?_ ?_ (Gr.refl _) ⟨rfl, rfl, ?_, fun _ _ => rfl, ?_⟩)
  · intro i o hi hiz a w hg hF
    have h1 := allFrom_get (ops.toList.take z) 0 hstep i o (by rw [List.getElem?_take]; simp [hiz, hi])
    simp only [Nat.zero_add] at h1
    exact h1 a w hg hF
  · intro a w hg hnew hdef hsize hold
    have hch : ∀ i, ∃ v, i < z → (∀ d, ((ops[i]?).bind (fun o : Oper => o.dst)) = some d → a.tmps[d]? = some v) ∧ (L.getD i AnyV) v w := by
      intro i
      by_cases hi : i < z
      · obtain ⟨v, h1, h2⟩ := hnew i _ (Array.getElem?_eq_getElem (by omega : i < ops.size)) hi
        exact ⟨v, fun _ => ⟨fun d hd => h1 d (by simpa [(by omega : i < ops.size)] using hd), h2⟩⟩
      · exact ⟨undef, fun h => absurd h hi⟩
    have hvs := fun i => Classical.choose_spec (hch i)
    have hall : ∀ (os : List Oper) (k : Nat), k + os.length ≤ z → AllFrom (fun i _ => (L.getD i AnyV) (Classical.choose (hch i)) w) k os := by
      intro os
      induction os with
      | nil => intro k _; exact trivial
      | cons o os ih => intro k hk; simp at hk; exact ⟨(hvs k (by omega)).2, ih (k + 1) (by omega)⟩
    have hend' := hend (fun i => Classical.choose (hch i)) w hg (hall _ 0 (by simp; omega))
    have hlen : ∀ j (o : Oper), (ops.toList.take z)[j]? = some o → j < z ∧ ops[j]? = some o := by
      intro j o h
      rw [List.getElem?_take] at h
      split at h
      · exact ⟨by assumption, by simpa using h⟩
      · cases h
    have ha : putAll (fun i => Classical.choose (hch i)) 0 (ops.toList.take z) a0 = a := by
      have h1 := putAll_defers (fun i => Classical.choose (hch i)) (ops.toList.take z) 0 a0
      have h2 := putAll_size (fun i => Classical.choose (hch i)) (ops.toList.take z) 0 a0
      have h3 : (putAll (fun i => Classical.choose (hch i)) 0 (ops.toList.take z) a0).tmps = a.tmps := by
        apply Array.ext_getElem?
        intro t
        by_cases hex : ∃ (j : Nat) (o : Oper), (ops.toList.take z)[j]? = some o ∧ o.dst = some t
        · obtain ⟨j, o, hj0, hd⟩ := hex
          obtain ⟨hjz, hj⟩ := hlen j o hj0
          have hlt : j < ops.size := by omega
          have hb := List.all_eq_true.1 hB j (by simpa using hlt)
          rw [hj] at hb
          simp only [Bool.and_eq_true, hd, decide_eq_true_eq] at hb
          rw [putAll_new _ t (ops.toList.take z) 0 a0 j o hj0 hd hb.1.2 fun k o' hk hd' => ?_, (hvs j hjz).1 t (by rw [hj]; exact hd)]
          · simp
          · rcases Nat.decEq k j with hkj | hkj
            · exfalso
              obtain ⟨hkz, hk'⟩ := hlen k o' hk
              have hltk : k < ops.size := by omega
              have h5 := List.all_eq_true.1 hb.2 k (by simpa using hltk)
              rw [hk'] at h5
              simp [hkj, hd'] at h5
            · exact hkj
        · rw [putAll_old _ t (ops.toList.take z) 0 a0 (fun (o : Oper) ho e => hex (by obtain ⟨j, hj⟩ := List.getElem?_of_mem ho; exact ⟨j, o, hj, e⟩)), hold t fun i o hi hiz e => hex ⟨i, o, by rw [List.getElem?_take]; simp [hiz, hi], e⟩]
      have h4 := hdef
      cases a
      cases hq : putAll (fun i => Classical.choose (hch i)) 0 (ops.toList.take z) a0
      rw [hq] at h1 h3
      simp only at h1 h3 h4
      rw [h1, h3, h4]
    rw [← ha]
    exact hend'
  · unfold unlisted
    rw [List.filter_eq_self.2]
    · simp
    · intro i hi
      simp only [List.mem_range] at hi
      simp [hi]
  · intro k _
    rw [Array.getD_eq_getD_getElem?, Array.getElem?_replicate]
    split <;> simp
  · intro i o hi hl
    exfalso
    rw [Array.getD_eq_getD_getElem?, Array.getElem?_replicate] at hl
    split at hl <;> simp at hl
  · intro i o e hi hl
    exfalso
    rw [Array.getD_eq_getD_getElem?, Array.getElem?_replicate] at hl
    split at hl <;> simp at hl
theorem tail_any {a1 : Act} {w1 : World} (z : Nat) (L2 : List (Value → World → Prop)) (hB : ssaB ops a1.tmps.size = true)
    (hL : ∀ φ ∈ L2, ∀ v w w', φ v w → Gr w w' → φ v w') (oz : Oper) (hoz : ops[z]? = some oz) (v : Value) (hd : ∀ d, oz.dst = some d → a1.tmps[d]? = some v) (hv : ((List.replicate z AnyV ++ L2).getD z AnyV) v w1)
    (hstep : AllFrom (StepL P ops Q a1 w1 Gr (List.replicate z AnyV ++ L2)) (z + 1) (ops.toList.drop (z + 1)))
    (hend : ∀ (vs : Nat → Value) w, Gr w1 w → AllFrom (fun i _ => ((List.replicate z AnyV ++ L2).getD i AnyV) (vs i) w) (z + 1) (ops.toList.drop (z + 1)) → Q .normal (putAll vs (z + 1) (ops.toList.drop (z + 1)) a1) w) : TailOK P ops Q z a1 w1 := by
  obtain ⟨L, hLe⟩ : ∃ L, L = List.replicate z AnyV ++ L2 := ⟨_, rfl⟩
  rw [← hLe] at hv hstep hend
  have hlow : ∀ i, i < z → L.getD i AnyV = AnyV := fun i hi => by
    rw [hLe, List.getD_eq_getElem?_getD, List.getElem?_append_left (by simpa using hi)]
    simp [hi]
  have hΦ0 : ∀ i v (w w' : World), (L.getD i AnyV) v w → Gr w w' → (L.getD i AnyV) v w' := by
    intro i v w w' h hg
    rcases Nat.lt_or_ge i L.length with hlt | hge
    · simp only [List.getD_eq_getElem?_getD, List.getElem?_eq_getElem hlt, Option.getD_some] at h ⊢
      have hm := List.getElem_mem hlt
      generalize L[i] = φ at h hm ⊢
      rw [hLe] at hm
      rcases List.mem_append.1 hm with hm | hm
      · rw [List.eq_of_mem_replicate hm]; exact trivial
      · exact hL _ hm v w w' h hg
    · simp only [List.getD_eq_getElem?_getD, List.getElem?_eq_none hge, Option.getD_none] at h ⊢
      exact trivial
  have hdst : ∀ (i : Nat) (o : Oper) d, ops[i]? = some o → o.dst = some d → d < a1.tmps.size ∧ ∀ k (ok : Oper), k ≠ i → ops[k]? = some ok → ok.dst ≠ some d := by
    intro i o d hi hd
    have hlt : i < ops.size := by
      rcases Nat.lt_or_ge i ops.size with h | h
      · exact h
      · rw [Array.getElem?_eq_none h] at hi; cases hi
    have h1 := List.all_eq_true.1 hB i (by simpa using hlt)
    rw [hi] at h1
    simp only [Bool.and_eq_true, hd, decide_eq_true_eq] at h1
    refine ⟨h1.1.2, fun k ok hk hok hkd => ?_⟩
    have hltk : k < ops.size := by
      rcases Nat.lt_or_ge k ops.size with h | h
      · exact h
      · rw [Array.getElem?_eq_none h] at hok; cases hok
    have h5 := List.all_eq_true.1 h1.2 k (by simpa using hltk)
    rw [hok] at h5
    simp [hk, hkd] at h5
  intro listed hs h1 h2 hcl
  refine wpAny_ssaT z a1 w1 (fun i u w => (i ≤ z → ∀ (o : Oper) d, ops[i]? = some o → o.dst = some d → a1.tmps[d]? = some u) ∧ (L.getD i AnyV) u w) Gr (fun _ _ _ => Gr.trans) (fun i u w w' h hg => ⟨h.1, hΦ0 i u w w' h.2 hg⟩) hB ?_ ?_ _ listed a1 w1 hs rfl h1 (Gr.refl _) ⟨rfl, rfl, ?_, fun _ _ => rfl, hcl⟩
  · intro i o hi hzi a w hg hF
    have hs1 := allFrom_get (ops.toList.drop (z + 1)) (z + 1) hstep (i - (z + 1)) o (by rw [List.getElem?_drop, show z + 1 + (i - (z + 1)) = i by omega]; simpa using hi)
    rw [show z + 1 + (i - (z + 1)) = i by omega] at hs1
    have hF' : Finds ops (fun i => L.getD i AnyV) a1 i o a w := ⟨hF.defers, hF.size, fun k ok d hok hkd hl ha => by
      obtain ⟨u, h3, h4⟩ := hF.dep k ok d hok hkd hl ha
      exact ⟨u, h3, h4.2⟩, hF.old⟩
    refine wpOp_mono (fun a' w' h => ?_) (hs1 a w hg hF')
    obtain ⟨u, h3, h4, h5⟩ := h
    exact ⟨u, h3, ⟨fun h => absurd h (by omega), h4⟩, h5⟩
  · intro a w hg hI
    have hch : ∀ i, ∃ u, i < ops.size → (∀ d, ((ops[i]?).bind (fun o : Oper => o.dst)) = some d → a.tmps[d]? = some u) ∧ (L.getD i AnyV) u w := by
      intro i
      by_cases hi : i < ops.size
      · obtain ⟨u, h3, h4⟩ := hI.new i _ (Array.getElem?_eq_getElem hi) (by simp [hi])
        exact ⟨u, fun _ => ⟨fun d hd => h3 d (by simpa [hi] using hd), h4.2⟩⟩
      · exact ⟨undef, fun h => absurd h hi⟩
    have hvs := fun i => Classical.choose_spec (hch i)
    have hall : ∀ (os : List Oper) (k : Nat), k + os.length ≤ ops.size → AllFrom (fun i _ => (L.getD i AnyV) (Classical.choose (hch i)) w) k os := by
      intro os
      induction os with
      | nil => intro k _; exact trivial
      | cons o os ih => intro k hk; simp at hk; exact ⟨(hvs k (by omega)).2, ih (k + 1) (by omega)⟩
    have hzs : z < ops.size := by
      rcases Nat.lt_or_ge z ops.size with h | h
      · exact h
      · rw [Array.getElem?_eq_none h] at hoz; cases hoz
    have hend' := hend (fun i => Classical.choose (hch i)) w hg (hall _ (z + 1) (by simp; omega))
    have ha : putAll (fun i => Classical.choose (hch i)) (z + 1) (ops.toList.drop (z + 1)) a1 = a := by
      have h3 := putAll_defers (fun i => Classical.choose (hch i)) (ops.toList.drop (z + 1)) (z + 1) a1
      have h5 : (putAll (fun i => Classical.choose (hch i)) (z + 1) (ops.toList.drop (z + 1)) a1).tmps = a.tmps := by
        apply Array.ext_getElem?
        intro t
        by_cases hex : ∃ (j : Nat) (o : Oper), (ops.toList.drop (z + 1))[j]? = some o ∧ o.dst = some t
        · obtain ⟨j, o, hj0, hdt⟩ := hex
          have hj : ops[z + 1 + j]? = some o := by rw [List.getElem?_drop] at hj0; simpa using hj0
          have hlt : z + 1 + j < ops.size := by
            rcases Nat.lt_or_ge (z + 1 + j) ops.size with h | h
            · exact h
            · rw [Array.getElem?_eq_none h] at hj; cases hj
          obtain ⟨q1, q2⟩ := hdst _ _ _ hj hdt
          rw [putAll_new _ t (ops.toList.drop (z + 1)) (z + 1) a1 j o hj0 hdt q1 fun k o' hk hd' => ?_, (hvs (z + 1 + j) hlt).1 t (by rw [hj]; exact hdt)]
          rcases Nat.decEq k j with hkj | hkj
          · exfalso
            have hk' : ops[z + 1 + k]? = some o' := by rw [List.getElem?_drop] at hk; simpa using hk
            exact q2 (z + 1 + k) o' (by omega) hk' hd'
          · exact hkj
        · rw [putAll_old _ t (ops.toList.drop (z + 1)) (z + 1) a1 (fun (o : Oper) ho e => hex (by obtain ⟨j, hj⟩ := List.getElem?_of_mem ho; exact ⟨j, o, hj, e⟩))]
          by_cases hex2 : ∃ (i : Nat) (o : Oper), ops[i]? = some o ∧ o.dst = some t
          · obtain ⟨i, o, hi, hdt⟩ := hex2
            have hiz : i ≤ z := by
              rcases Nat.lt_or_ge z i with h | h
              · exact absurd ⟨i - (z + 1), o, by rw [List.getElem?_drop, show z + 1 + (i - (z + 1)) = i by omega]; simpa using hi, hdt⟩ hex
              · exact h
            obtain ⟨u, h6, h7⟩ := hI.new i o hi (by
              have : i < ops.size := by omega
              simp [this])
            rw [h7.1 hiz o t hi hdt, h6 t hdt]
          · exact (hI.old t fun i o hi _ e => hex2 ⟨i, o, hi, e⟩).symm
      have h4 := hI.defers
      cases a
      cases hq : putAll (fun i => Classical.choose (hch i)) (z + 1) (ops.toList.drop (z + 1)) a1
      rw [hq] at h3 h5
      simp only at h3 h4 h5
      rw [h3, h5, h4]
    rw [← ha]
    exact hend'
  · intro i o hi hl
    have hiz : i ≤ z := by
      rcases Nat.lt_or_ge z i with h | h
      · rw [h2 i h] at hl; cases hl
      · exact h
    by_cases hz : i = z
    · subst hz
      rw [hoz] at hi
      injection hi with hi
      subst hi
      refine ⟨v, hd, ⟨fun _ o d ho hod => ?_, hv⟩⟩
      rw [hoz] at ho
      injection ho with ho
      subst ho
      exact hd d hod
    · cases hdo : o.dst with
      | none =>
        refine ⟨undef, (fun d h => by cases h), ⟨fun _ o' d ho hod => ?_, by rw [hlow i (by omega)]; exact trivial⟩⟩
        rw [hi] at ho
        injection ho with ho
        subst ho
        rw [hdo] at hod; cases hod
      | some d =>
        have hlt := (hdst i o d hi hdo).1
        refine ⟨a1.tmps[d], fun d' h => ?_, ⟨fun _ o' d' ho hod => ?_, by rw [hlow i (by omega)]; exact trivial⟩⟩
        · injection h with h
          subst h
          exact Array.getElem?_eq_getElem hlt
        · rw [hi] at ho
          injection ho with ho
          subst ho
          rw [hdo] at hod
          injection hod with hod
          subst hod
          exact Array.getElem?_eq_getElem hlt
theorem tail_put {a : Act} {w1 : World} (z : Nat) (L2 : List (Value → World → Prop)) (oz : Oper) (hoz : ops[z]? = some oz) (v : Value) (hB : ssaB ops (a.put oz.dst v).tmps.size = true)
    (hL : ∀ φ ∈ L2, ∀ v w w', φ v w → Gr w w' → φ v w') (hv : ((List.replicate z AnyV ++ L2).getD z AnyV) v w1)
    (hstep : AllFrom (StepL P ops Q (a.put oz.dst v) w1 Gr (List.replicate z AnyV ++ L2)) (z + 1) (ops.toList.drop (z + 1)))
    (hend : ∀ (vs : Nat → Value) w, Gr w1 w → AllFrom (fun i _ => ((List.replicate z AnyV ++ L2).getD i AnyV) (vs i) w) (z + 1) (ops.toList.drop (z + 1)) → Q .normal (putAll vs (z + 1) (ops.toList.drop (z + 1)) (a.put oz.dst v)) w) : TailOK P ops Q z (a.put oz.dst v) w1 := by
  refine tail_any z L2 hB hL oz hoz v (fun d hd => ?_) hv hstep hend
  have hlt : z < ops.size := by
    rcases Nat.lt_or_ge z ops.size with h | h
    · exact h
    · rw [Array.getElem?_eq_none h] at hoz; cases hoz
  have h1 := List.all_eq_true.1 hB z (by simpa using hlt)
  rw [hoz] at h1
  simp only [Bool.and_eq_true, hd, decide_eq_true_eq, put_size] at h1
  rw [hd]
  exact put_at _ _ _ h1.1.2
/-- The one operation that turns memory: a call. -/
theorem wpOp_callR {i : Nat} {o : Oper} {a : Act} {w : World} {K : Act → World → Prop} (hi : ops[i]? = some o) (hg : o.guard = none) (f : FuncId) (args : Array Value) (hrun : (execOp a.eval o).run P w = .ok (.enter f args) w)
    (hc : Calls P f args w fun e w' => ∃ v, e = .returned v ∧ K (a.put o.dst v) w') : wpOp P ops Q i K a w := by
  have hw : Region.wanted o (yielded ops a.tmps) = true := by simp [Region.wanted, hg]
  unfold wpOp
  simp only [hi, hw, if_true, Oper.wp, hrun, Oper.upon]
  refine .inl (hc.mono ?_)
  rintro e w' ⟨v, rfl, h⟩
  exact h
end
end Go.Proofs.YteckblffpidigaaGreatDoor
/- Draws and new blocks alone, exactly: the world between two steps of a sort. No condition. -/
namespace Go.Proofs.YteckblffpidigaaGreatDoor
open Go.RowKit
/-- Draws and new blocks, nothing else. -/
def GG (w w' : World) : Prop := ∃ (q : Nat) (os : Array Obj), w' = Go.Sort.grow (w.drewN q) os
theorem GG.refl (w : World) : GG w w := ⟨0, #[], by rw [Go.Sort.grow_empty]; rfl⟩
theorem GG.drew (w : World) : GG w w.drew := ⟨1, #[], by rw [Go.Sort.grow_empty]; rfl⟩
theorem GG.alloc (w : World) (o : Obj) : GG w (w.alloc o) := ⟨0, #[o], by rw [Go.Sort.alloc_eq_grow]; rfl⟩
theorem GG.gr {w w' : World} (h : GG w w') : Gr w w' := by
  obtain ⟨q, os, rfl⟩ := h
  refine ⟨rfl, rfl, rfl, by simp [Go.Sort.grow, World.drewN], fun k hk => ?_⟩
  simp only [Go.Sort.grow, World.drewN]
  rw [Array.getElem?_append_left hk]
theorem GG.trans {a b c : World} (h : GG a b) (k : GG b c) : GG a c := by
  obtain ⟨q, os, rfl⟩ := h
  obtain ⟨q2, os2, rfl⟩ := k
  refine ⟨q + q2, os ++ os2, ?_⟩
  simp [Go.Sort.grow, World.drewN, Array.append_assoc, Nat.add_assoc]
section
variable {P : Program} {ops : Array Oper} {Q : Exit → Act → World → Prop} {L : List (Value → World → Prop)} {i : Nat} {o : Oper} {a : Act} {w : World} {G : World → World → Prop}
theorem gg_val (hi : ops[i]? = some o) (hg : o.guard = none) (v : Value) (w' : World) (hrun : (execOp a.eval o).run P w = .ok (.value v) w') (hφ : (L.getD i AnyV) v w') (hG : G w w') : wpOp P ops Q i (fun a' w' => ∃ v, a' = a.put o.dst v ∧ (L.getD i AnyV) v w' ∧ G w w') a w := by
  have hw : Region.wanted o (yielded ops a.tmps) = true := by simp [Region.wanted, hg]
  unfold wpOp
  simp only [hi, hw, if_true, Oper.wp, hrun, Oper.upon]
  exact .inl ⟨v, rfl, hφ, hG⟩
theorem gg_call (hi : ops[i]? = some o) (hg : o.guard = none) (f : FuncId) (args : Array Value) (hrun : (execOp a.eval o).run P w = .ok (.enter f args) w) (v : Value)
    (hc : Calls P f args w fun e w' => e = .returned v ∧ w = w') (hφ : (L.getD i AnyV) v w) (hG : G w w) : wpOp P ops Q i (fun a' w' => ∃ v, a' = a.put o.dst v ∧ (L.getD i AnyV) v w' ∧ G w w') a w :=
  wpOp_callR hi hg f args hrun (hc.mono fun _ _ ⟨he, hw⟩ => ⟨v, he, v, rfl, hw ▸ hφ, hw ▸ hG⟩)
end
end Go.Proofs.YteckblffpidigaaGreatDoor
/- Records that are built of parts, one of which is a row that is not known cell by cell. No condition. -/
namespace Go.Proofs.YteckblffpidigaaGreatDoor
open Go.RowKit
theorem set_part (off : Nat) : ∀ (cs : List Value) (i : Nat) (C : Array Value), off + i + cs.length ≤ C.size →
    ((cs.zipIdx i).foldl (fun (C : Array Value) p => C.setIfInBounds (off + p.2) p.1) C).toList = C.toList.take (off + i) ++ cs ++ C.toList.drop (off + i + cs.length)
  | [], i, C, h => by simp
  | c :: cs, i, C, h => by
    rw [List.zipIdx_cons, List.foldl_cons, set_part off cs (i + 1) _ (by simp at h ⊢; omega)]
    have hl : off + i < C.toList.length := by simp at h ⊢; omega
    simp only [Array.toList_setIfInBounds, List.length_cons]
    rw [show off + (i + 1) + cs.length = off + i + (cs.length + 1) by omega, List.drop_set_of_lt (by omega), show off + (i + 1) = off + i + 1 by omega, List.take_add_one, List.take_set_of_le (by omega), List.getElem?_set_self hl]
    simp
/-- One part, laid into its place. -/
theorem fill_step (place : Nat → Option (Nat × Nat)) (C : Array Value) (i : Nat) (v : Value) (cs : List Value) (off : Nat) (hp : place i = some (off, cs.length)) (hv : v.cells = cs.toArray) (rest : List (Nat × Value)) (h : off + cs.length ≤ C.size) :
    Instr.fill place C ((i, v) :: rest) = Instr.fill place (C.toList.take off ++ cs ++ C.toList.drop (off + cs.length)).toArray rest := by
  have h1 := set_part off cs 0 C (by omega)
  simp only [Nat.add_zero] at h1
  have h2 : (cs.toArray.zipIdx.foldl (fun (C : Array Value) (x : Value × Nat) => C.setIfInBounds (off + x.2) x.1) C) = (C.toList.take off ++ cs ++ C.toList.drop (off + cs.length)).toArray := by
    rw [← h1, ← Array.foldl_toList]
    simp
  rw [Instr.fill]
  simp only [hp, hv]
  rw [if_neg (by simp; omega)]
  exact congrArg (fun x => Instr.fill place x rest) h2
end Go.Proofs.YteckblffpidigaaGreatDoor
/- A record of a word and an array of bytes, opened. No condition. -/
namespace Go.Proofs.YteckblffpidigaaGreatDoor
open Go.ChangeShapes Go.WideShapes Go.ChangeAt Go.RowKit
section
variable {P : Program} {H : Type} {enc : TypeId × Value → H} {w : World} {base : Nat} {spare : Nat → Bool} {held : Bool}
theorem open_cells {t e : TypeId} {n fuel : Nat} {cs : List Value} {x : DataW H × List MemPlace} (ht : P.underlying t = some (.array n e)) (he : P.underlying e = some (.int .u8)) (hc : P.cellsOf e = 1)
    (hf : DataW.trod enc P w base spare held fuel t cs = some x) (hl : cs.length = n) : ∃ l : List UInt8, l.length = n ∧ cs = u8s l := by
  obtain ⟨xs, m, _, _, _, hn, hel⟩ := DataW.trod_array ht hf
  simp only [hc, Nat.mul_one] at hel
  have hel2 : ∀ i, i < n → ∃ z, cs[i]? = some (.int .u8 z) ∧ (Lit.int .u8 z).wf = true := by
    intro i hi
    have h1 := hel i hi
    rw [List.getElem?_eq_getElem (by omega)] at h1
    obtain ⟨z, h2, _, h4⟩ := DataW.trod_int he h1
    refine ⟨z, ?_, h4⟩
    have h5 : ((cs.drop i).take 1)[0]? = some (.int .u8 z) := by rw [h2]; rfl
    rw [List.getElem?_take, if_pos (by omega), List.getElem?_drop] at h5
    simpa using h5
  have e1 : cs = ((List.range n).map fun i => intOf (cs[i]?.getD undef)).map (Value.int .u8) := by
    apply List.ext_getElem?
    intro i
    by_cases hi : i < n
    · obtain ⟨z, hz, _⟩ := hel2 i hi
      simp [hi, hz, intOf]
    · rw [List.getElem?_eq_none (by omega), List.getElem?_eq_none (by simp; omega)]
  obtain ⟨l, h1, h2⟩ := bytes_of_wf ((List.range n).map fun i => intOf (cs[i]?.getD undef)) (fun z hz => by
    rw [List.mem_map] at hz
    obtain ⟨i, hi, rfl⟩ := hz
    obtain ⟨z, hz, hw⟩ := hel2 i (by simpa using hi)
    rw [hz]; exact hw)
  refine ⟨l, by rw [h2]; simp, ?_⟩
  rw [← h1]; exact e1
theorem open_at {r : Reach} {b0 : Nat} {t e : TypeId} {n : Nat} {f0 f1 : Field} {v : Value} {d : DataW H} {p : List MemPlace} (ht : P.underlying t = some (.struct #[f0, f1])) (o0 : f0.offset = 0) (o1 : f1.offset = 1)
    (u0 : P.underlying f0.type = some (.int .u32)) (u1 : P.underlying f1.type = some (.array n e)) (he : P.underlying e = some (.int .u8)) (hc : P.cellsOf e = 1) (c0 : P.cellsOf f0.type = 1) (c1 : P.cellsOf f1.type = n) (cT : P.cellsOf t = n + 1)
    (hv : Value.okWide P w r b0 t v) (h : DataW.Trod enc P w base spare held t v d p) :
    ∃ (x : UInt32) (l : List UInt8), l.length = n ∧ v = .agg (.int .u32 (x.toNat : Int) :: u8s l).toArray := by
  obtain ⟨cs, rfl, hsz⟩ := okWide_struct ht hv
  obtain ⟨fuel, hf⟩ := h
  obtain ⟨y0, y1, m, _, hl, h0, h1⟩ := trod_struct2 ht hf
  simp only [Value.cells, o0, o1, c0, c1, List.drop_zero] at hl h0 h1
  obtain ⟨z, h2, _, h4⟩ := DataW.trod_int u0 h0
  obtain ⟨x, rfl⟩ := u32_of_wf h4
  have hlen : cs.toList.length = n + 1 := by rw [Array.length_toList, hsz, cT]
  obtain ⟨l, h5, h6⟩ := open_cells u1 he hc h1 (by simp [hsz, cT])
  refine ⟨x, l, h5, ?_⟩
  congr 1
  apply Array.ext'
  have h7 : cs.toList = cs.toList.take 1 ++ (cs.toList.drop 1).take n := by
    rw [List.take_of_length_le (l := cs.toList.drop 1) (by simp [hsz, cT]), List.take_append_drop]
  rw [h7, h2, h6]
  rfl
end
end Go.Proofs.YteckblffpidigaaGreatDoor
/- Numbers bent into a range, operation by operation. No condition. -/
namespace Go.Proofs.YteckblffpidigaaGreatDoor
open Go.RowKit
section
variable {P : Program} {ev : Operand → Value} {d : Option Tmp} {t S T U : TypeId} {p : String} {af : Array Edge} {gd : Option (Nat × Bool)} {w : World} {x y : Operand}
theorem run_toU (hs : P.underlying S = some (.int .i64)) (hd : P.underlying T = some (.int .u64)) {z : Int} (h1 : ev x = .int .i64 z) : (execOp ev ⟨d, .convert S T x, t, p, af, gd⟩).run P w = .ok (.value (.int .u64 (IntKind.u64.wrap z))) w := by
  simp only [execOp, h1]
  go_simp
theorem run_remU {a : Int} {m : Nat} (hm : 0 < m) (h1 : ev x = .int .u64 a) (h2 : ev y = .int .u64 (m : Int)) : (execOp ev ⟨d, .binOp .rem T x y U, t, p, af, gd⟩).run P w = .ok (.value (.int .u64 (a.tmod m))) w := by
  simp only [execOp, h1, h2]
  go_simp
  omega
theorem run_toI (hs : P.underlying S = some (.int .u64)) (hd : P.underlying T = some (.int .i64)) {a : Int} {i : Nat} (h : wrap64 a = (i : Int)) (h1 : ev x = .int .u64 a) : (execOp ev ⟨d, .convert S T x, t, p, af, gd⟩).run P w = .ok (.value (.int .i64 (i : Int))) w := by
  simp only [execOp, h1]
  go_simp
  rw [IntKind.wrap_i64]
  unfold wrap64 at h
  exact h
theorem run_toN (hs : P.underlying S = some (.int .i64)) (hd : P.underlying T = some (.int .u64)) {n : Nat} (hn : n < 18446744073709551616) (h1 : ev x = .int .i64 (n : Int)) : (execOp ev ⟨d, .convert S T x, t, p, af, gd⟩).run P w = .ok (.value (.int .u64 (n : Int))) w := by
  rw [run_toU hs hd h1, IntKind.wrap_u64, Int.emod_eq_of_lt (by omega) (by omega)]
theorem run_addC {a b : Nat} (h1 : ev x = .int .i64 (a : Int)) (h2 : ev y = .int .i64 (b : Int)) (hl : a + b ≤ 9223372036854775807) : (execOp ev ⟨d, .binOp .add T x y U, t, p, af, gd⟩).run P w = .ok (.value (.int .i64 ((a + b : Nat) : Int))) w := by
  simp only [execOp, h1, h2]
  go_simp
  exact IntWalk.i64_in _ (by omega)
theorem run_idxRow {g n c k : Nat} (h1 : ev x = .slice (some ⟨g, 0, none⟩) n c) (h2 : ev y = .int .i64 (k : Int)) (hk : k < n) :
    (execOp ev ⟨d, .indexAddr 31 x y, t, p, af, gd⟩).run Tryz.prog w = .ok (.value (.pointer (some ⟨g, k, none⟩))) w := by
  have := run_idxSl (P := Tryz.prog) (d := d) (t := t) (p := p) (af := af) (gd := gd) (w := w) Tryz.underlying31 (by kernel_rfl) h1 h2 hk
  rw [this, add_row, Nat.zero_add]
theorem run_xor8 {a b : UInt8} (h1 : ev x = .int .u8 a.toNat) (h2 : ev y = .int .u8 b.toNat) :
    (execOp ev ⟨d, .binOp .xor T x y U, t, p, af, gd⟩).run P w = .ok (.value (.int .u8 ((a ^^^ b).toNat : Int))) w := by
  simp only [execOp, h1, h2]
  go_simp
  exact u8_xor_nat _ _ a.toNat_lt b.toNat_lt
end
theorem wpList_setA {P : Program} {w : World} {g : Nat} {t : TypeId} {cs : List Value} {ops : Array Oper} {rest : List Oper} {op : Oper} {a : Act} {Q : Exit → Act → World → Prop} (h : Arr w g t cs) (hgd : op.guard = none) (ty : TypeId) (x y : Operand) (ho : op.op = .store ty x y)
    (hT : (P.info? ty).map (·.size) = some 1) (i : Nat) (kd : IntKind) (z : Int) (hx : a.eval x = .pointer (some ⟨g, i, none⟩)) (hy : a.eval y = .int kd z) (hi : i < cs.length)
    (hK : ∀ w2, Arr w2 g t (cs.set i (.int kd z)) → Below g w w2 → (∀ g' t' cs', g' ≠ g → Arr w g' t' cs' → Arr w2 g' t' cs') → wpList P ops Q rest (a.put op.dst undef) w2) : wpList P ops Q (op :: rest) a w := by
  refine wpList_plain hgd fun K hKK => ?_
  unfold Oper.wp
  obtain ⟨dst, o, tt, ps, af, gd⟩ := op
  simp only at ho
  subst ho
  rw [run_store1 hT hx hy (by rw [h.cell (List.getElem?_eq_getElem hi)]; rfl) (h.frozen i)]
  exact hKK _ _ (hK _ (h.set i _) (below_setCell (Nat.le_refl _)) (fun g' t' cs' hne hA => hA.other hne _))
theorem own_arr {w : World} {base : Nat} {e : TypeId} {n : Nat} {v : Value} {xs : List Value} (h : w.ownsRow base e 1 v n xs) (hn : 0 < n) : ∃ g c cs, v = .slice (some ⟨g, 0, none⟩) n c ∧ base ≤ g ∧ n ≤ c ∧ cs.length = c ∧ Arr w g e cs ∧ cs.take n = xs := by
  rcases h.2 with ⟨_, e2⟩ | ⟨g, cap, cur, e1, h1, h2, h3, _, h5, h6⟩
  · omega
  · exact ⟨g, cap, cur.toList, e1, h1, h3, by simpa using h5, by show w.heap[g]? = _; simpa using h2, by simpa using h6⟩
theorem Arr.rdTake {w : World} {g : Nat} {t : TypeId} {cs xs : List Value} {n : Nat} (h : Arr w g t cs) (hn : n ≤ cs.length) (hx : cs.take n = xs) : Rd w (some ⟨g, 0, none⟩) n xs := by
  have := h.rd 0 n (by omega)
  rwa [List.drop_zero, hx] at this
end Go.Proofs.YteckblffpidigaaGreatDoor
/- Slices whose spare room may be written, wherever they lie: append onto them, whatever comes. No condition. -/
namespace Go.Proofs.YteckblffpidigaaGreatDoor
open Go.RowKit
/-- At A n places (of c) that read xs; what is behind them may be written; none of it lies below base. -/
structure OwnG (w : World) (base : Nat) (A : Option Addr) (n c : Nat) (xs : List Value) : Prop where
  le : n ≤ c
  max : c ≤ maxLen
  nil : A = none → c = 0
  rd : Rd w A n xs
  plain : ∀ ad, A = some ad → ad.spot = none ∧ base ≤ ad.block
  room : ∀ ad, A = some ad → ∀ j, n ≤ j → j < c → (w.cell? ⟨ad.block, ad.off + j, none⟩).isSome = true ∧ w.frozen? ⟨ad.block, ad.off + j, none⟩ = false
section
variable {w w' : World} {base : Nat} {A : Option Addr} {n c : Nat} {xs : List Value}
theorem OwnG.keep (h : OwnG w base A n c xs) (hk : ∀ p : Addr, p.block < w.heap.size → (∀ ad, A = some ad → p.block = ad.block) → w'.cell? p = w.cell? p ∧ w'.frozen? p = w.frozen? p) : OwnG w' base A n c xs := by
  refine ⟨h.le, h.max, h.nil, h.rd.keep (fun p hp he => (hk p hp he).1), h.plain, fun ad e j h1 h2 => ?_⟩
  obtain ⟨h3, h4⟩ := h.room ad e j h1 h2
  obtain ⟨v, hv⟩ := Option.isSome_iff_exists.1 h3
  have := hk ⟨ad.block, ad.off + j, none⟩ (lt_of_cell hv) (fun ad' e' => by rw [e] at e'; injection e' with e'; rw [e'])
  rw [this.1, this.2]
  exact ⟨h3, h4⟩
theorem OwnG.gr (h : OwnG w base A n c xs) (hG : Gr w w') : OwnG w' base A n c xs := h.keep fun _ hp _ => ⟨Below.cell hG hp, Below.frozen hG hp⟩
theorem OwnG.blocks (h : OwnG w base A n c xs) (hb : ∀ k, k < w.heap.size → (∀ ad, A = some ad → k = ad.block) → w'.heap[k]? = w.heap[k]?) : OwnG w' base A n c xs :=
  h.keep fun _ hp he => ⟨World.cell?_of_block (hb _ hp he), World.frozen?_of_block (hb _ hp he)⟩
theorem OwnG.base_le (h : OwnG w base A n c xs) {b : Nat} (hb : b ≤ base) : OwnG w b A n c xs := ⟨h.le, h.max, h.nil, h.rd, fun ad e => ⟨(h.plain ad e).1, Nat.le_trans hb (h.plain ad e).2⟩, h.room⟩
theorem OwnG.lt (h : OwnG w base A n c xs) (hc : 0 < c) : ∃ ad, A = some ad ∧ ad.block < w.heap.size := by
  rcases A with _ | ad
  · have := h.nil rfl; omega
  · refine ⟨ad, rfl, ?_⟩
    rcases Nat.eq_zero_or_pos n with h0 | h0
    · obtain ⟨v, hv⟩ := Option.isSome_iff_exists.1 (h.room ad rfl 0 (by omega) hc).1
      exact lt_of_cell (a := ⟨ad.block, ad.off + 0, none⟩) hv
    · obtain ⟨ad', u, e, _, hu⟩ := h.rd.at_ h0
      injection e with e
      subst e
      have := lt_of_cell hu
      rwa [add_block] at this
theorem OwnG.of_own {e : TypeId} {v : Value} (h : w.ownsRow base e 1 v n xs) : ∃ A c, v = .slice A n c ∧ OwnG w base A n c xs := by
  rcases h.2 with ⟨rfl, rfl⟩ | ⟨g, cap, cur, rfl, hb, hg, hc, hm, hs, ht⟩
  · have hx : xs = [] := List.eq_nil_of_length_eq_zero (by simpa using h.1)
    subst hx
    exact ⟨none, 0, rfl, Nat.le_refl _, by unfold maxLen; omega, fun _ => rfl, Rd.nil _ _, fun ad e => by (cases e), fun ad e => by (cases e)⟩
  · refine ⟨_, cap, rfl, hc, hm, fun e => by (cases e), Rd.of_own h, fun ad e => ?_, fun ad e j h1 h2 => ?_⟩
    · injection e with e; subst e; exact ⟨rfl, hb⟩
    · injection e with e; subst e
      simp only [Nat.zero_add]
      refine ⟨?_, frozen_of_row w g _ cur _ hg⟩
      rw [cell_of_row w g _ cur _ _ hg]
      simp
      omega
theorem OwnG.nilAt (w : World) (base : Nat) : OwnG w base none 0 0 [] := ⟨Nat.le_refl _, by unfold maxLen; omega, fun _ => rfl, Rd.nil _ _, fun ad e => by (cases e), fun ad e => by (cases e)⟩
theorem OwnG.slice (h : OwnG w base A n c xs) : Rd w A n xs := h.rd
end
theorem setCells_heap_other {b k : Nat} : ∀ (vs : List Value) (w : World) (o : Nat), k ≠ b → (w.setCells b o vs).heap[k]? = w.heap[k]?
  | [], _, _, _ => rfl
  | v :: r, w, o, h => by
    rw [World.setCells, setCells_heap_other r _ (o + 1) h]
    exact heap_setCell_other w ⟨b, o, none⟩ k v h
/-- All blocks but the slice's own are as they were. -/
def ButA (w w' : World) (A : Option Addr) : Prop := ∀ k, k < w.heap.size → (∀ ad, A = some ad → k ≠ ad.block) → w'.heap[k]? = w.heap[k]?
section
variable {P : Program} {w : World} {base : Nat} {A : Option Addr} {n c m : Nat} {xs news : List Value}
theorem run_appG (t tx ty e : TypeId) (i : TypeInfo) (z : Value) (ht : P.underlying t = some (.slice e)) (hi : P.info? e = some i) (hz : i.zero = some z) (hs1 : i.size = 1) (hb1 : i.bytes ≤ 64) (hzs : z.cells.size = 1)
    (h : OwnG w base A n c xs) (x : Value) (hs : Src P 1 tx x m news w) (hnm : n + m ≤ 1000000000) (hbase : base ≤ w.heap.size) :
    ∃ A' c' w', (Builtin.append_ #[t, tx] ty #[.slice A n c, x]).run P w = .ok (.slice A' (n + m) c') w' ∧ OwnG w' base A' (n + m) c' (xs ++ news) ∧ Below base w w' ∧ ButA w w' A ∧ (A' = A ∨ ∃ ad, A' = some ad ∧ w.heap.size ≤ ad.block) := by
  have hl := hs.newsLen
  rw [Nat.mul_one] at hl
  have hs' : Src P i.size tx x m news w := by rw [hs1]; exact hs
  rcases Nat.eq_zero_or_pos m with h0 | h0
  · subst h0
    have hn : news = [] := List.eq_nil_of_length_eq_zero hl
    subst hn
    exact ⟨A, c, w, run_append_nothing w t tx ty e i ht hi A n c h.le x hs', by simpa using h, Below.refl _ _, fun _ _ _ => rfl, .inl rfl⟩
  · by_cases hroom : n + m ≤ c
    · rcases A with _ | ⟨b, off, sp⟩
      · have := h.nil rfl; omega
      · obtain ⟨hsp, hbb⟩ := h.plain _ rfl
        simp only at hsp hbb
        subst hsp
        have hr := fun j h1 h2 => h.room _ rfl j h1 h2
        simp only at hr
        have hrun := run_append_room_src (P := P) w t tx ty e i ht hi b off n c x m news hs' hroom
          (fun j hj => by rw [hs1, Nat.mul_one, Nat.add_assoc]; exact (hr (n + j) (by omega) (by omega)).1) (fun j hj => by rw [hs1, Nat.mul_one, Nat.add_assoc]; exact (hr (n + j) (by omega) (by omega)).2)
        rw [hs1, Nat.mul_one] at hrun
        refine ⟨_, c, _, hrun, ⟨hroom, h.max, fun e => by (cases e), ⟨by rw [List.length_append, h.rd.1, hl], fun j u hu => ⟨_, rfl, ?_⟩⟩, h.plain, fun ad e j h1 h2 => ?_⟩, below_setCells hbb _ _ _, fun k _ hk => ?_, .inl rfl⟩
        · rw [add_row]
          rcases Nat.lt_or_ge j n with hj | hj
          · rw [List.getElem?_append_left (by rw [h.rd.1]; exact hj)] at hu
            obtain ⟨ad, e, hc⟩ := h.rd.2 j u hu
            injection e with e
            subst e
            rw [add_row] at hc
            rw [World.cell?_setCells_out b news (off + n) w _ (fun _ _ => .inl (by simp only; omega))]
            exact hc
          · rw [List.getElem?_append_right (by rw [h.rd.1]; exact hj), h.rd.1] at hu
            have hjl : j - n < news.length := by
              rcases Nat.lt_or_ge (j - n) news.length with h' | h'
              · exact h'
              · rw [List.getElem?_eq_none h'] at hu; cases hu
            have hin := World.cell?_setCells_in b news (off + n) w (fun i hi => by rw [Nat.add_assoc]; exact (hr (n + i) (by omega) (by omega)).1) (j - n) hjl
            rw [show off + n + (j - n) = off + j by omega] at hin
            rw [hin]
            rw [List.getElem?_eq_getElem hjl] at hu
            exact hu
        · injection e with e
          subst e
          obtain ⟨h3, h4⟩ := hr j (by omega) h2
          exact ⟨World.isSome_setCells b news (off + n) w _ h3, by rw [World.frozen?_setCells]; exact h4⟩
        · have hne : k ≠ b := hk _ rfl
          exact setCells_heap_other news w (off + n) hne
    · have hold : (Builtin.firstCells i.size n (.slice A n c)).run P w.drew = .ok xs.toArray w.drew := by
        rcases A with _ | ad
        · have := h.nil rfl
          have hn0 : n = 0 := by have := h.le; omega
          have hx : xs = [] := List.eq_nil_of_length_eq_zero (by rw [h.rd.1]; exact hn0)
          rw [hx]
          exact run_firstCells_none w.drew i.size n n c
        · refine run_firstCells_some w.drew i.size n ad n c xs (by rw [hs1, Nat.mul_one]; exact h.rd.1) fun j v hv => ?_
          obtain ⟨ad', e, hc⟩ := h.rd.2 j v hv
          injection e with e
          subst e
          exact hc
      have hb : (n + m) * i.bytes ≤ 140737488355328 := Nat.le_trans (Nat.mul_le_mul hnm hb1) (by omega)
      have hrun := run_append_grow_src (P := P) w t tx ty e i z ht hi hz A n c xs hold x m news hs' (by omega) (by omega) (growslice_fits (by omega) hb)
      have hge := grownCap_ge w (n + m) c e
      have hmx := grownCap_le_maxLen w (n + m) c e (by unfold maxLen; omega)
      generalize grownCap w (n + m) c e = G at hrun hge hmx
      have hxl : (xs ++ news).length = n + m := by rw [List.length_append, h.rd.1, hl]
      obtain ⟨C, hC⟩ : ∃ C : Array Value, C = (xs ++ news).toArray ++ Builtin.zeroCells z.cells (G - (n + m)) := ⟨_, rfl⟩
      rw [← hC] at hrun
      have hCs : C.size = G := by rw [hC, Array.size_append, size_zeroCells, hzs]; simp only [List.size_toArray, hxl]; omega
      have hg : (w.drew.alloc (.cells C e)).heap[w.heap.size]? = some (.cells C e (0, 0)) := heap_alloc_new w.drew _
      refine ⟨_, G, _, hrun, ⟨hge, hmx, fun e => by (cases e), ?_, fun ad e => ?_, fun ad e j h1 h2 => ?_⟩, (Below.refl _ _).drew.alloc hbase _, fun k hk _ => heap_alloc_old w.drew _ hk, .inr ⟨_, rfl, Nat.le_refl _⟩⟩
      · have := Rd.of_row hg 0 (n + m) (by omega)
        have e : (C.toList.drop 0).take (n + m) = xs ++ news := by
          rw [List.drop_zero, hC, Array.toList_append, List.take_append_of_le_length (by simp only [hxl]; omega), List.take_of_length_le (by simp only [hxl]; omega)]
        rwa [e] at this
      · injection e with e; subst e; exact ⟨rfl, hbase⟩
      · injection e with e; subst e
        simp only [Nat.zero_add]
        refine ⟨?_, frozen_of_row _ _ _ C _ hg⟩
        rw [cell_of_row _ _ _ C _ _ hg]
        simp
        omega
theorem Src.ofRd {tx e' : TypeId} (hk : P.underlying tx = some (.slice e')) {A' : Option Addr} {c' : Nat} (hr : Rd w A' m news) (h1 : ∀ u ∈ news, u.oneCell' = true) : Src P 1 tx (.slice A' m c') m news w := by
  rcases Nat.eq_zero_or_pos m with h0 | h0
  · subst h0
    have hn : news = [] := List.eq_nil_of_length_eq_zero hr.1
    subst hn
    rcases A' with _ | ad
    · exact Src.ofNil w hk c'
    · exact Src.ofSlice w hk ad 0 c' [] rfl (fun j u h => by simp at h) h1
  · obtain ⟨ad, _, rfl, _, _⟩ := hr.at_ h0
    exact Src.ofSlice w hk ad m c' news (by rw [Nat.mul_one]; exact hr.1) (fun j u hu => by obtain ⟨ad', e, hc⟩ := hr.2 j u hu; injection e with e; subst e; exact hc) h1
theorem Src.ofStr {tx : TypeId} (hk : P.underlying tx = some .string) (l : List UInt8) (hl : l.length = m) : Src P 1 tx (.string ⟨l.toArray⟩) m (u8s l) w := by
  subst hl
  have h := Src.ofString (P := P) w hk ⟨l.toArray⟩
  have e1 : byteCells ⟨l.toArray⟩ = u8s l := by simp [byteCells, u8s]
  have e2 : (⟨l.toArray⟩ : ByteArray).size = l.length := rfl
  rwa [e1, e2] at h
/-- What an append leaves. -/
structure AppG (base : Nat) (w w' : World) (A A' : Option Addr) (n c' : Nat) (xs : List Value) : Prop where
  own : OwnG w' base A' n c' xs
  below : Below base w w'
  but : ButA w w' A
  lies : A' = A ∨ ∃ ad, A' = some ad ∧ w.heap.size ≤ ad.block
theorem AppG.other {w' : World} {A' : Option Addr} {c' : Nat} (h : AppG base w w' A A' n c' xs) {g : Nat} {t : TypeId} {cs : List Value} (ha : Arr w g t cs) (hne : ∀ ad, A = some ad → g ≠ ad.block) : Arr w' g t cs := by
  unfold Arr
  rw [h.but g ha.lt hne]
  exact ha
theorem wp_appG {o : Oper} {a : Act} {K : Act → World → Prop} {Q : Exit → Act → World → Prop} (s x : Operand) (t tx e : TypeId) (ho : o.op = .call { callee := .builtin .append, args := #[s, x], argTypes := #[t, tx] })
    (i : TypeInfo) (z : Value) (ht : P.underlying t = some (.slice e)) (hi : P.info? e = some i) (hz : i.zero = some z) (hs1 : i.size = 1) (hb1 : i.bytes ≤ 64) (hzs : z.cells.size = 1)
    (hs : a.eval s = .slice A n c) (h : OwnG w base A n c xs) (v : Value) (hx : a.eval x = v) (hv : Src P 1 tx v m news w) (hnm : n + m ≤ 1000000000) (hbase : base ≤ w.heap.size)
    (hK : ∀ A' c' w', AppG base w w' A A' (n + m) c' (xs ++ news) → K (a.put o.dst (.slice A' (n + m) c')) w') : o.wp P a w K Q := by
  obtain ⟨A', c', w', hrun, h1, h2, h3, h4⟩ := run_appG (P := P) t tx o.type e i z ht hi hz hs1 hb1 hzs h v hv hnm hbase
  unfold Oper.wp execOp
  simp only [ho, resolve, invoke, builtin, Sem.run_bind, Sem.run_pure, Result.andThen_ok, List.map_toArray, List.map_cons, List.map_nil, hs, hx, hrun]
  exact hK _ _ _ ⟨h1, h2, h3, h4⟩
theorem wpList_appG {ops : Array Oper} {rest : List Oper} {o : Oper} {a : Act} {Q : Exit → Act → World → Prop} (hgd : o.guard = none) (s x : Operand) (t tx e : TypeId) (ho : o.op = .call { callee := .builtin .append, args := #[s, x], argTypes := #[t, tx] })
    (i : TypeInfo) (z : Value) (ht : P.underlying t = some (.slice e)) (hi : P.info? e = some i) (hz : i.zero = some z) (hs1 : i.size = 1) (hb1 : i.bytes ≤ 64) (hzs : z.cells.size = 1)
    (hs : a.eval s = .slice A n c) (h : OwnG w base A n c xs) (v : Value) (hx : a.eval x = v) (hv : Src P 1 tx v m news w) (hnm : n + m ≤ 1000000000) (hbase : base ≤ w.heap.size)
    (hK : ∀ A' c' w', AppG base w w' A A' (n + m) c' (xs ++ news) → wpList P ops Q rest (a.put o.dst (.slice A' (n + m) c')) w') : wpList P ops Q (o :: rest) a w :=
  wpList_plain hgd fun _ hKK => wp_appG s x t tx e ho i z ht hi hz hs1 hb1 hzs hs h v hx hv hnm hbase fun A' c' w' hA => hKK _ _ (hK A' c' w' hA)
/-- The same, of one value in a block of its own. -/
theorem wpList_appG1 {ops : Array Oper} {rest : List Oper} {o : Oper} {a : Act} {Q : Exit → Act → World → Prop} (hgd : o.guard = none) (s x : Operand) (t e : TypeId) (ho : o.op = .call { callee := .builtin .append, args := #[s, x], argTypes := #[t, t] })
    (i : TypeInfo) (z : Value) (ht : P.underlying t = some (.slice e)) (hi : P.info? e = some i) (hz : i.zero = some z) (hs1 : i.size = 1) (hb1 : i.bytes ≤ 64) (hzs : z.cells.size = 1)
    (hs : a.eval s = .slice A n c) (h : OwnG w base A n c xs) (y u : Value) (hx : a.eval x = .slice (some ⟨w.heap.size, 0, none⟩) 1 1) (hy : y = u) (h1 : u.oneCell' = true) (hnm : n + 1 ≤ 1000000000) (hbase : base ≤ w.heap.size)
    (hK : ∀ A' c' w', AppG base w w' A A' (n + 1) c' (xs ++ [u]) → wpList P ops Q rest (a.put o.dst (.slice A' (n + 1) c')) w') : wpList P ops Q (o :: rest) a (w.alloc (.cells #[y] e)) := by
  subst hy
  refine wpList_appG (w := w.alloc (.cells #[y] e)) hgd s x t t e ho i z ht hi hz hs1 hb1 hzs hs (h.gr (Gr.alloc _ _)) _ hx (m := 1) (news := [y])
    (Src.ofRd ht ⟨rfl, fun j u hj => ⟨_, rfl, cell_one_new w y e j u hj⟩⟩ (by simpa using h1)) hnm (by simp; omega) fun A' c' w' hA => hK A' c' w' ⟨hA.own, ((Below.refl base w).alloc hbase _).trans hA.below, fun k hk hne => ?_, ?_⟩
  · rw [hA.but k (by simp; omega) hne]
    exact heap_alloc_old w _ hk
  · rcases hA.lies with e1 | ⟨ad, e1, hg⟩
    · exact .inl e1
    · exact .inr ⟨ad, e1, by simp at hg; omega⟩
end
/-- '[]byte(s)': its room may be written. -/
structure ConvO (P : Program) (src dst : TypeId) (l : List UInt8) (n : Nat) (cap : World → Nat) (W : World → World) (w : World) : Prop where
  run : (convert src dst (.string ⟨l.toArray⟩)).run P w = .ok (.slice (some ⟨w.heap.size, 0, none⟩) n (cap w)) (W w)
  own : OwnG (W w) w.heap.size (some ⟨w.heap.size, 0, none⟩) n (cap w) (u8s l)
  below : Below w.heap.size w (W w)
theorem conv_own {P : Program} (src dst e : TypeId) (l : List UInt8) (n : Nat) (hn : l.length = n) (hl : n ≤ 1000000000) (hs : P.underlying src = some .string) (hd : P.underlying dst = some (.slice e)) (he : P.underlying e = some (.int .u8)) :
    ∃ (cap : World → Nat) (W : World → World), ∀ w, ConvO P src dst l n cap W w := by
  subst hn
  refine ⟨fun w => grownCap w l.length 0 e, fun w => _, fun w => ⟨run_bytes_of_string w src dst e ⟨l.toArray⟩ hs hd he, ?_, ((Below.refl _ _).drew).alloc (Nat.le_refl _) _⟩⟩
  have e0 : (⟨l.toArray⟩ : ByteArray).size = l.length := rfl
  rw [e0]
  have hge := grownCap_ge w l.length 0 e
  have hmx := grownCap_le_maxLen w l.length 0 e (by unfold maxLen; omega)
  generalize grownCap w l.length 0 e = G at hge hmx
  have hsz : (bytesRow ⟨l.toArray⟩ G).size = G := by
    simp [bytesRow, ByteArray.size]
    omega
  have hg : (w.drew.alloc (.cells (bytesRow ⟨l.toArray⟩ G) e ((bytesRow ⟨l.toArray⟩ G).size, (bytesRow ⟨l.toArray⟩ G).size + 1))).heap[w.heap.size]? = some (.cells (bytesRow ⟨l.toArray⟩ G) e ((bytesRow ⟨l.toArray⟩ G).size, (bytesRow ⟨l.toArray⟩ G).size + 1)) := by
    show (w.heap.push _)[w.heap.size]? = _
    simp
  refine ⟨hge, hmx, fun e => by (cases e), ?_, fun ad e => ?_, fun ad e j h1 h2 => ?_⟩
  · have h := Rd.of_row hg 0 l.length (by rw [hsz]; omega)
    have e1 : ((bytesRow ⟨l.toArray⟩ G).toList.drop 0).take l.length = u8s l := by simp [bytesRow, u8s]
    rwa [e1] at h
  · injection e with e; subst e; exact ⟨rfl, Nat.le_refl _⟩
  · injection e with e; subst e
    simp only [Nat.zero_add]
    refine ⟨?_, ?_⟩
    · rw [cell_of_row _ _ _ _ _ _ hg]
      simp
      omega
    · unfold World.frozen?
      simp only [hg]
      simp
      omega
end Go.Proofs.YteckblffpidigaaGreatDoor
/- Blocks of the call's own, old ones (S) and such as were made since w0; all else as it was. No condition. -/
namespace Go.Proofs.YteckblffpidigaaGreatDoor
open Go.RowKit
structure MemW (S : List Nat) (w0 w : World) (L : List (Nat × TypeId × List Value)) : Prop where
  arr : ∀ x ∈ L, Arr w x.1 x.2.1 x.2.2
  dis : L.Pairwise fun a b => b.1 < a.1
  own : ∀ x ∈ L, x.1 ∈ S ∨ w0.heap.size ≤ x.1
  os : w.os = w0.os
  tape : w.tape = w0.tape
  output : w.output = w0.output
  size : w0.heap.size ≤ w.heap.size
  rest : ∀ k, k < w0.heap.size → k ∉ S → w.heap[k]? = w0.heap[k]?
section
variable {S : List Nat} {B g : Nat} {w0 w w' : World} {L : List (Nat × TypeId × List Value)} {t : TypeId} {cs : List Value}
theorem MemW.of_mem (h : Mem B w0 w L) : MemW (L.map (·.1)) w w L :=
  ⟨h.arr, h.dis, fun x hx => .inl (List.mem_map.2 ⟨x, hx, rfl⟩), rfl, rfl, rfl, Nat.le_refl _, fun _ _ _ => rfl⟩
theorem MemW.nil (w : World) : MemW [] w w [] := ⟨fun x h => by simp at h, List.Pairwise.nil, fun x h => by simp at h, rfl, rfl, rfl, Nat.le_refl _, fun _ _ _ => rfl⟩
theorem MemW.below (h : MemW S w0 w L) {B : Nat} (hS : ∀ k ∈ S, B ≤ k) (hB : B ≤ w0.heap.size) : Below B w0 w :=
  ⟨h.os, h.tape, h.output, h.size, fun k hk => h.rest k (by omega) fun hm => by have := hS k hm; omega⟩
theorem MemW.grow (h : MemW S w0 w L) (hS : S = []) : Gr w0 w := h.below (by rw [hS]; simp) (Nat.le_refl _)
theorem MemW.at_ (h : MemW S w0 w L) (k : Nat) (hk : L[k]? = some (g, t, cs)) : Arr w g t cs := h.arr _ (List.mem_of_getElem? hk)
theorem MemW.lt (h : MemW S w0 w L) (k : Nat) (hk : L[k]? = some (g, t, cs)) : g < w.heap.size := (h.at_ k hk).lt
theorem MemW.cell (h : MemW S w0 w L) {p : Addr} {v : Value} (hc : w0.cell? p = some v) (hp : p.block ∉ S) : w.cell? p = some v :=
  (World.cell?_of_block (h.rest _ (lt_of_cell hc) hp)).trans hc
theorem MemW.rd (h : MemW S w0 w L) {A : Option Addr} {n : Nat} {xs : List Value} (hr : Rd w0 A n xs) (hA : ∀ ad, A = some ad → ad.block ∉ S) : Rd w A n xs :=
  ⟨hr.1, fun i u hu => by
    obtain ⟨ad, e, hc⟩ := hr.2 i u hu
    exact ⟨ad, e, h.cell hc (by rw [add_block]; exact hA ad e)⟩⟩
theorem MemW.gr (h : MemW S w0 w L) (hG : Gr w w') : MemW S w0 w' L :=
  ⟨fun x hx => (h.arr x hx).gr hG, h.dis, h.own, hG.os.trans h.os, hG.tape.trans h.tape, hG.output.trans h.output, Nat.le_trans h.size hG.size,
    fun k hk hS => (hG.block k (Nat.lt_of_lt_of_le hk h.size)).trans (h.rest k hk hS)⟩
theorem Dr.gr (h : Dr w w') : Gr w w' := by obtain ⟨k, rfl⟩ := h; exact ⟨rfl, rfl, rfl, Nat.le_refl _, fun _ _ => rfl⟩
theorem MemW.dr (h : MemW S w0 w L) (hd : Dr w w') : MemW S w0 w' L := h.gr hd.gr
theorem MemW.cons (h : MemW S w0 w L) (hG : Gr w w') {n : Nat} (ha : Arr w' n t cs) (hn : w.heap.size ≤ n) : MemW S w0 w' ((n, t, cs) :: L) := by
  have h' := h.gr hG
  refine ⟨fun x hx => ?_, List.pairwise_cons.2 ⟨fun y hy => ?_, h.dis⟩, fun x hx => ?_, h'.os, h'.tape, h'.output, h'.size, h'.rest⟩
  · rcases List.mem_cons.1 hx with rfl | hx
    · exact ha
    · exact h'.arr x hx
  · exact Nat.lt_of_lt_of_le (h.arr y hy).lt hn
  · rcases List.mem_cons.1 hx with rfl | hx
    · exact .inr (Nat.le_trans h.size hn)
    · exact h.own x hx
theorem MemW.new (h : MemW S w0 w L) {C : Array Value} (hC : C.toList = cs) : MemW S w0 (w.alloc (.cells C t)) ((w.heap.size, t, cs) :: L) :=
  h.cons (Gr.alloc _ _) (Arr.newAt rfl hC) (Nat.le_refl _)
theorem MemW.drop1 {x : Nat × TypeId × List Value} (h : MemW S w0 w (x :: L)) : MemW S w0 w L :=
  ⟨fun y hy => h.arr y (List.mem_cons_of_mem _ hy), (List.pairwise_cons.1 h.dis).2, fun y hy => h.own y (List.mem_cons_of_mem _ hy), h.os, h.tape, h.output, h.size, h.rest⟩
theorem MemW.turn (h : MemW S w0 w L) (k : Nat) (hk : L[k]? = some (g, t, cs)) {cs' : List Value} (ha : Arr w' g t cs') (ho : ∀ k, k < w.heap.size → k ≠ g → w'.heap[k]? = w.heap[k]?)
    (hb : Below g w w') : MemW S w0 w' (L.set k (g, t, cs')) := by
  have hlt : k < L.length := by
    rcases Nat.lt_or_ge k L.length with h1 | h1
    · exact h1
    · rw [List.getElem?_eq_none h1] at hk; cases hk
  refine ⟨fun x hx => ?_, pairwise_set_ h.dis hk cs', fun x hx => ?_, hb.os.trans h.os, hb.tape.trans h.tape, hb.output.trans h.output, Nat.le_trans h.size hb.size, fun j hj hS => ?_⟩
  · obtain ⟨i, hi⟩ := List.mem_iff_getElem?.1 hx
    rw [List.getElem?_set] at hi
    split at hi
    · injection hi with hi
      subst hi
      exact ha
    · rename_i hne
      have hx' := h.arr x (List.mem_of_getElem? hi)
      unfold Arr
      rw [ho _ hx'.lt (fun e => ?_)]
      · exact hx'
      have hil : i < L.length := by
        rcases Nat.lt_or_ge i L.length with h1 | h1
        · exact h1
        · rw [List.getElem?_eq_none h1] at hi; cases hi
      have e1 : L[i] = x := by rw [List.getElem?_eq_getElem hil] at hi; injection hi
      have e2 : L[k] = (g, t, cs) := by rw [List.getElem?_eq_getElem hlt] at hk; injection hk
      have hp := List.pairwise_iff_getElem.1 h.dis
      rcases Nat.lt_or_ge i k with h1 | h1
      · have := hp i k hil hlt h1
        rw [e1, e2] at this
        exact absurd this (by simp only; omega)
      · have := hp k i hlt hil (by omega)
        rw [e1, e2] at this
        exact absurd this (by simp only; omega)
  · obtain ⟨i, hi⟩ := List.mem_iff_getElem?.1 hx
    rw [List.getElem?_set] at hi
    split at hi
    · injection hi with hi
      subst hi
      have h2 := h.own _ (List.mem_of_getElem? hk)
      exact h2
    · exact h.own x (List.mem_of_getElem? hi)
  · rw [ho j (Nat.lt_of_lt_of_le hj h.size) (fun e => ?_)]
    · exact h.rest j hj hS
    · rcases h.own _ (List.mem_of_getElem? hk) with h1 | h1
      · exact hS (e ▸ h1)
      · simp only at h1; omega
/-- One cell stored. -/
theorem MemW.set (h : MemW S w0 w L) (k : Nat) (hk : L[k]? = some (g, t, cs)) (i : Nat) (v : Value) : MemW S w0 (w.setCell ⟨g, i, none⟩ v) (L.set k (g, t, cs.set i v)) :=
  h.turn k hk ((h.at_ k hk).set i v) (fun j _ hne => heap_setCell_other w ⟨g, i, none⟩ j v hne) (below_setCell (Nat.le_refl _))
variable {P : Program}
theorem wpList_putW {ops : Array Oper} {rest : List Oper} {op : Oper} {a : Act} {Q : Exit → Act → World → Prop} (h : MemW S w0 w L) (k : Nat) (hk : L[k]? = some (g, t, cs)) (hgd : op.guard = none) (ty : TypeId) (x y : Operand) (ho : op.op = .store ty x y)
    (vs : List Value) (hx : a.eval x = .pointer (some ⟨g, 0, none⟩)) (hy : a.eval y = .agg vs.toArray) (hn : cs.length = vs.length)
    (hi : (P.info? ty).map (·.size) = some vs.length) (h1 : ∀ v ∈ vs, v.oneCell' = true)
    (K : ∀ w2, MemW S w0 w2 (L.set k (g, t, vs)) → wpList P ops Q rest (a.put op.dst undef) w2) : wpList P ops Q (op :: rest) a w := by
  have hA := h.at_ k hk
  refine wpList_store_mid hgd ty x y ho g 0 vs.toArray hx hy (by have := hA.there; rw [hn] at this; simpa using this) (by simpa using hi) (all_oneCell_toArray h1) ?_
  exact K _ (h.turn k hk (hA.setAll vs hn.symm) (fun j _ hne => setCells_heap_other vs w 0 hne) (below_setCells (Nat.le_refl _) _ _ _))
theorem wpList_newW {ops : Array Oper} {rest : List Oper} {op : Oper} {a : Act} {Q : Exit → Act → World → Prop} {C : Array Value} (h : MemW S w0 w L) (hgd : op.guard = none) (ty : TypeId) (x y : Operand) (ho : op.op = .store ty x y)
    (b : Nat) (vs : List Value) (hx : a.eval x = .pointer (some ⟨b, 0, none⟩)) (hy : a.eval y = .agg vs.toArray) (hb : b = w.heap.size) (hn : C.size = vs.length)
    (hi : (P.info? ty).map (·.size) = some vs.length) (h1 : ∀ v ∈ vs, v.oneCell' = true)
    (K : ∀ w2, MemW S w0 w2 ((b, t, vs) :: L) → Gr w w2 → wpList P ops Q rest (a.put op.dst undef) w2) : wpList P ops Q (op :: rest) a (w.alloc (.cells C t)) :=
  wpList_new hgd ty x y ho b vs hx hy hb hn hi h1 fun w2 h2 h3 => K w2 (h.cons h3 h2 (by omega)) h3
theorem wpList_setW {ops : Array Oper} {rest : List Oper} {op : Oper} {a : Act} {Q : Exit → Act → World → Prop} (h : MemW S w0 w L) (k : Nat) (hk : L[k]? = some (g, t, cs)) (hgd : op.guard = none) (ty : TypeId) (x y : Operand) (ho : op.op = .store ty x y)
    (hT : (P.info? ty).map (·.size) = some 1) (i : Nat) (kd : IntKind) (z : Int) (hx : a.eval x = .pointer (some ⟨g, i, none⟩)) (hy : a.eval y = .int kd z) (hi : i < cs.length)
    (hK : ∀ w2, MemW S w0 w2 (L.set k (g, t, cs.set i (.int kd z))) → wpList P ops Q rest (a.put op.dst undef) w2) : wpList P ops Q (op :: rest) a w := by
  refine wpList_plain hgd fun K hKK => ?_
  unfold Oper.wp
  obtain ⟨dst, o, tt, ps, af, gd⟩ := op
  simp only at ho
  subst ho
  rw [run_store1 hT hx hy (by rw [(h.at_ k hk).cell (List.getElem?_eq_getElem hi)]; rfl) ((h.at_ k hk).frozen i)]
  exact hKK _ _ (hK _ (h.set k hk i _))
/-- Two variables just made, the one behind the other. -/
theorem mem_two {w w1 : World} (hb : Gr w w1) {t1 t2 : TypeId} {C1 C2 : Array Value} {l1 l2 : List Value} (h1 : C1.toList = l1) (h2 : C2.toList = l2) :
    Mem w.heap.size w ((w1.alloc (.cells C1 t1)).alloc (.cells C2 t2)) [(w1.heap.size + 1, t2, l2), (w1.heap.size, t1, l1)] := by
  have h := (((Mem.nil w).gr (Nat.le_refl _) hb).new (t := t1) (Nat.le_refl _) h1).new (t := t2) (Nat.le_refl _) h2
  rw [asz] at h
  exact h
end
end Go.Proofs.YteckblffpidigaaGreatDoor
