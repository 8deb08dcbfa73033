/- Texts of one proof, laid as one: part 3. No condition. -/
import Derived.Maps.Keyed
import Derived.Maps.Own
import Derived.Maps.OwnSet
import Derived.Maps.Views
import Derived.DeepKeys4
import Derived.Deep.MidRow
import Derived.Lib.Bytealg
import Derived.Laws.ResultCell
import Derived.Laws.Tables
import Derived.Carry
import Derived.Shelf.SlSortCmp.WholeK
import Derived.Shelf.SlSortCmp.NoneTotal
import Derived.Test.YtjpphldojbfpfaaGreatDoorZf01
import Derived.Test.YtjpphldojbfpfaaGreatDoorZf02
namespace Go.Proofs.YtjpphldojbfpfaaGreatDoor
open Go.RowKit
open Go.Maps (Keyed)
theorem laidOutM : laidOutB Tryz.prog = true := by kernel_rfl
theorem keyedB : Keyed Tryz.prog 36 := Keyed.of_law (deep_law_laid laidOutM (m := 2) (by omega) (of_decide_eq_true (by kernel_rfl)) (by kernel_rfl) (by rw [Tryz.underlying36]))
def by32 (l : List UInt8) : Value := .agg (u8s l).toArray
theorem u8s_inj {a b : List UInt8} (h : u8s a = u8s b) : a = b := by
  unfold u8s at h; refine (List.map_inj_right ?_).1 h; intro x y e; simp only [Value.int.injEq, true_and] at e; exact UInt8.toNat_inj.1 (by omega)
theorem by32_inj {a b : List UInt8} (h : by32 a = by32 b) : a = b := by
  unfold by32 at h; injection h with h
  exact u8s_inj (by simpa using congrArg Array.toList h)
def keyL (k : List UInt8) : List Lit := k.map fun b => Lit.int .u8 (b.toNat : Int)
def kLit (k : List UInt8) : Lit := .string (keyBytes (keyL k))
theorem mapM_all {α β : Type} {f : α → Option β} {g : α → β} : ∀ {l : List α}, (∀ x ∈ l, f x = some (g x)) → l.mapM f = some (l.map g)
  | [], _ => rfl
  | x :: l, h => by
    rw [List.mapM_cons, h x (by simp), mapM_all (l := l) fun y hy => h y (by simp [hy])]; rfl
theorem mapM_each {α β : Type} {f : α → Option β} : ∀ {l : List α} {r : List β}, l.mapM f = some r → ∀ x ∈ l, ∃ y, f x = some y
  | [], _, _, x, hx => by cases hx
  | a :: l, r, h, x, hx => by
    rw [List.mapM_cons] at h; cases hf : f a with
    | none => rw [hf] at h; cases h
    | some y =>
      rw [hf] at h; cases hm : l.mapM f with
      | none => rw [hm] at h; cases h
      | some r' =>
        rcases List.mem_cons.1 hx with rfl | hx
        · exact ⟨y, hf⟩
        · exact mapM_each hm x hx
theorem lits_u8 (b : UInt8) (d : Nat) : Tryz.prog.keyLits (d + 1) 5 [.int .u8 (b.toNat : Int)] = some [.int .u8 (b.toNat : Int)] := by
  unfold Program.keyLits; rw [Tryz.underlying5]; have h := b.toNat_lt
  have hw : (Lit.int .u8 (b.toNat : Int)).wf = true := by
    simp [Lit.wf, IntKind.min, IntKind.max, IntKind.signed, IntKind.bits]; omega
  simp [hw]
theorem cutOne {α : Type} {l : List α} {i : Nat} {x : α} (h : l[i]? = some x) : (l.drop (i * 1)).take 1 = [x] := by
  rw [Nat.mul_one]; obtain ⟨hl, he⟩ := List.getElem?_eq_some_iff.1 h; rw [List.drop_eq_getElem_cons hl, he]; rfl
theorem flat_one {α β : Type} (f : α → β) : ∀ l : List α, (l.map fun i => [f i]).flatten = l.map f
  | [] => rfl
  | x :: l => by
    rw [List.map_cons, List.flatten_cons, flat_one f l]; rfl
set_option maxRecDepth 100000 in
theorem lits_blind {k : List UInt8} (hk : k.length = 32) (d : Nat) : Tryz.prog.keyLits (d + 2) 36 (u8s k) = some (keyL k) := by
  have hc : Tryz.prog.cellsOf 36 = 32 := by kernel_rfl
  have hc1 : Tryz.prog.cellsOf 5 = 1 := by kernel_rfl
  unfold Program.keyLits; rw [Tryz.underlying36]; simp only [hc, hc1, u8s_length, hk, if_true]
  have hm := mapM_all (f := fun i => Tryz.prog.keyLits (d + 1) 5 (((u8s k).drop (i * 1)).take 1)) (g := fun i => [Lit.int .u8 ((k.getD i 0).toNat : Int)]) (l := List.range 32) (fun i hi => by
    have hi' : i < k.length := by rw [hk]; simpa using hi
    have h1 : (u8s k)[i]? = some (.int .u8 ((k.getD i 0).toNat : Int)) := u8s_at (by rw [List.getD_eq_getElem?_getD, List.getElem?_eq_getElem hi']; rfl); rw [cutOne h1]; exact lits_u8 _ d)
  rw [hm]; simp only [Option.map_some, Option.some.injEq]; unfold keyL; apply List.ext_getElem?
  intro i
  rw [show (List.map (fun i => [Lit.int .u8 ((k.getD i 0).toNat : Int)]) (List.range 32)).flatten = (List.range 32).map fun i => Lit.int .u8 ((k.getD i 0).toNat : Int) by
    exact flat_one _ _]
  rw [List.getElem?_map, List.getElem?_map]; rcases Nat.lt_or_ge i 32 with h | h
  · rw [List.getElem?_range h, List.getElem?_eq_getElem (show i < k.length by omega)]; show some (Lit.int .u8 ((k.getD i 0).toNat : Int)) = _; rw [List.getD_eq_getElem?_getD, List.getElem?_eq_getElem (show i < k.length by omega)]; rfl
  · rw [List.getElem?_eq_none (by simp; omega), List.getElem?_eq_none (by omega)]; rfl
set_option maxRecDepth 100000 in
theorem keyOf_blind {k : List UInt8} (hk : k.length = 32) : keyOf Tryz.prog 36 (by32 k) = some (kLit k) := by
  have hkt : Tryz.prog.keyType 36 = true := by kernel_rfl
  have hc : Tryz.prog.cellsOf 36 = 32 := by kernel_rfl
  obtain ⟨D, hD⟩ : ∃ D, Tryz.prog.types.size + 1 = D + 2 := ⟨Tryz.prog.types.size - 1, by have : 1 ≤ Tryz.prog.types.size := of_decide_eq_true (by kernel_rfl); omega⟩; have hf : (by32 k).formed Tryz.prog 36 = true := by simp [by32, Value.formed, Tryz.underlying36, hc, hk]
  unfold keyOf; rw [Tryz.underlying36]; simp only [hkt, hf, hD, Bool.and_self, if_true]; have h := lits_blind hk D; show Option.map _ (Tryz.prog.keyLits (D + 2) 36 (by32 k).cells.toList) = _; rw [show (by32 k).cells.toList = u8s k by simp [by32, Value.cells], h]; rfl
set_option maxRecDepth 100000 in
theorem keyOf_blind_inv {v : Value} {kl : Lit} (h : keyOf Tryz.prog 36 v = some kl) : ∃ k : List UInt8, k.length = 32 ∧ v = by32 k ∧ kl = kLit k := by
  have hc : Tryz.prog.cellsOf 36 = 32 := by kernel_rfl
  have hc1 : Tryz.prog.cellsOf 5 = 1 := by kernel_rfl
  obtain ⟨D, hD⟩ : ∃ D, Tryz.prog.types.size + 1 = D + 2 := ⟨Tryz.prog.types.size - 1, by have : 1 ≤ Tryz.prog.types.size := of_decide_eq_true (by kernel_rfl); omega⟩; have h0 := h; unfold keyOf at h; rw [Tryz.underlying36] at h; simp only at h; split at h
  · rename_i hcond
    rw [Bool.and_eq_true] at hcond
    obtain ⟨cs, rfl, hcs⟩ : ∃ cs, v = .agg cs ∧ cs.size = 32 := by
      have hf := hcond.2; cases v <;> simp [Value.formed, Tryz.underlying36, hc] at hf; exact ⟨_, rfl, hf⟩
    rw [hD] at h; obtain ⟨ls, hls, _⟩ := Option.map_eq_some_iff.1 h; have hcl : (Value.agg cs).cells.toList = cs.toList := by simp [Value.cells]
    rw [hcl] at hls; unfold Program.keyLits at hls; rw [Tryz.underlying36] at hls; simp only [hc, hc1] at hls; have hlen : cs.toList.length = 32 := by simpa using hcs
    rw [if_pos hlen] at hls; obtain ⟨r, hr, _⟩ := Option.map_eq_some_iff.1 hls; have each := mapM_each hr
    have hval : ∀ i, i < 32 → ∃ b : UInt8, cs.toList[i]? = some (.int .u8 (b.toNat : Int)) := fun i hi => by
      obtain ⟨y, hy⟩ := each i (by simpa using hi); have hx := List.getElem?_eq_getElem (show i < cs.toList.length by omega); rw [cutOne hx] at hy; unfold Program.keyLits at hy; rw [Tryz.underlying5] at hy; generalize cs.toList[i]'(by omega) = x at hx hy; cases x with
      | int q z =>
        simp only at hy; split at hy
        · rename_i hw
          obtain ⟨rfl, hw⟩ := hw; obtain ⟨b, rfl⟩ := u8_of_wf hw; exact ⟨b, hx⟩
        · cases hy
      | _ => simp at hy
    obtain ⟨k, hk1, hk2⟩ : ∃ k : List UInt8, k.length = 32 ∧ cs.toList = u8s k := by
      have key : ∀ n, n ≤ 32 → ∃ k : List UInt8, k.length = n ∧ cs.toList.take n = u8s k := by
        intro n
        induction n with
        | zero => intro _; exact ⟨[], rfl, rfl⟩
        | succ n ih =>
          intro hn; obtain ⟨k, h1, h2⟩ := ih (by omega); obtain ⟨b, hb⟩ := hval n (by omega); refine ⟨k ++ [b], by simp [h1], ?_⟩; rw [List.take_add_one, hb, h2]; simp [u8s]
      obtain ⟨k, h1, h2⟩ := key 32 (Nat.le_refl _); exact ⟨k, h1, by rw [← h2, List.take_of_length_le (by omega)]⟩
    have hv : Value.agg cs = by32 k := by unfold by32; rw [← hk2]
    refine ⟨k, hk1, hv, ?_⟩; rw [hv, keyOf_blind hk1] at h0; exact (Option.some.inj h0).symm
  · cases h
theorem kLit_inj {a b : List UInt8} (ha : a.length = 32) (hb : b.length = 32) (h : kLit a = kLit b) : a = b := by
  have h1 := keyOf_blind ha; have h2 := keyOf_blind hb; rw [← h] at h2; exact by32_inj (keyedB.inj h1 h2)
end Go.Proofs.YtjpphldojbfpfaaGreatDoor
namespace Go.Proofs.YtjpphldojbfpfaaGreatDoor
open Go.RowKit
open Go.Maps (Keyed)
open Go.ChangeMaps (setBlock)
def byteOf : Value → Option UInt8
  | .int .u8 (.ofNat n) => if n < 256 then some (UInt8.ofNat n) else none
  | _ => none
theorem byteOf_of (b : UInt8) : byteOf (.int .u8 (b.toNat : Int)) = some b := by
  show (if b.toNat < 256 then some (UInt8.ofNat b.toNat) else none) = _; rw [if_pos b.toNat_lt, UInt8.ofNat_toNat]
theorem byteOf_inv {v : Value} {b : UInt8} (h : byteOf v = some b) : v = .int .u8 (b.toNat : Int) := by
  unfold byteOf at h; split at h
  · split at h
    · rename_i n hn
      injection h with h
      subst h; rw [UInt8.toNat_ofNat', Nat.mod_eq_of_lt hn]; rfl
    · cases h
  · cases h
def R32 : Value → Option (DataW Unit × List MemPlace)
  | .agg cs => (cs.toList.mapM byteOf).bind fun d => if d.length = 32 then some (.lit (.string d), []) else none
  | _ => none
theorem bytes_of (d : List UInt8) : (u8s d).mapM byteOf = some d := by
  have h := mapM_all (f := byteOf) (g := fun v => (byteOf v).getD 0) (l := u8s d) (fun v hv => by
    unfold u8s at hv; obtain ⟨b, _, rfl⟩ := List.mem_map.1 hv; rw [byteOf_of]; rfl)
  rw [h]; unfold u8s; rw [List.map_map]; congr 1
  have : ((fun v => (byteOf v).getD 0) ∘ fun b : UInt8 => Value.int .u8 (b.toNat : Int)) = id := by
    funext b
    show (byteOf _).getD 0 = b; rw [byteOf_of]; rfl
  rw [this, List.map_id]
theorem bytes_inv : ∀ {l : List Value} {d : List UInt8}, l.mapM byteOf = some d → l = u8s d
  | [], d, h => by
    have : d = [] := by simpa using h.symm
    rw [this]; rfl
  | v :: l, d, h => by
    rw [List.mapM_cons] at h; cases hb : byteOf v with
    | none => rw [hb] at h; cases h
    | some b =>
      rw [hb] at h; cases hm : l.mapM byteOf with
      | none => rw [hm] at h; cases h
      | some d' =>
        rw [hm] at h; have hd : d = b :: d' := by simpa using h.symm
        rw [hd, byteOf_inv hb, bytes_inv hm]; rfl
theorem R32_of {d : List UInt8} (hd : d.length = 32) : R32 (by32 d) = some (.lit (.string d), []) := by
  show ((u8s d).toArray.toList.mapM byteOf).bind _ = _; rw [show (u8s d).toArray.toList = u8s d by simp, bytes_of]; show (if d.length = 32 then _ else _) = _; rw [if_pos hd]
theorem R32_inv {v : Value} {y : DataW Unit × List MemPlace} (h : R32 v = some y) : ∃ d : List UInt8, d.length = 32 ∧ v = by32 d ∧ y = (.lit (.string d), []) := by
  unfold R32 at h; split at h
  · rename_i cs
    cases hm : cs.toList.mapM byteOf with
    | none => rw [hm] at h; cases h
    | some d =>
      rw [hm] at h; have h2 : (if d.length = 32 then some ((DataW.lit (.string d) : DataW Unit), ([] : List MemPlace)) else none) = some y := h; split at h2
      · rename_i hl
        refine ⟨d, hl, ?_, (Option.some.inj h2).symm⟩; unfold by32; rw [← bytes_inv hm]
      · cases h2
  · cases h
def Z32 : List UInt8 := List.replicate 32 0
theorem Z32_length : Z32.length = 32 := rfl
structure TM (w : World) (b n : Nat) (M : List UInt8 → Option (List UInt8)) : Prop where
  own : ∃ D, w.ownsMap Tryz.prog 36 R32 b n D ∧ ∀ k, k.length = 32 → ∀ z, D.atKey (kLit k) z = match M k with | some d => .lit (.string d) | none => z
  len : ∀ k d, M k = some d → k.length = 32 ∧ d.length = 32
def upd (M : List UInt8 → Option (List UInt8)) (k : List UInt8) (o : Option (List UInt8)) : List UInt8 → Option (List UInt8) := fun x => if x = k then o else M x
section
variable {w w' : World} {b n : Nat} {M : List UInt8 → Option (List UInt8)}
theorem TM.lt (h : TM w b n M) : b < w.heap.size := by
  obtain ⟨D, hD, _⟩ := h.own; exact hD.lt
theorem TM.same (h : TM w b n M) (he : w'.heap[b]? = w.heap[b]?) : TM w' b n M := by
  obtain ⟨D, ⟨es, clock, hb, r⟩, h2⟩ := h.own; exact ⟨⟨D, ⟨es, clock, he.trans hb, r⟩, h2⟩, h.len⟩
theorem TM.gr (h : TM w b n M) (hG : Gr w w') : TM w' b n M := h.same (hG.block b h.lt)
theorem TM.more (h : TM w b n M) {m : Nat} (hm : n ≤ m) : TM w b m M := by
  obtain ⟨D, hD, h2⟩ := h.own; exact ⟨⟨D, hD.mono hm, h2⟩, h.len⟩
theorem TM.isMap (h : TM w b n M) : ∃ es c, w.heap[b]? = some (.map es c) := by
  obtain ⟨D, ⟨es, clock, hb, _⟩, _⟩ := h.own; exact ⟨es, clock, hb⟩
theorem TM.made (w : World) : TM (w.alloc (.map #[] 0)) w.heap.size 0 (fun _ => none) :=
  ⟨⟨.map [], World.ownsMap_made w _ _ _, fun k _ z => rfl⟩, fun k d h => by cases h⟩
theorem TM.look (h : TM w b n M) {t e : TypeId} (ht : Tryz.prog.underlying t = some (.map 36 e)) (hz : (zeroValue e).run Tryz.prog w = .ok (by32 Z32) w) {k : List UInt8} (hk : k.length = 32) :
    (Instr.lookup t (.map (some b)) (by32 k) false).run Tryz.prog w = .ok (by32 ((M k).getD Z32)) w := by
  obtain ⟨D, hD, h2⟩ := h.own; obtain ⟨v, ps, hr, hv⟩ := hD.lookup keyedB ht hz (R32_of Z32_length) (keyOf_blind hk); rw [h2 k hk] at hv; obtain ⟨d, hd, rfl, e⟩ := R32_inv hv; rw [hr]; cases hM : M k with
  | none =>
    rw [hM] at e; have e2 := Lit.string.inj (DataW.lit.inj (congrArg Prod.fst e)); rw [← e2]; rfl
  | some d' =>
    rw [hM] at e; have e2 := Lit.string.inj (DataW.lit.inj (congrArg Prod.fst e)); rw [← e2]; rfl
theorem TM.put (h : TM w b n M) {t e : TypeId} (ht : Tryz.prog.underlying t = some (.map 36 e)) (hn : n < maxLen) {k d : List UInt8} (hk : k.length = 32) (hd : d.length = 32) :
    ∃ w', (Instr.mapUpdate t (.map (some b)) (by32 k) (by32 d)).run Tryz.prog w = .ok () w' ∧ TM w' b (n + 1) (upd M k (some d)) ∧ ∃ o, w' = setBlock w b o := by
  obtain ⟨D, hD, h2⟩ := h.own; obtain ⟨w', hr, hD', es, c, es', c', _, hw⟩ := hD.store keyedB ht hn (keyOf_blind hk) (R32_of hd); refine ⟨w', hr, ⟨⟨_, hD', fun x hx z => ?_⟩, fun x y hxy => ?_⟩, _, hw⟩
  · unfold upd
    by_cases e : x = k
    · subst e; rw [if_pos rfl, Maps.atKey_put_same hD.isMap (keyedB.key (keyOf_blind hk))]
    · rw [if_neg e, Maps.atKey_put_other (fun q => e (kLit_inj hx hk q)), h2 x hx]
  · unfold upd at hxy; split at hxy
    · rename_i e
      injection hxy with hxy
      exact ⟨e ▸ hk, hxy ▸ hd⟩
    · exact h.len x y hxy
theorem TM.del (h : TM w b n M) {t e : TypeId} (ht : Tryz.prog.underlying t = some (.map 36 e)) {k : List UInt8} (hk : k.length = 32) (ty : TypeId) :
    ∃ w', (Builtin.delete_ #[t, 36] ty #[.map (some b), by32 k]).run Tryz.prog w = .ok (.tuple #[]) w' ∧ TM w' b n (upd M k none) ∧ ∃ o, w' = setBlock w b o := by
  obtain ⟨D, hD, h2⟩ := h.own; obtain ⟨w', hr, hD', es, c, es', c', _, hw⟩ := hD.drop keyedB ht (keyOf_blind hk) ty; refine ⟨w', hr, ⟨⟨_, hD', fun x hx z => ?_⟩, fun x y hxy => ?_⟩, _, hw⟩
  · unfold upd
    by_cases e : x = k
    · subst e; rw [if_pos rfl, Maps.atKey_del_same]
    · rw [if_neg e, Maps.atKey_del_other (fun q => e (kLit_inj hx hk q)), h2 x hx]
  · unfold upd at hxy; split at hxy
    · cases hxy
    · exact h.len x y hxy
theorem TM.has {D : DataW Unit} (h2 : ∀ k, k.length = 32 → ∀ z, D.atKey (kLit k) z = match M k with | some d => .lit (.string d) | none => z) {k : List UInt8} (hk : k.length = 32) : Maps.has D (kLit k) = (M k).isSome := by
  cases hM : M k with
  | none => exact Maps.has_false_of_atKey fun z => by rw [h2 k hk z, hM]
  | some d => exact Maps.has_true_of_atKey (y := .lit (.string d)) fun z => by rw [h2 k hk z, hM]
end
end Go.Proofs.YtjpphldojbfpfaaGreatDoor
namespace Go.Proofs.YtjpphldojbfpfaaGreatDoor
open Go.RowKit
def rowT (N : Nat → Nat → List UInt8) (l : Nat) : List Value := (List.range 256).flatMap fun a => u8s (N l a)
def nodesT (N : Nat → Nat → List UInt8) : List Value := (List.range 5).flatMap (rowT N)
def Full (N : Nat → Nat → List UInt8) : Prop := ∀ l a, (N l a).length = 32
theorem flat_length {α : Type} {f : α → List Value} {k : Nat} (hk : ∀ x, (f x).length = k) (L : List α) : (L.flatMap f).length = L.length * k := by
  induction L with
  | nil => simp
  | cons x L ih => rw [List.flatMap_cons, List.length_append, hk, ih, List.length_cons, Nat.add_mul]; omega
section
variable {N : Nat → Nat → List UInt8}
theorem rowT_length (h : Full N) (l : Nat) : (rowT N l).length = 8192 := by
  unfold rowT; rw [flat_length (k := 32) fun a => by rw [u8s_length, h], List.length_range]
theorem nodesT_length (h : Full N) : (nodesT N).length = 40960 := by
  unfold nodesT; rw [flat_length (rowT_length h), List.length_range]
theorem nodesT_get (h : Full N) {l a j : Nat} (hl : l < 5) (ha : a < 256) (hj : j < 32) : (nodesT N)[l * 8192 + a * 32 + j]? = (u8s (N l a))[j]? := by
  unfold nodesT; rw [show l * 8192 + a * 32 + j = l * 8192 + (a * 32 + j) by omega, flat_get (rowT_length h) _ l (a * 32 + j) (by omega), List.getElem?_range hl]; show (rowT N l)[a * 32 + j]? = _; unfold rowT; rw [flat_get (k := 32) (fun a => by rw [u8s_length, h]) _ a j hj, List.getElem?_range ha]; rfl
end
def updN (N : Nat → Nat → List UInt8) (l a : Nat) (d : List UInt8) : Nat → Nat → List UInt8 := fun x y => if x = l ∧ y = a then d else N x y
theorem updN_full {N : Nat → Nat → List UInt8} (h : Full N) {l a : Nat} {d : List UInt8} (hd : d.length = 32) : Full (updN N l a d) := by
  intro x y; unfold updN; split
  · exact hd
  · exact h x y
set_option maxRecDepth 100000 in
theorem nodesT_set {N : Nat → Nat → List UInt8} (h : Full N) {l a : Nat} (hl : l < 5) (ha : a < 256) {d : List UInt8} (hd : d.length = 32) :
    (nodesT N).take (l * 8192 + a * 32) ++ u8s d ++ (nodesT N).drop (l * 8192 + a * 32 + 32) = nodesT (updN N l a d) := by
  have hf := updN_full h (l := l) (a := a) hd; have hn := nodesT_length h; apply List.ext_getElem?
  intro i; rcases Nat.lt_or_ge i 40960 with hi | hi
  · obtain ⟨x, y, j, hx, hy, hj, rfl⟩ : ∃ x y j, x < 5 ∧ y < 256 ∧ j < 32 ∧ i = x * 8192 + y * 32 + j := ⟨i / 8192, i % 8192 / 32, i % 32, by omega, by omega, by omega, by omega⟩; rw [nodesT_get hf hx hy hj]
    by_cases e : x = l ∧ y = a
    · obtain ⟨rfl, rfl⟩ := e; rw [List.append_assoc, List.getElem?_append_right (by rw [List.length_take]; omega), List.length_take, List.getElem?_append_left (by rw [u8s_length]; omega), show x * 8192 + y * 32 + j - min (x * 8192 + y * 32) (nodesT N).length = j by omega]; unfold updN; rw [if_pos ⟨rfl, rfl⟩]
    · unfold updN; rw [if_neg e, ← nodesT_get h hx hy hj]; rcases Nat.lt_or_ge (x * 8192 + y * 32 + j) (l * 8192 + a * 32) with h1 | h1
      · rw [List.append_assoc, List.getElem?_append_left (by rw [List.length_take]; omega), List.getElem?_take, if_pos h1]
      · have h2 : l * 8192 + a * 32 + 32 ≤ x * 8192 + y * 32 + j := by omega
        rw [List.getElem?_append_right (by rw [List.length_append, List.length_take, u8s_length]; omega), List.getElem?_drop, List.length_append, List.length_take, u8s_length, hd]; congr 1
        omega
  · have hl1 := nodesT_length hf; rw [List.getElem?_eq_none (by rw [List.length_append, List.length_append, List.length_take, List.length_drop, u8s_length, hd, hn]; omega), List.getElem?_eq_none (by rw [hl1]; exact hi)]
structure TreeAt (w : World) (g b n : Nat) (M : List UInt8 → Option (List UInt8)) (N : Nat → Nat → List UInt8) : Prop where
  arr : Arr w g 126 (.map (some b) :: nodesT N)
  map : TM w b n M
  full : Full N
section
variable {w w' : World} {g b n : Nat} {M : List UInt8 → Option (List UInt8)} {N : Nat → Nat → List UInt8}
theorem TreeAt.gr (h : TreeAt w g b n M N) (hG : Gr w w') : TreeAt w' g b n M N := ⟨h.arr.gr hG, h.map.gr hG, h.full⟩
theorem TreeAt.cell0 (h : TreeAt w g b n M N) : w.cell? ⟨g, 0, none⟩ = some (.map (some b)) := h.arr.cell rfl
theorem TreeAt.range (h : TreeAt w g b n M N) {l a : Nat} (hl : l < 5) (ha : a < 256) : w.rangeAt g (1 + l * 8192 + a * 32) (u8s (N l a)) := fun j x hj => h.arr.cell (by
  have hj32 : j < 32 := by
    have := (List.getElem?_eq_some_iff.1 hj).1
    rwa [u8s_length, h.full] at this
  rw [show 1 + l * 8192 + a * 32 + j = (l * 8192 + a * 32 + j) + 1 by omega, List.getElem?_cons_succ, nodesT_get h.full hl ha hj32]; exact hj)
theorem TreeAt.there (h : TreeAt w g b n M N) {l a : Nat} (hl : l < 5) (ha : a < 256) : w.there g (1 + l * 8192 + a * 32) 32 := fun j hj => by
  have h1 := h.arr.there (1 + l * 8192 + a * 32 + j) (by rw [List.length_cons, nodesT_length h.full]; omega); rw [Nat.zero_add] at h1; exact h1
theorem TreeAt.set (h : TreeAt w g b n M N) {l a : Nat} (hl : l < 5) (ha : a < 256) {d : List UInt8} (hd : d.length = 32) : TreeAt (w.setCells g (1 + l * 8192 + a * 32) (u8s d)) g b n M (updN N l a d) := by
  have hA := Arr.setCells_from (u8s d) (1 + l * 8192 + a * 32) w _ h.arr (by rw [List.length_cons, nodesT_length h.full, u8s_length, hd]; omega); refine ⟨?_, ?_, updN_full h.full hd⟩
  · rw [← nodesT_set h.full hl ha hd]; have e : 1 + l * 8192 + a * 32 = (l * 8192 + a * 32) + 1 := by omega
    rw [e] at hA ⊢; rw [u8s_length, hd, show l * 8192 + a * 32 + 1 + 32 = (l * 8192 + a * 32 + 32) + 1 by omega, List.take_succ_cons, List.drop_succ_cons] at hA; simpa using hA
  · refine h.map.same ?_; obtain ⟨es, c, hb⟩ := h.map.isMap
    have hne : b ≠ g := by
      rintro rfl; have := h.arr; unfold Arr at this; rw [hb] at this; cases this
    have key : ∀ (vs : List Value) (w : World) (o : Nat), (w.setCells g o vs).heap[b]? = w.heap[b]? := by
      intro vs
      induction vs with
      | nil => intro w o; rfl
      | cons v vs ih =>
        intro w o; rw [World.setCells, ih]; exact heap_setCell_other w ⟨g, o, none⟩ b v hne
    exact key _ _ _
end
end Go.Proofs.YtjpphldojbfpfaaGreatDoor
namespace Go.Proofs.YtjpphldojbfpfaaGreatDoor
open Go.RowKit
theorem infoD (l : List UInt8) (hl : l.length = 32) : (Tryz.prog.info? 35).map (·.size) = some (u8s l).length := by simp only [u8s_length, hl]; kernel_rfl
end Go.Proofs.YtjpphldojbfpfaaGreatDoor
namespace Go.Proofs.YtjpphldojbfpfaaGreatDoor
open Go.RowKit
theorem cb_refl : ∀ a : List UInt8, Lib.compareBytes a a = 0
  | [] => rfl
  | x :: a => by
    unfold Lib.compareBytes; rw [if_neg (UInt8.lt_irrefl x), if_neg (UInt8.lt_irrefl x), cb_refl a]
theorem cb_anti : ∀ a b : List UInt8, Lib.compareBytes b a = - Lib.compareBytes a b
  | [], [] => rfl
  | [], _ :: _ => rfl
  | _ :: _, [] => rfl
  | x :: a, y :: b => by
    unfold Lib.compareBytes
    by_cases h1 : x < y
    · have h2 : ¬ y < x := UInt8.lt_asymm h1; rw [if_neg h2, if_pos h1, if_pos h1]; rfl
    · by_cases h2 : y < x
      · rw [if_pos h2, if_neg h1, if_pos h2]
      · rw [if_neg h2, if_neg h1, if_neg h1, if_neg h2, cb_anti a b]
theorem u8_eq {x y : UInt8} (h1 : ¬ x < y) (h2 : ¬ y < x) : x = y := UInt8.le_antisymm (UInt8.not_lt.1 h2) (UInt8.not_lt.1 h1)
theorem cb_zero : ∀ {a b : List UInt8}, Lib.compareBytes a b = 0 → a = b
  | [], [], _ => rfl
  | [], _ :: _, h => by simp [Lib.compareBytes] at h
  | _ :: _, [], h => by simp [Lib.compareBytes] at h
  | x :: a, y :: b, h => by
    unfold Lib.compareBytes at h
    by_cases h1 : x < y
    · rw [if_pos h1] at h; omega
    · by_cases h2 : y < x
      · rw [if_neg h1, if_pos h2] at h; omega
      · rw [if_neg h1, if_neg h2] at h; rw [u8_eq h1 h2, cb_zero h]
theorem cb_trans : ∀ {a b c : List UInt8}, Lib.compareBytes a b < 0 → Lib.compareBytes b c < 0 → Lib.compareBytes a c < 0
  | [], [], _, h, _ => by simp [Lib.compareBytes] at h
  | [], _ :: _, [], _, h => by simp [Lib.compareBytes] at h
  | [], _ :: _, _ :: _, _, _ => by simp [Lib.compareBytes]
  | _ :: _, [], _, h, _ => by simp [Lib.compareBytes] at h
  | _ :: _, _ :: _, [], _, h => by simp [Lib.compareBytes] at h
  | x :: a, y :: b, z :: c, h, k => by
    unfold Lib.compareBytes at h k ⊢
    by_cases h1 : x < y
    · by_cases k1 : y < z
      · rw [if_pos (UInt8.lt_trans h1 k1)]; omega
      · by_cases k2 : z < y
        · rw [if_neg k1, if_pos k2] at k; omega
        · rw [← u8_eq k1 k2, if_pos h1]; omega
    · by_cases h2 : y < x
      · rw [if_neg h1, if_pos h2] at h; omega
      · rw [if_neg h1, if_neg h2] at h; have e := u8_eq h1 h2; subst e
        by_cases k1 : x < z
        · rw [if_pos k1]; omega
        · by_cases k2 : z < x
          · rw [if_neg k1, if_pos k2] at k; omega
          · rw [if_neg k1, if_neg k2] at k ⊢; exact cb_trans h k
abbrev Nm := { l : List UInt8 // l.length = 32 }
instance : Inhabited Nm := ⟨⟨Z32, rfl⟩⟩
def encN (x : Nm) : List Value := u8s x.1
theorem encN_length (x : Nm) : (encN x).length = 32 := by unfold encN; rw [u8s_length, x.2]
def leafOf (x : Nm) : Nat := (x.1.getD 0 0).toNat
end Go.Proofs.YtjpphldojbfpfaaGreatDoor
namespace Go.Proofs.YtjpphldojbfpfaaGreatDoor
open Go.RowKit
theorem results_cell_tmp_row {P : Program} {fn : Func} {p u : Tmp} {ty : TypeId} (h : fn.results = #[.cell p ty, .tmp u]) (tmps : Array Value) (w : World) (g : Nat) (t : TypeId) (cs : Array Value) (fr : Nat × Nat) (d : TypeDesc)
    (hp : tmps.getD p undef = .pointer (some ⟨g, 0, none⟩)) (hg : w.heap[g]? = some (.cells cs t fr))
    (hu : P.underlying ty = some d) (hd : (match d with | .struct _ | .array _ _ => true | _ => false) = true) (hi : (P.info? ty).map (·.size) = some cs.size) :
    (results fn tmps).run P w = .ok (.tuple #[.agg cs, tmps.getD u undef]) w := by
  rw [results_cell_tmp h, hp]; simp [asAddr, run_loadVar_row w g t ty cs fr d hg hu hd hi]
theorem rangeEq {w : World} {g o o' : Nat} {cs : List Value} (h : w.rangeAt g o cs) (e : o = o') : w.rangeAt g o' cs := e ▸ h
set_option maxRecDepth 100000 in
set_option maxHeartbeats 4000000 in
theorem node_any {w : World} {g b n : Nat} {M : List UInt8 → Option (List UInt8)} {N : Nat → Nat → List UInt8} (hT : TreeAt w g b n M N) (l a : Nat) (hl : l < 5) (ha : a < 4 ^ l) :
    Calls Tryz.prog 27 #[.pointer (some ⟨g, 0, none⟩), .int .i64 (l : Int), .int .i64 (a : Int)] w fun e w' => e = .returned (.tuple #[by32 (N l a), .int .i64 0]) ∧ Gr w w' := by
  have hN := hT.full l a; have ha2 : a < 256 := Nat.lt_of_lt_of_le ha (Nat.pow_le_pow_right (by omega) (by omega : l ≤ 4)); have HT := Lib.hid hT; clear hT; obtain rfl | rfl | rfl | rfl | rfl : l = 0 ∨ l = 1 ∨ l = 2 ∨ l = 3 ∨ l = 4 := by omega
  all_goals simp only [Nat.reducePow] at ha
  all_goals go_enter Tryz.func27, Tryz.ntmps27
  · go_wp2_with first
      | (refine wpList_load_mid rfl _ _ rfl g _ rfl (u8s (N 0 a)) _ (rangeEq ((HT.out.gr (Gr.alloc w _)).range (l := 0) (a := a) (by omega) (by omega)) (by omega)) Tryz.underlying35 rfl (infoD _ hN) ?_)
      | (refine wpList_new (w := w) (t := 35) rfl _ _ _ rfl w.heap.size (u8s (N 0 a)) rfl rfl rfl (by rw [u8s_length, hN]; kernel_rfl) (infoD _ hN) (u8s_oneCell _) ?_; intro w2 hA2 hG2)
    refine bodyPost_ret (results_cell_tmp_row rfl _ _ w.heap.size _ _ _ _ rfl hA2 Tryz.underlying35 rfl (by have := infoD _ hN; simpa using this)) rfl ?_; exact ⟨rfl, hG2⟩
  · go_wp2_with first
      | (refine wpList_load_mid rfl _ _ rfl g _ rfl (u8s (N 1 a)) _ (rangeEq ((HT.out.gr (Gr.alloc w _)).range (l := 1) (a := a) (by omega) (by omega)) (by omega)) Tryz.underlying35 rfl (infoD _ hN) ?_)
      | (refine wpList_new (w := w) (t := 35) rfl _ _ _ rfl w.heap.size (u8s (N 1 a)) rfl rfl rfl (by rw [u8s_length, hN]; kernel_rfl) (infoD _ hN) (u8s_oneCell _) ?_; intro w2 hA2 hG2)
    refine bodyPost_ret (results_cell_tmp_row rfl _ _ w.heap.size _ _ _ _ rfl hA2 Tryz.underlying35 rfl (by have := infoD _ hN; simpa using this)) rfl ?_; exact ⟨rfl, hG2⟩
  · go_wp2_with first
      | (refine wpList_load_mid rfl _ _ rfl g _ rfl (u8s (N 2 a)) _ (rangeEq ((HT.out.gr (Gr.alloc w _)).range (l := 2) (a := a) (by omega) (by omega)) (by omega)) Tryz.underlying35 rfl (infoD _ hN) ?_)
      | (refine wpList_new (w := w) (t := 35) rfl _ _ _ rfl w.heap.size (u8s (N 2 a)) rfl rfl rfl (by rw [u8s_length, hN]; kernel_rfl) (infoD _ hN) (u8s_oneCell _) ?_; intro w2 hA2 hG2)
    refine bodyPost_ret (results_cell_tmp_row rfl _ _ w.heap.size _ _ _ _ rfl hA2 Tryz.underlying35 rfl (by have := infoD _ hN; simpa using this)) rfl ?_; exact ⟨rfl, hG2⟩
  · go_wp2_with first
      | (refine wpList_load_mid rfl _ _ rfl g _ rfl (u8s (N 3 a)) _ (rangeEq ((HT.out.gr (Gr.alloc w _)).range (l := 3) (a := a) (by omega) (by omega)) (by omega)) Tryz.underlying35 rfl (infoD _ hN) ?_)
      | (refine wpList_new (w := w) (t := 35) rfl _ _ _ rfl w.heap.size (u8s (N 3 a)) rfl rfl rfl (by rw [u8s_length, hN]; kernel_rfl) (infoD _ hN) (u8s_oneCell _) ?_; intro w2 hA2 hG2)
    refine bodyPost_ret (results_cell_tmp_row rfl _ _ w.heap.size _ _ _ _ rfl hA2 Tryz.underlying35 rfl (by have := infoD _ hN; simpa using this)) rfl ?_; exact ⟨rfl, hG2⟩
  · go_wp2_with first
      | (refine wpList_load_mid rfl _ _ rfl g _ rfl (u8s (N 4 a)) _ (rangeEq ((HT.out.gr (Gr.alloc w _)).range (l := 4) (a := a) (by omega) (by omega)) (by omega)) Tryz.underlying35 rfl (infoD _ hN) ?_)
      | (refine wpList_new (w := w) (t := 35) rfl _ _ _ rfl w.heap.size (u8s (N 4 a)) rfl rfl rfl (by rw [u8s_length, hN]; kernel_rfl) (infoD _ hN) (u8s_oneCell _) ?_; intro w2 hA2 hG2)
    refine bodyPost_ret (results_cell_tmp_row rfl _ _ w.heap.size _ _ _ _ rfl hA2 Tryz.underlying35 rfl (by have := infoD _ hN; simpa using this)) rfl ?_; exact ⟨rfl, hG2⟩
end Go.Proofs.YtjpphldojbfpfaaGreatDoor
namespace Go.Proofs.YtjpphldojbfpfaaGreatDoor
open Go.RowKit
set_option maxRecDepth 100000
def isZ8 : Value → Bool
  | .int .u8 n => n == 0
  | _ => false
def isRep : List Value → Nat → Bool
  | [], n => n == 0
  | x :: r, n + 1 => isZ8 x && isRep r n
  | _ :: _, 0 => false
def isTree : Option Value → Bool
  | some (.agg a) => match a.toList with | .map none :: r => isRep r 40960 | _ => false
  | _ => false
theorem z59 : isTree Tryz.t126.zero = true := by decide +kernel
theorem isZ8_is {v : Value} (h : isZ8 v = true) : v = .int .u8 0 := by
  unfold isZ8 at h; split at h
  · rw [beq_iff_eq] at h; rw [h]
  · cases h
theorem isRep_is : ∀ {l : List Value} {n : Nat}, isRep l n = true → l = List.replicate n (.int .u8 0)
  | [], n, h => by
    unfold isRep at h; rw [beq_iff_eq] at h; rw [h]; rfl
  | x :: r, n + 1, h => by
    unfold isRep at h; rw [Bool.and_eq_true] at h; rw [isZ8_is h.1, isRep_is h.2]; rfl
  | x :: r, 0, h => by
    unfold isRep at h; cases h
theorem isTree_is {z : Option Value} (h : isTree z = true) : z = some (.agg (.map none :: List.replicate 40960 (.int .u8 0)).toArray) := by
  unfold isTree at h; split at h
  · rename_i a
    split at h
    · rename_i r hr
      rw [← isRep_is h, ← hr]
    · cases h
  · cases h
theorem zero_tree : Tryz.t126.zero = some (.agg (.map none :: List.replicate 40960 (.int .u8 0)).toArray) := isTree_is z59
end Go.Proofs.YtjpphldojbfpfaaGreatDoor
namespace Go.Proofs.YtjpphldojbfpfaaGreatDoor
open Go.RowKit
def noughts : List Value := List.replicate 40960 (.int .u8 0)
theorem nodesT_zero : nodesT (fun _ _ => Z32) = noughts := by
  have hf : Full (fun _ _ => Z32) := fun _ _ => rfl; unfold noughts; refine List.eq_replicate_iff.2 ⟨nodesT_length hf, fun x hx => ?_⟩; unfold nodesT rowT at hx; rw [List.mem_flatMap] at hx; obtain ⟨l, _, hx⟩ := hx; rw [List.mem_flatMap] at hx; obtain ⟨a, _, hx⟩ := hx; have e : u8s Z32 = List.replicate 32 (.int .u8 0) := rfl; rw [e] at hx; exact List.eq_of_mem_replicate hx
def treeC (b : Nat) : Array Value := (.map (some b) :: noughts).toArray
theorem info_tree : Tryz.prog.info? 126 = some Tryz.t126 := by kernel_rfl
theorem fill_head (z v : Value) (R : List Value) (hv : v.cells = #[v]) : Instr.fill (#[((0 : Nat), 1), (1, 40960)][·]?) (z :: R).toArray [(0, v)] = some (v :: R).toArray := by
  simp [Instr.fill, hv]
theorem built_tree (b : Nat) : Tryz.prog.built 126 [(0, .map (some b))] = some (treeC b) := by
  have h := fill_head (.map none) (.map (some b)) noughts rfl; unfold Program.built; rw [info_tree, Tryz.underlying126]; simp only [zero_tree]; exact Eq.trans (by kernel_rfl) h
section
variable {ops : Array Oper} {Q : Exit → Act → World → Prop} {a : Act} {w : World} {rest : List Oper} {op : Oper}
theorem wpList_buildT (b : Nat) (hgd : op.guard = none) (x : Operand) (ho : op.op = .build 126 #[(0, x)]) (h1 : a.eval x = .map (some b))
    (h : wpList Tryz.prog ops Q rest (a.put op.dst (.agg (treeC b))) w) : wpList Tryz.prog ops Q (op :: rest) a w := by
  refine wpList_plain hgd fun K hK => ?_; obtain ⟨d, o, t, p, af, gd⟩ := op; simp only at ho; subst ho; unfold Oper.wp; simp only [execOp, List.map_toArray, List.map_cons, List.map_nil, h1, run_build w 126 #[(0, .map (some b))] _ (built_tree b), Sem.run_bind, Result.andThen_ok, Sem.run_pure]; exact hK _ _ h
end
set_option maxRecDepth 100000 in
set_option maxHeartbeats 4000000 in
theorem new_tree (w : World) : Calls Tryz.prog 20 #[] w fun e w' => ∃ g b, e = .returned (.pointer (some ⟨g, 0, none⟩)) ∧ TreeAt w' g b 0 (fun _ => none) (fun _ _ => Z32) ∧ w.heap.size ≤ g ∧ w.heap.size ≤ b ∧ Gr w w' := by
  obtain ⟨T, hT⟩ : ∃ T : Nat → Array Value, T = treeC := ⟨_, rfl⟩; have hmk := fun t w => run_makeMap (P := Tryz.prog) t w
  replace hT := Lib.hid hT
  go_enter Tryz.func20, Tryz.ntmps20
  go_wp2_with (refine wpList_buildT w.heap.size rfl _ rfl rfl ?_; rw [← hT.out])
  go_ret
  refine ⟨w.heap.size + 1, w.heap.size, rfl, ⟨?_, (TM.made w).gr (Gr.alloc _ _), fun _ _ => rfl⟩, Nat.le_succ _, Nat.le_refl _, (Gr.alloc w _).trans (Gr.alloc _ _)⟩; rw [hT.out, nodesT_zero]; exact Arr.newAt (by simp) rfl
end Go.Proofs.YtjpphldojbfpfaaGreatDoor
namespace Go.Proofs.YtjpphldojbfpfaaGreatDoor
open Go.RowKit
set_option maxRecDepth 100000
end Go.Proofs.YtjpphldojbfpfaaGreatDoor
namespace Go.Proofs.YtjpphldojbfpfaaGreatDoor
open Go.RowKit
section
variable {α : Type} [Inhabited α] {enc : α → List Value} {k : Nat}
theorem holds_of_ownG (hk : ∀ x, (enc x).length = k) (hk0 : 0 < k) {w : World} {B g n c : Nat} {e : TypeId} {L : List α} (hl : L.length = n) (h : w.ownsRow B e k (.slice (some ⟨g, 0, none⟩) n c) n (L.flatMap enc)) : Go.Sort.HoldsK enc k w g 0 L.toArray := by
  intro t ht; rw [Go.Sort.size_flatK] at ht; have ht' : t < n * k := by simpa [hl] using ht
  have hc := h.cells (g := g) rfl
  obtain ⟨cur, hcur⟩ : ∃ cur, w.heap[g]? = some (.cells cur e (0, 0)) := by
    rcases h.2 with ⟨e, _⟩ | ⟨g', cap, cur, e1, _, h2, _⟩
    · cases e
    · injection e1 with e1
      injection e1 with e1
      injection e1 with e1
      subst e1; exact ⟨cur, h2⟩
  refine ⟨?_, frozen_of_row w g _ cur _ hcur⟩; have hi : t / k < L.length := by rw [hl]; exact (Nat.div_lt_iff_lt_mul hk0).2 ht'
  have hj : t % k < k := Nat.mod_lt _ hk0
  have hg : (L.flatMap enc)[t]? = some ((Go.Sort.flatK enc k L.toArray)[t]!) := by
    rw [Go.Sort.get_flatK _ _ _ t ht]; have e0 : t = t / k * k + t % k := by rw [Nat.mul_comm]; exact (Nat.div_add_mod t k).symm
    conv => lhs; rw [e0]
    rw [flat_get hk L (t / k) (t % k) hj, List.getElem?_eq_getElem hi]; have e3 : L.toArray[t / k]! = L[t / k] := by simp [hi]
    rw [e3]; have hm : t % k < (enc L[t / k]).length := by rw [hk]; exact hj
    show (enc L[t / k])[t % k]? = _; rw [List.getElem?_eq_getElem hm, List.getElem!_eq_getElem?_getD, List.getElem?_eq_getElem hm]; rfl
  have := hc t _ hg; rw [add_row] at this; exact this
theorem cells_of_holds (hk : ∀ x, (enc x).length = k) {w : World} {g : Nat} {d : Array α} (h : Go.Sort.HoldsK enc k w g 0 d) {i j : Nat} {x : α} {u : Value} (hx : d.toList[i]? = some x) (hu : (enc x)[j]? = some u) : w.cell? ⟨g, i * k + j, none⟩ = some u := by
  have hi : i < d.size := by
    have := (List.getElem?_eq_some_iff.1 hx).1; simpa using this
  have hj : j < k := by
    have := (List.getElem?_eq_some_iff.1 hu).1
    rwa [hk] at this
  have ht : i * k + j < d.size * k := by
    have := Nat.mul_le_mul_right k (show i + 1 ≤ d.size by omega); rw [Nat.add_mul] at this; omega
  have h1 := (h (i * k + j) (by rw [Go.Sort.size_flatK]; exact ht)).1; rw [Go.Sort.get_flatK _ _ _ _ ht, Nat.mul_comm i k, Nat.mul_add_div (by omega), Nat.div_eq_of_lt hj, Nat.add_zero, Nat.mul_add_mod, Nat.mod_eq_of_lt hj] at h1
  have hp' : d[i]! = x := by
    have : d[i]? = some x := by simpa using hx
    simp [getElem!_def, this]
  rw [hp', List.getElem!_eq_getElem?_getD, hu, Nat.zero_add, Nat.mul_comm k i] at h1; exact h1
theorem heap_putRow_oth (f : α → Value) (w : World) (blk off : Nat) (d : Array α) {k : Nat} (h : k ≠ blk) : (Go.Sort.putRow f w blk off d).heap[k]? = w.heap[k]? := by
  unfold Go.Sort.putRow Go.Sort.mapBlock; show (w.heap.modify blk _)[k]? = _; rw [Array.getElem?_modify, if_neg (fun e => h e.symm)]
theorem sortG_other {w : World} {g m : Nat} {d : Array α} {os : Array Obj} {i : Nat} (hi : i < w.heap.size) (h : i ≠ g) : (sortWorldK enc k w g 0 m d os).heap[i]? = w.heap[i]? := by
  unfold sortWorldK; rw [Go.Sort.heap_grow_old _ _ (by unfold Go.Sort.putRowK; rw [Go.Sort.size_putRow]; exact hi)]; unfold Go.Sort.putRowK; rw [heap_putRow_oth _ _ _ _ _ h]; rfl
theorem sortG_below {w : World} {B g m : Nat} {d : Array α} {os : Array Obj} (hB : B ≤ g) (hg : g < w.heap.size) : Below B w (sortWorldK enc k w g 0 m d os) :=
  ⟨rfl, rfl, rfl, by unfold sortWorldK Go.Sort.putRowK; rw [Go.Sort.size_grow, Go.Sort.size_putRow]; exact Nat.le_add_right _ _, fun i hi => sortG_other (by omega) (by omega)⟩
end
end Go.Proofs.YtjpphldojbfpfaaGreatDoor
