/- Texts of one proof, laid as one: part 37. No condition. -/
import Derived.RangeFuncNested
import Derived.RangeFuncBound
import Derived.RangeFuncCalls
import Derived.RangeFuncLeaves
import Derived.Shelf.Abstract
import Derived.Shelf.RegionOpen
import Derived.WalkKit
import Derived.OwnWalkIn
import Derived.TacticsInMore
import Derived.LoopNIn
import Derived.LoopIn
import Derived.RangeFuncStops
import Derived.RangeFuncMany
import Derived.Sort.MapsRangeIn
import Derived.Maps.AppendAt
import Derived.Test.YtjpphldojbfpfaaGreatDoorZf08
import Derived.Test.YtjpphldojbfpfaaGreatDoorZf30
import Derived.Test.YtjpphldojbfpfaaGreatDoorZf31
import Derived.Test.YtjpphldojbfpfaaGreatDoorZf35
import Derived.Test.YtjpphldojbfpfaaGreatDoorZf36
namespace Go.Proofs.YtjpphldojbfpfaaGreatDoor
open Go.RowKit
theorem kv_same : ∀ {S T : List KV}, S.Pairwise (fun a b => dLt a.1 b.1) → T.Pairwise (fun a b => dLt a.1 b.1) → (∀ x, x ∈ S ↔ x ∈ T) → S = T := by
  intro S
  induction S with
  | nil =>
    intro T _ _ h; cases T with
    | nil => rfl
    | cons b T => exact absurd ((h b).2 List.mem_cons_self) (by simp)
  | cons a S ih =>
    intro T hS hT h; cases T with
    | nil => exact absurd ((h a).1 List.mem_cons_self) (by simp)
    | cons b T =>
      rw [List.pairwise_cons] at hS hT
      have e : a = b := by
        rcases List.mem_cons.1 ((h a).1 List.mem_cons_self) with e | h1
        · exact e
        · rcases List.mem_cons.1 ((h b).2 List.mem_cons_self) with e | h2
          · exact e.symm
          · exact absurd (dLt_trans (hT.1 a h1) (hS.1 b h2)) (dLt_irrefl _)
      subst e; rw [ih hS.2 hT.2 fun x => ?_]; constructor
      · intro hx; rcases List.mem_cons.1 ((h x).1 (List.mem_cons_of_mem _ hx)) with e | h1
        · exact absurd (hS.1 x hx) (by rw [e]; exact dLt_irrefl _)
        · exact h1
      · intro hx; rcases List.mem_cons.1 ((h x).2 (List.mem_cons_of_mem _ hx)) with e | h1
        · exact absurd (hT.1 x hx) (by rw [e]; exact dLt_irrefl _)
        · exact h1
theorem like_key {x y : SibV} (h : Like y x) : keyV x = keyV y := by
  unfold keyV; rw [h.1, h.2.1, h.2.2]
theorem keys_sorted {L : List SibV} (h : L.Pairwise fun a b => dLt a.d b.d) : (L.map keyV).Pairwise fun a b => dLt a.1 b.1 := List.pairwise_map.2 h
theorem sorted_one {L : List SibV} (h : L.Pairwise fun a b => dLt a.d b.d) {x y : SibV} (hx : x ∈ L) (hy : y ∈ L) (e : x.d = y.d) : keyV x = keyV y := by
  obtain ⟨i, hi⟩ := List.getElem?_of_mem hx; obtain ⟨j, hj⟩ := List.getElem?_of_mem hy; obtain ⟨hi1, hi2⟩ := List.getElem?_eq_some_iff.1 hi; obtain ⟨hj1, hj2⟩ := List.getElem?_eq_some_iff.1 hj; rcases Nat.lt_trichotomy i j with h1 | h1 | h1
  · have := List.pairwise_iff_getElem.1 h i j hi1 hj1 h1; rw [hi2, hj2, e] at this; exact absurd this (dLt_irrefl _)
  · subst h1; rw [← hi2, hj2]
  · have := List.pairwise_iff_getElem.1 h j i hj1 hi1 h1; rw [hi2, hj2, e] at this; exact absurd this (dLt_irrefl _)
theorem mergeOf_nil {L L' : List SibV} (hg : GoodL L) (h : MergeOf [] L L') : L'.map keyV = L.map keyV := by
  refine kv_same (keys_sorted h.sorted) (keys_sorted hg.sorted) fun v => ?_; rw [List.mem_map, List.mem_map]; constructor
  · rintro ⟨x, hx, rfl⟩; obtain ⟨⟨y, hy, hl⟩, _⟩ := h.mem x hx; rcases hy with hy | hy
    · cases hy
    · exact ⟨y, hy, (like_key hl).symm⟩
  · rintro ⟨y, hy, rfl⟩; obtain ⟨x, hx, e⟩ := h.all y (.inr hy) rfl (hg.anti y hy); obtain ⟨⟨z, hz, hl⟩, _⟩ := h.mem x hx; rcases hz with hz | hz
    · cases hz
    · exact ⟨x, hx, (like_key hl).trans (sorted_one hg.sorted hz hy (hl.1.trans e))⟩
def kvI (i : Nat) : KV := ((1, i + 1), ctx0, [])
def sibI (i : Nat) : SibV := ⟨(1, i + 1), ctx0, none, 0, [], none, 0⟩
theorem no_ctx0 {d : DotM} (hd : 1 ≤ d.2) : ¬ hasC ctx0 d := by
  unfold hasC upOf ctx0
  have : (List.replicate 16 0).getD (d.1 - 1) 0 = 0 := by
    rw [List.getD_eq_getElem?_getD, List.getElem?_replicate]; split <;> rfl
  simp only [this]; rintro (h | h)
  · omega
  · cases h
theorem seen_bare {L : List SibV} (h : ∀ x ∈ L, x.c = ctx0) {d : DotM} (hd : 1 ≤ d.2) : seenL L d = false := by
  unfold seenL; rw [List.any_eq_false]; intro x hx; rw [h x hx]; simpa using no_ctx0 hd
structure BareL (L : List SibV) (js : List Nat) : Prop where
  keys : L.map keyV = js.map kvI
  up : js.Pairwise (· < ·)
theorem BareL.len {L : List SibV} {js : List Nat} (h : BareL L js) : L.length = js.length := by
  have := congrArg List.length h.keys; simpa using this
theorem BareL.mem {L : List SibV} {js : List Nat} (h : BareL L js) {x : SibV} (hx : x ∈ L) : ∃ j ∈ js, keyV x = kvI j := by
  have : keyV x ∈ js.map kvI := by rw [← h.keys]; exact List.mem_map_of_mem hx
  obtain ⟨j, hj, e⟩ := List.mem_map.1 this; exact ⟨j, hj, e.symm⟩
theorem BareL.of_mem {L : List SibV} {js : List Nat} (h : BareL L js) {j : Nat} (hj : j ∈ js) : ∃ x ∈ L, keyV x = kvI j := by
  have : kvI j ∈ L.map keyV := by rw [h.keys]; exact List.mem_map_of_mem hj
  obtain ⟨x, hx, e⟩ := List.mem_map.1 this; exact ⟨x, hx, e⟩
theorem BareL.bare {L : List SibV} {js : List Nat} (h : BareL L js) : ∀ x ∈ L, x.c = ctx0 := fun x hx => by
  obtain ⟨j, _, e⟩ := h.mem hx; exact congrArg (fun v : KV => v.2.1) e
theorem BareL.dot {L : List SibV} {js : List Nat} (h : BareL L js) {x : SibV} (hx : x ∈ L) : 1 ≤ x.d.2 := by
  obtain ⟨j, _, e⟩ := h.mem hx; have : x.d = (1, j + 1) := congrArg (fun v : KV => v.1) e; rw [this]; exact Nat.succ_le_succ (Nat.zero_le _)
theorem kv_up {js : List Nat} (h : js.Pairwise (· < ·)) : (js.map kvI).Pairwise fun a b => dLt a.1 b.1 := List.pairwise_map.2 (h.imp fun {_ _} hab => .inr ⟨rfl, Nat.succ_lt_succ hab⟩)
theorem BareL.sorted {L : List SibV} {js : List Nat} (h : BareL L js) : L.Pairwise fun a b => dLt a.d b.d := by
  have := kv_up h.up; rw [← h.keys] at this; exact (List.pairwise_map (f := keyV) (R := fun a b : KV => dLt a.1 b.1)).1 this
theorem BareL.good {L : List SibV} {js : List Nat} (h : BareL L js) (hf : js.length ≤ 64) : GoodL L :=
  ⟨by rw [h.len]; exact hf, h.sorted, fun x hx => seen_bare h.bare (h.dot hx)⟩
theorem bare_merge {L0 L' : List SibV} {js : List Nat} {i : Nat} (h : BareL L0 js) (hi : ∀ j ∈ js, j < i) (hM : MergeOf L0 [sibI i] L') : BareL L' (js ++ [i]) := by
  have hb : ∀ x ∈ [sibI i], x.c = ctx0 := fun x hx => by rw [List.mem_singleton.1 hx]; rfl
  have hup : (js ++ [i]).Pairwise (· < ·) := List.pairwise_append.2 ⟨h.up, List.pairwise_singleton _ _, fun a ha b hb => by rw [List.mem_singleton.1 hb]; exact hi a ha⟩
  have hin : ∀ y, (y ∈ L0 ∨ y ∈ [sibI i]) → keyV y ∈ (js ++ [i]).map kvI ∧ 1 ≤ y.d.2 := by
    rintro y (hy | hy)
    · obtain ⟨j, hj, e⟩ := h.mem hy; exact ⟨List.mem_map.2 ⟨j, List.mem_append_left _ hj, e.symm⟩, h.dot hy⟩
    · rw [List.mem_singleton.1 hy]; exact ⟨List.mem_map.2 ⟨i, List.mem_append_right _ List.mem_cons_self, rfl⟩, Nat.succ_le_succ (Nat.zero_le _)⟩
  have hkd : ∀ u v : KV, u ∈ (js ++ [i]).map kvI → v ∈ (js ++ [i]).map kvI → u.1 = v.1 → u = v := by
    intro u v hu hv e; obtain ⟨a, _, rfl⟩ := List.mem_map.1 hu; obtain ⟨b, _, rfl⟩ := List.mem_map.1 hv; have : a + 1 = b + 1 := congrArg Prod.snd e; rw [show a = b by omega]
  refine ⟨kv_same (keys_sorted hM.sorted) (kv_up hup) fun v => ?_, hup⟩; constructor
  · intro hv; obtain ⟨x, hx, rfl⟩ := List.mem_map.1 hv; obtain ⟨⟨y, hy, hl⟩, _⟩ := hM.mem x hx; rw [like_key hl]; exact (hin y hy).1
  · intro hv
    obtain ⟨y, hy, hky⟩ : ∃ y, (y ∈ L0 ∨ y ∈ [sibI i]) ∧ keyV y = v := by
      obtain ⟨j, hj, e⟩ := List.mem_map.1 hv; rcases List.mem_append.1 hj with hj | hj
      · obtain ⟨x, hx, e2⟩ := h.of_mem hj; exact ⟨x, .inl hx, e2.trans e⟩
      · rw [List.mem_singleton.1 hj] at e; exact ⟨sibI i, .inr List.mem_cons_self, e⟩
    obtain ⟨x, hx, e⟩ := hM.all y hy (seen_bare h.bare (hin y hy).2) (seen_bare hb (hin y hy).2); obtain ⟨⟨z, hz, hl⟩, _⟩ := hM.mem x hx; refine List.mem_map.2 ⟨x, hx, ?_⟩; rw [like_key hl]; rw [← hky]; exact hkd _ _ (hin z hz).1 (hin y hy).1 (hl.1.trans e)
def bnd : Nat → Nat
  | 0 => 0
  | n + 1 => bnd n + (47 + 153 * (n + 1))
theorem bnd_le {n : Nat} (h : n ≤ 10) : bnd n ≤ 8885 := by
  have : ∀ n, n ≤ 10 → bnd n ≤ 8885 := by decide
  exact this n h
theorem encSib_bare {x : SibV} (hc : x.c = ctx0) (hb : x.body = []) : (encSib x).length = 153 := by
  have ho : OkC x.c := by rw [hc]; exact ctx0_ok
  unfold encSib; simp only [List.length_append, hiB_length, outBs_len, encCtx_len ho]; rw [hc, hb]; rfl
theorem recO_bare {k : Nm} {L : List SibV} {js : List Nat} (h : BareL L js) : (recO k L).length = 39 + 153 * js.length := by
  have e : (L.flatMap encSib).length = L.length * 153 := by
    have hb : ∀ x ∈ L, (encSib x).length = 153 := fun x hx => encSib_bare (h.bare x hx) (by
      obtain ⟨j, _, e⟩ := h.mem hx; exact congrArg (fun v : KV => v.2.2) e)
    clear h
    induction L with
    | nil => rfl
    | cons a L ih =>
      rw [List.flatMap_cons, List.length_append, hb a List.mem_cons_self, ih fun x hx => hb x (List.mem_cons_of_mem _ hx), List.length_cons]; omega
  unfold recO encSibs; simp only [List.length_append, hiB_length, outBs_len, e, k.2, h.len]; omega
structure PlainS (m : Nat) (R : List (Nm × List SibV)) : Prop where
  last : ∀ k, ∃ js : List Nat, js.Pairwise (· < ·) ∧ (∀ j ∈ js, j < m) ∧ js.length ≤ R.length ∧ lastV R k = js.map kvI
  len : R.length ≤ m
  bytes : (recsB R).length ≤ bnd R.length
theorem PlainS.nil : PlainS 0 [] := ⟨fun _ => ⟨[], List.Pairwise.nil, (fun _ h => absurd h (by simp)), Nat.le_refl _, rfl⟩, Nat.le_refl _, Nat.le_refl _⟩
theorem PlainS.later {m : Nat} {R : List (Nm × List SibV)} (h : PlainS m R) : PlainS (m + 1) R :=
  ⟨fun k => by
    obtain ⟨js, h1, h2, h3, h4⟩ := h.last k; exact ⟨js, h1, fun j hj => Nat.lt_succ_of_lt (h2 j hj), h3, h4⟩, Nat.le_succ_of_le h.len, h.bytes⟩
theorem PlainS.merge {m : Nat} {R : List (Nm × List SibV)} (h : PlainS m R) (k : Nm) {L0 L' : List SibV} (e : L0.map keyV = lastV R k) (hM : MergeOf L0 [sibI m] L') :
    L'.map keyV = lastV R k ++ [kvI m] ∧ PlainS (m + 1) (R ++ [(k, L')]) ∧ L0.length ≠ L'.length ∧ 0 < L'.length ∧ L'.length ≤ R.length + 1 ∧ (R.length < 64 → GoodL L') ∧ (recsB R).length + (recO k L').length + 8 ≤ bnd (R.length + 1) := by
  obtain ⟨js, h1, h2, h3, h4⟩ := h.last k; have hB0 : BareL L0 js := ⟨e.trans h4, h1⟩; have hB := bare_merge hB0 h2 hM; have hl0 := hB0.len; have hl := hB.len; rw [List.length_append, List.length_singleton] at hl
  have hlast : L'.map keyV = lastV R k ++ [kvI m] := by
    rw [hB.keys, h4, List.map_append]; rfl
  have hrec := recO_bare (k := k) hB; rw [List.length_append, List.length_singleton] at hrec
  have hbytes : (recsB R).length + (recO k L').length + 8 ≤ bnd (R.length + 1) := by
    have := h.bytes; unfold bnd; omega
  refine ⟨hlast, ⟨fun k' => ?_, ?_, ?_⟩, by omega, by omega, by omega, fun hR => hB.good (by rw [List.length_append, List.length_singleton]; omega), hbytes⟩
  · rw [lastV_app]
    by_cases hk : k = k'
    · subst hk; rw [if_pos rfl]
      exact ⟨js ++ [m], hB.up, fun j hj => by
        rcases List.mem_append.1 hj with hj | hj
        · exact Nat.lt_succ_of_lt (h2 j hj)
        · rw [List.mem_singleton.1 hj]; exact Nat.lt_succ_self _, by rw [List.length_append, List.length_append]; simp; omega, hB.keys⟩
    · rw [if_neg hk]; obtain ⟨js', g1, g2, g3, g4⟩ := h.last k'; exact ⟨js', g1, fun j hj => Nat.lt_succ_of_lt (g2 j hj), by rw [List.length_append]; omega, g4⟩
  · rw [List.length_append, List.length_singleton]; have := h.len; omega
  · rw [recsB_app, List.length_append, recB_len, List.length_append, List.length_singleton]; omega
def WantP (W : Nat → Bool) (R0 R1 : List (Nm × List SibV)) : Prop := ∀ k, W (leafOf k) = false → lastV R0 k = lastV R1 k
theorem WantP.nil (W : Nat → Bool) : WantP W [] [] := fun _ _ => rfl
theorem WantP.one {W : Nat → Bool} {R0 R1 : List (Nm × List SibV)} (h : WantP W R0 R1) (k : Nm) (L : List SibV) : WantP (fun a => W a || decide (a = leafOf k)) (R0 ++ [(k, L)]) R1 := fun k' hk => by
  simp only [Bool.or_eq_false_iff, decide_eq_false_iff_not] at hk; rw [lastV_app, if_neg (fun e => hk.2 (by rw [← e])), h k' hk.1]
theorem WantP.both {W : Nat → Bool} {R0 R1 : List (Nm × List SibV)} (h : WantP W R0 R1) {k : Nm} {L0 L1 : List SibV} {v : KV} (e0 : L0.map keyV = lastV R0 k ++ [v]) (e1 : L1.map keyV = lastV R1 k ++ [v]) : WantP W (R0 ++ [(k, L0)]) (R1 ++ [(k, L1)]) := fun k' hk => by
  rw [lastV_app, lastV_app]
  by_cases e : k = k'
  · subst e; rw [if_pos rfl, if_pos rfl, e0, e1, h k hk]
  · rw [if_neg e, if_neg e, h k' hk]
def encKV (v : KV) : List UInt8 := ((hiB 8 v.1.1 ++ hiB 8 v.1.2) ++ outBs (encCtx v.2.1)) ++ outBs v.2.2
def digV (V : List KV) : List UInt8 := shaL (hiB 1 V.length ++ V.flatMap encKV)
theorem encSibs_keys (L : List SibV) : encSibs L = hiB 1 (L.map keyV).length ++ (L.map keyV).flatMap encKV := by
  unfold encSibs; rw [List.length_map, List.flatMap_map]; rfl
def digN (V : List KV) : Nm := ⟨digV V, shaL_length _⟩
def lookV (V : List KV) : Option (List UInt8) := if V = [] then none else if digV V = Z32 then none else some (digV V)
structure TreeOf (V : Nm → List KV) (T : Rw) : Prop where
  sorted : SortedR T
  is : ∀ k : Nm, look T k.1 = lookV (V k)
theorem tree_done {V : Nm → List KV} : ∀ (ks : List Nm), (∀ k ∈ ks, V k ≠ []) → ∀ T : Rw, SortedR T → (∀ k ∈ ks, True) → SortedR (ks.foldl (fun T k => setR T k (digN (V k))) T) ∧ ∀ x : Nm, look (ks.foldl (fun T k => setR T k (digN (V k))) T) x.1 = if x ∈ ks then lookV (V x) else look T x.1
  | [], _, T, hT, _ => ⟨hT, fun x => by simp⟩
  | k :: ks, hk, T, hT, _ => by
    obtain ⟨h1, h2⟩ := tree_done ks (fun x hx => hk x (List.mem_cons_of_mem _ hx)) (setR T k (digN (V k))) (setR_sorted hT k _) (fun _ _ => trivial); refine ⟨h1, fun x => ?_⟩; rw [List.foldl_cons, h2 x]
    by_cases hx : x ∈ ks
    · rw [if_pos hx, if_pos (List.mem_cons_of_mem _ hx)]
    · rw [if_neg hx, look_set]; unfold upd
      by_cases e : x = k
      · subst e; rw [if_pos rfl, if_pos List.mem_cons_self]; unfold lookV; rw [if_neg (hk x List.mem_cons_self)]; rfl
      · rw [if_neg (fun q => e (Subtype.ext q)), if_neg (fun q => by rcases List.mem_cons.1 q with q | q; exact e q; exact hx q)]
theorem tree_of {V : Nm → List KV} {ks : List Nm} (h : ∀ x, x ∈ ks ↔ V x ≠ []) : TreeOf V (ks.foldl (fun T k => setR T k (digN (V k))) []) := by
  obtain ⟨h1, h2⟩ := tree_done ks (fun k hk => (h k).1 hk) [] List.Pairwise.nil (fun _ _ => trivial); refine ⟨h1, fun k => ?_⟩; rw [h2 k]
  by_cases hk : k ∈ ks
  · rw [if_pos hk]
  · rw [if_neg hk, look_nil]; unfold lookV; rw [if_pos (Classical.not_not.1 fun q => hk ((h k).2 q))]
theorem leaf_same {S T : Rw} (hS : SortedR S) (hT : SortedR T) {a : Nat} (h : ∀ k : Nm, leafOf k = a → look S k.1 = look T k.1) : leafR S a = leafR T a := by
  have h1 := leafOf_rows hS a; have h2 := leafOf_rows hT a
  have h3 : LeafOf (look T) (a : Int) ((inLeaf S a).map fun p => p.1) := ⟨h1.1, fun x => by
    rw [h1.2.1 x]; constructor
    · rintro ⟨g1, g2⟩; exact ⟨by rw [← h x (by omega)]; exact g1, g2⟩
    · rintro ⟨g1, g2⟩; exact ⟨by rw [h x (by omega)]; exact g1, g2⟩, h1.2.2⟩
  rw [← leafL_rows hS h1, ← leafL_rows hT h3]; unfold leafL; congr 1
  unfold joinM; congr 1
  have : ∀ L : List Nm, (∀ x ∈ L, leafOf x = a) → L.flatMap (fun x => x.1 ++ (look S x.1).getD Z32) = L.flatMap fun x => x.1 ++ (look T x.1).getD Z32 := by
    intro L
    induction L with
    | nil => intro _; rfl
    | cons x L ih =>
      intro hL; rw [List.flatMap_cons, List.flatMap_cons, h x (hL x List.mem_cons_self), ih fun y hy => hL y (List.mem_cons_of_mem _ hy)]
  exact this _ fun x hx => by have := ((h1.2.1 x).1 hx).2; omega
theorem want_of {W : Nat → Bool} {R0 R1 : List (Nm × List SibV)} {S T : Rw} (h : WantP W R0 R1) (hS : TreeOf (lastV R0) S) (hT : TreeOf (lastV R1) T) {a : Nat} (ha : a ∈ levelL S T 5) : W a = true := by
  cases hW : W a with
  | true => rfl
  | false =>
    refine absurd (leaf_same hS.sorted hT.sorted (a := a) fun k hk => ?_) (leaves_unlike ha).2; rw [hS.is, hT.is, h k (by rw [hk]; exact hW)]
theorem belowL_up (l n : Nat) : (belowL l n).Pairwise (· < ·) := by
  unfold belowL; split
  · exact List.pairwise_singleton _ _
  · simp only [List.pairwise_cons, List.mem_cons, List.not_mem_nil, or_false]; refine ⟨?_, ?_, ?_, ?_, List.Pairwise.nil⟩
    · rintro a (rfl | rfl | rfl) <;> omega
    · rintro a (rfl | rfl) <;> omega
    · rintro a rfl; omega
    · intro a h; exact h.elim
theorem belowL_lt {l n m a b : Nat} (h : n < m) (ha : a ∈ belowL l n) (hb : b ∈ belowL l m) : a < b := by
  unfold belowL at ha hb; split at ha
  · rw [if_pos (by assumption)] at hb; rw [List.mem_singleton.1 ha, List.mem_singleton.1 hb]; exact h
  · rw [if_neg (by assumption)] at hb; simp only [List.mem_cons, List.not_mem_nil, or_false] at ha hb; omega
theorem unlikeL_up (S T : Rw) (l : Nat) : ∀ {at_ : List Nat}, at_.Pairwise (· < ·) → (unlikeL S T l at_).Pairwise (· < ·)
  | [], _ => List.Pairwise.nil
  | n :: at_, h => by
    rw [List.pairwise_cons] at h; have ih := unlikeL_up S T l h.2
    have hin : ∀ (L : List Nat) b, b ∈ unlikeL S T l L → ∃ m ∈ L, b ∈ belowL l m := by
      intro L b hb; obtain ⟨m, hm, hb⟩ := List.mem_flatMap.1 hb; split at hb
      · cases hb
      · exact ⟨m, hm, hb⟩
    unfold unlikeL; rw [List.flatMap_cons]; refine List.pairwise_append.2 ⟨?_, ih, fun a ha b hb => ?_⟩
    · split
      · exact List.Pairwise.nil
      · exact belowL_up l n
    · obtain ⟨m, hm, hb⟩ := hin at_ b hb
      split at ha
      · cases ha
      · exact belowL_lt (h.1 m hm) ha hb
theorem levelL_up (S T : Rw) : ∀ l, (levelL S T l).Pairwise (· < ·)
  | 0 => List.pairwise_singleton _ _
  | l + 1 => unlikeL_up S T l (levelL_up S T l)
def cntL (G : List Nat) (a : Nat) : Nat := (G.filter fun x => decide (x < a)).length
theorem cntL_zero (G : List Nat) : cntL G 0 = 0 := by
  unfold cntL; rw [List.length_eq_zero_iff, List.filter_eq_nil_iff]; intro x _; simp
theorem cntL_end {G : List Nat} {m : Nat} (h : ∀ x ∈ G, x < m) : cntL G m = G.length := by
  unfold cntL; rw [List.filter_eq_self.2 fun x hx => by simpa using h x hx]
theorem cntL_le (G : List Nat) (a : Nat) : cntL G a ≤ G.length := List.length_filter_le _ _
theorem cntL_skip {G : List Nat} {a : Nat} (h : a ∉ G) : cntL G (a + 1) = cntL G a := by
  unfold cntL; congr 1
  refine List.filter_congr fun x hx => ?_; refine decide_eq_decide.2 ⟨fun q => ?_, fun q => by omega⟩; have : x ≠ a := fun e => h (e ▸ hx); omega
theorem cntL_at : ∀ {G : List Nat} {a : Nat}, G.Pairwise (· < ·) → (a ∈ G ↔ G[cntL G a]? = some a)
  | [], a, _ => by simp
  | x :: G, a, h => by
    rw [List.pairwise_cons] at h; rcases Nat.lt_trichotomy x a with hx | hx | hx
    · have e : cntL (x :: G) a = cntL G a + 1 := by
        unfold cntL; rw [List.filter_cons, if_pos (by simpa using hx), List.length_cons]
      rw [e, List.getElem?_cons_succ, ← cntL_at h.2, List.mem_cons]; exact ⟨fun q => by rcases q with q | q; omega; exact q, .inr⟩
    · have e : cntL (x :: G) a = 0 := by
        unfold cntL; rw [List.length_eq_zero_iff, List.filter_eq_nil_iff]; intro y hy; rcases List.mem_cons.1 hy with rfl | hy
        · simp; omega
        · have := h.1 y hy; simp; omega
      rw [e, hx]; simp
    · have e : cntL (x :: G) a = 0 := by
        unfold cntL; rw [List.length_eq_zero_iff, List.filter_eq_nil_iff]; intro y hy; rcases List.mem_cons.1 hy with rfl | hy
        · simp; omega
        · have := h.1 y hy; simp; omega
      rw [e]; simp only [List.getElem?_cons_zero, Option.some.injEq, List.mem_cons]; exact ⟨fun q => by rcases q with q | q; exact q.symm; have := h.1 a q; omega, fun q => .inl q.symm⟩
theorem cntL_hit {G : List Nat} {a : Nat} (hG : G.Pairwise (· < ·)) (h : a ∈ G) : cntL G (a + 1) = cntL G a + 1 := by
  induction G with
  | nil => cases h
  | cons x G ih =>
    rw [List.pairwise_cons] at hG; rcases List.mem_cons.1 h with rfl | hm
    · have e1 : cntL (a :: G) (a + 1) = cntL G (a + 1) + 1 := by
        unfold cntL; rw [List.filter_cons, if_pos (by simp), List.length_cons]
      have e2 : cntL (a :: G) a = cntL G a := by
        unfold cntL; rw [List.filter_cons, if_neg (by simp)]
      rw [e1, e2, cntL_skip (fun q => by have := hG.1 a q; omega)]
    · have hx := hG.1 a hm
      have e1 : ∀ b, x < b → cntL (x :: G) b = cntL G b + 1 := by
        intro b hb; unfold cntL; rw [List.filter_cons, if_pos (by simpa using hb), List.length_cons]
      rw [e1 _ hx, e1 _ (by omega), ih hG.2 hm]
theorem met_of {S T : Rw} {a : Nat} (ha : a < 256) (h : a ∉ levelL S T 5) : ∃ k, k ≤ 4 ∧ nodeR S k (a / 4 ^ k) = nodeR T k (a / 4 ^ k) := by
  refine Classical.byContradiction fun q => h (leaf_found ha fun k hk e => q ⟨k, hk, e⟩)
end Go.Proofs.YtjpphldojbfpfaaGreatDoor
namespace Go.Proofs.YtjpphldojbfpfaaGreatDoor
open Go.RowKit
structure ShSt where
  D : Dk
  sh : Nat
  lg : Nat
  mp : Nat
def ShSt.Tu (S : ShSt) (i : Nat) : Prop := ShB S.D S.lg S.mp i
def ShSt.All (S : ShSt) (i : Nat) : Prop := S.Tu i ∨ i = S.sh
structure Fresh (lo hi : Nat) (S : ShSt) (w : World) : Prop where
  shelf : Arr w S.sh 66 (shC S.lg S.mp)
  log : ∃ L, LogIs w S.D S.lg 1 0 [] L none 0
  map : SM w S.mp 0 (fun _ => none)
  n : S.D.N = 300
  rng : ∀ i, S.All i → lo ≤ i ∧ i < hi
  dif : S.mp ≠ S.D.d ∧ S.mp ≠ S.D.gn ∧ S.mp ≠ S.D.gf ∧ S.mp ≠ S.lg
  difS : ¬ S.Tu S.sh
theorem Fresh.gr {lo hi : Nat} {S : ShSt} {w w' : World} (h : Fresh lo hi S w) (hG : Gr w w') : Fresh lo hi S w' := by
  obtain ⟨L, hL⟩ := h.log; exact ⟨h.shelf.gr hG, ⟨L, hL.gr hG⟩, h.map.gr hG, h.n, h.rng, h.dif, h.difS⟩
theorem Fresh.wide {lo hi lo' : Nat} {S : ShSt} {w : World} (h : Fresh lo hi S w) (hl : lo' ≤ lo) : Fresh lo' hi S w := ⟨h.shelf, h.log, h.map, h.n, fun i hi => ⟨Nat.le_trans hl (h.rng i hi).1, (h.rng i hi).2⟩, h.dif, h.difS⟩
theorem fresh_of {w1 w2 w3 : World} {D : Dk} {sh lg mp : Nat} {L' : List Sec} (h1 : w1.heap.size ≤ D.d) (h2 : w1.heap.size ≤ D.gn) (h3 : w1.heap.size ≤ D.gf) (hN : D.N = 300) (hd : DiskIs w2 D 0 (List.replicate 300 zeroSec) (List.replicate 300 zeroSec) none 0 0) (hG : Gr w1 w2)
    (g1 : w2.heap.size ≤ sh) (g2 : w2.heap.size ≤ lg) (g3 : w2.heap.size ≤ mp) (e1 : lg ≠ mp) (e2 : sh ≠ lg) (e3 : sh ≠ mp) (hS : Arr w3 sh 66 (shC lg mp)) (hL : LogIs w3 D lg 1 0 [] L' none 0) (hM : SM w3 mp 0 (fun _ => none)) (hI : InS (fun i => i = D.d ∨ i = D.gn ∨ i = D.gf) w2 w3) :
    Fresh w1.heap.size w3.heap.size ⟨D, sh, lg, mp⟩ w3 ∧ Gr w1 w3 := by
  have k1 := hd.arr.lt; have k2 : D.gn < w2.heap.size := by obtain ⟨R, h⟩ := hd.now; exact h.lt
  have k3 : D.gf < w2.heap.size := by obtain ⟨R, h⟩ := hd.fast; exact h.lt
  have s1 := hS.lt; have s2 := hL.log.lt; have s3 := hM.lt; have hz := hI.size; have hz1 := hG.size; refine ⟨⟨hS, ⟨L', hL⟩, hM, hN, fun i hi => ?_, ⟨?_, ?_, ?_, fun e => e1 e.symm⟩, fun e => ?_⟩, InS.gr_after hG hI fun i hi e => by omega⟩
  · rcases hi with hi | hi
    · rcases hi with rfl | rfl | rfl | rfl | rfl <;> (try simp only) <;> omega
    · subst hi
      (try simp only)
      omega
  · show mp ≠ D.d; omega
  · show mp ≠ D.gn; omega
  · show mp ≠ D.gf; omega
  · rcases e with e | e | e | e | e <;> simp only at e <;> omega
def Both (S0 S1 : ShSt) (g7 g14 : Nat) (i : Nat) : Prop := S0.Tu i ∨ S1.Tu i ∨ i = g7 ∨ i = g14
theorem Fresh.is {lo hi : Nat} {S : ShSt} {w : World} {X : Nat → Prop} (h : Fresh lo hi S w) (ho : ∀ i, X i → i < w.heap.size) (hs : ¬ X S.sh) (ht : ∀ i, S.Tu i → X i) : ShelfIs X w S.D S.sh S.lg S.mp (1 + ([] : List (Nm × List SibV)).length) ([] : List (Nm × List SibV)).length [] := by
  obtain ⟨L, hL⟩ := h.log; exact ⟨ho, h.shelf, hs, ht, ⟨L, none, 0, hL, fun ad e => by cases e⟩, ⟨_, h.map, SetsIs.none _ _⟩, (fun p hp => absurd hp (by simp)), h.dif⟩
structure Geo (lo m hi g7 g8 g14 : Nat) (S0 S1 : ShSt) : Prop where
  r0 : ∀ i, S0.All i → lo ≤ i ∧ i < m
  r1 : ∀ i, S1.All i → m ≤ i ∧ i < hi
  h7 : g7 < lo
  h8 : g8 < lo
  h14 : hi ≤ g14
  n0 : S0.D.N = 300
  n1 : S1.D.N = 300
def wantC (W : Nat → Bool) : List Value := (List.range 256).map fun a => Value.bool (W a)
theorem wantC_len (W : Nat → Bool) : (wantC W).length = 256 := by simp [wantC]
theorem wantC_at (W : Nat → Bool) {a : Nat} (ha : a < 256) : (wantC W)[a]? = some (.bool (W a)) := by simp [wantC, List.getElem?_range ha]
theorem wantC_set (W : Nat → Bool) (k : Nat) : (wantC W).set k (.bool true) = wantC fun a => W a || decide (a = k) := by
  apply List.ext_getElem?
  intro a; rw [List.getElem?_set]
  by_cases ha : a < 256
  · rw [wantC_at _ ha, wantC_at _ ha, wantC_len]
    by_cases e : k = a
    · subst e; rw [if_pos rfl, if_pos ha]; simp
    · rw [if_neg e, decide_eq_false (fun q => e q.symm), Bool.or_false]
  · have h1 : (wantC W)[a]? = none := List.getElem?_eq_none (by rw [wantC_len]; omega); have h2 : (wantC fun a => W a || decide (a = k))[a]? = none := List.getElem?_eq_none (by rw [wantC_len]; omega); rw [h1, h2, wantC_len]; split
    · rw [if_neg (by omega)]
    · rfl
structure L2M (S0 S1 : ShSt) (R0 R1 : List (Nm × List SibV)) (W : Nat → Bool) (g7 g8 g14 : Nat) (w0 wr : World) : Prop where
  sh0 : ShelfIs (Both S0 S1 g7 g14) wr S0.D S0.sh S0.lg S0.mp (1 + R0.length) R0.length R0
  sh1 : ShelfIs (Both S0 S1 g7 g14) wr S1.D S1.sh S1.lg S1.mp (1 + R1.length) R1.length R1
  a7 : Arr wr g7 25 [.pointer (some ⟨S0.sh, 0, none⟩), .pointer (some ⟨S1.sh, 0, none⟩)]
  a8 : Arr wr g8 27 [.pointer (some ⟨S0.D.d, 0, none⟩), .pointer (some ⟨S1.D.d, 0, none⟩)]
  a14 : Arr wr g14 33 (wantC W)
  gr : Gr w0 wr
section
variable {lo m hi g7 g8 g14 : Nat} {S0 S1 : ShSt} {R0 R1 : List (Nm × List SibV)} {W : Nat → Bool} {w0 wr wb : World}
theorem L2M.grow (h : L2M S0 S1 R0 R1 W g7 g8 g14 w0 wr) (hG : Gr wr wb) : L2M S0 S1 R0 R1 W g7 g8 g14 w0 wb := ⟨h.sh0.gr hG, h.sh1.gr hG, h.a7.gr hG, h.a8.gr hG, h.a14.gr hG, h.gr.trans hG⟩
theorem L2M.mrg0 (h : L2M S0 S1 R0 R1 W g7 g8 g14 w0 wr) (g : Geo lo m hi g7 g8 g14 S0 S1) (hw : w0.heap.size ≤ lo) {p : Nm × List SibV} (hs : ShelfIs (Both S0 S1 g7 g14) wb S0.D S0.sh S0.lg S0.mp (1 + R0.length + 1) (R0.length + 1) (R0 ++ [p])) (hI : InS (ShB S0.D S0.lg S0.mp) wr wb) : L2M S0 S1 (R0 ++ [p]) R1 W g7 g8 g14 w0 wb := by
  have hr : ∀ i, ShB S0.D S0.lg S0.mp i → lo ≤ i ∧ i < m := fun i q => g.r0 i (.inl q); refine ⟨by rw [List.length_append]; exact hs, h.sh1.ins hI (fun i q => .inl q) (fun i q e => ?_), hI.arr h.a7 fun q => ?_, hI.arr h.a8 fun q => ?_, hI.arr h.a14 fun q => ?_, InS.gr_after h.gr hI fun i q e => ?_⟩
  · have h1 := hr i e; have h2 := g.r1 i (.inl q); omega
  · have h1 := hr _ q; have h2 := g.h7; omega
  · have h1 := hr _ q; have h2 := g.h8; omega
  · have h1 := hr _ q; have h2 := g.h14; have h3 := g.r1 _ (.inr rfl); omega
  · have h1 := hr _ e; omega
theorem L2M.mrg1 (h : L2M S0 S1 R0 R1 W g7 g8 g14 w0 wr) (g : Geo lo m hi g7 g8 g14 S0 S1) (hw : w0.heap.size ≤ lo) {p : Nm × List SibV} (hs : ShelfIs (Both S0 S1 g7 g14) wb S1.D S1.sh S1.lg S1.mp (1 + R1.length + 1) (R1.length + 1) (R1 ++ [p])) (hI : InS (ShB S1.D S1.lg S1.mp) wr wb) : L2M S0 S1 R0 (R1 ++ [p]) W g7 g8 g14 w0 wb := by
  have hr : ∀ i, ShB S1.D S1.lg S1.mp i → m ≤ i ∧ i < hi := fun i q => g.r1 i (.inl q); have hm := g.r0 _ (.inr rfl); refine ⟨h.sh0.ins hI (fun i q => .inr (.inl q)) (fun i q e => ?_), by rw [List.length_append]; exact hs, hI.arr h.a7 fun q => ?_, hI.arr h.a8 fun q => ?_, hI.arr h.a14 fun q => ?_, InS.gr_after h.gr hI fun i q e => ?_⟩
  · have h1 := hr i e; have h2 := g.r0 i (.inl q); omega
  · have h1 := hr _ q; have h2 := g.h7; omega
  · have h1 := hr _ q; have h2 := g.h8; omega
  · have h1 := hr _ q; have h2 := g.h14; omega
  · have h1 := hr _ e; omega
theorem L2M.put (h : L2M S0 S1 R0 R1 W g7 g8 g14 w0 wr) (g : Geo lo m hi g7 g8 g14 S0 S1) (hw : w0.heap.size ≤ lo) {k : Nat} (hA : Arr wb g14 33 ((wantC W).set k (.bool true))) (hK : InK g14 wr wb) : L2M S0 S1 R0 R1 (fun a => W a || decide (a = k)) g7 g8 g14 w0 wb := by
  have hI : InS (fun i => i = g14) wr wb := InS.of_ink hK rfl; have hm := g.r0 _ (.inr rfl); have hn := g.r1 _ (.inr rfl); have h14 := g.h14; refine ⟨?_, ?_, hI.arr h.a7 fun q => ?_, hI.arr h.a8 fun q => ?_, by rw [← wantC_set]; exact hA, InS.gr_after h.gr hI fun i q e => ?_⟩
  · refine h.sh0.ins hI (fun i q => .inr (.inr (.inr q))) fun i q e => ?_; have := g.r0 i (.inl q); omega
  · refine h.sh1.ins hI (fun i q => .inr (.inr (.inr q))) fun i q e => ?_; have := g.r1 i (.inl q); omega
  · have h7 := g.h7; omega
  · have h8 := g.h8; omega
  · omega
end
end Go.Proofs.YtjpphldojbfpfaaGreatDoor
namespace Go.Proofs.YtjpphldojbfpfaaGreatDoor
open Go.RowKit
theorem sibs1 {w : World} {g : Nat} {x : SibV} (hx : SOk w x) (hA : Arr w g 45 (sibC x)) : SibsR w (some ⟨g, 0, none⟩) 1 [x] := by
  refine ⟨rfl, fun i y hy => ?_⟩; have hi := (List.getElem?_eq_some_iff.1 hy).1; have h0 : i = 0 := by simpa using hi
  subst h0; have : x = y := by simpa using hy
  subst this; exact ⟨⟨g, 0, rfl, by simpa using Arr.range hA⟩, hx⟩
theorem sibI_ok {m : Nat} (hm : m < 10) (w : World) : SOk w (sibI m) :=
  ⟨⟨Nat.le_refl _, (by show 1 ≤ 16; omega), Nat.succ_le_succ (Nat.zero_le _), (by show m + 1 ≤ 1099511627776; omega)⟩, ctx0_ok, no_ctx0 (Nat.succ_le_succ (Nat.zero_le _)), Nat.zero_le _, DotsR.nil w none, fun _ => rfl, ⟨rfl, fun j u h => by simp [sibI, u8s] at h⟩, fun _ => rfl⟩
theorem sibI_good (m : Nat) : GoodL [sibI m] :=
  ⟨(by simp), List.pairwise_singleton _ _, fun x hx => by
    rw [List.mem_singleton.1 hx]; exact seen_bare (fun y hy => by rw [List.mem_singleton.1 hy]; rfl) (Nat.succ_le_succ (Nat.zero_le _))⟩
theorem area300 : areaN 300 * 64 = 9536 := by decide
theorem plain_asks {m : Nat} {R : List (Nm × List SibV)} (h : PlainS m R) (hm : m < 10) (k : Nm) {N : Nat} (hN : N = 300) : ∀ L0 L', L0.map keyV = lastV R k → MergeOf L0 [sibI m] L' → L0.length ≠ L'.length ∧ 0 < L'.length ∧ L'.length ≤ 32 ∧ GoodL L' ∧ (recsB R).length + (recO k L').length + 8 ≤ areaN N * 64 := fun L0 L' e hM => by
  obtain ⟨_, _, h1, h2, h3, h4, h5⟩ := h.merge k e hM; have hl := h.len; have hb := bnd_le (n := R.length + 1) (by omega); rw [hN, area300]; exact ⟨h1, h2, by omega, h4 (by omega), by omega⟩
def KeepsN (B : Nat) (w w' : World) : Prop := ∀ g t cs, B ≤ g → Arr w g t cs → Arr w' g t cs
structure M0Q (m : Nat) (k : Nm) (S0 S1 : ShSt) (R0 R1 : List (Nm × List SibV)) (W : Nat → Bool) (g7 g8 g14 B : Nat) (w0 w1 : World) (e : Ending) (w' : World) : Prop where
  ex : ∃ L', e = .returned (.tuple #[.bool true, .int .i64 0]) ∧ PlainS (m + 1) (R0 ++ [(k, L')]) ∧ L'.map keyV = lastV R0 k ++ [kvI m] ∧ L2M S0 S1 (R0 ++ [(k, L')]) R1 W g7 g8 g14 w0 w' ∧ KeepsN B w1 w'
structure M1Q (m : Nat) (k : Nm) (S0 S1 : ShSt) (R0 R1 : List (Nm × List SibV)) (W : Nat → Bool) (g7 g8 g14 B : Nat) (w0 w1 : World) (e : Ending) (w' : World) : Prop where
  ex : ∃ L', e = .returned (.tuple #[.bool true, .int .i64 0]) ∧ PlainS (m + 1) (R1 ++ [(k, L')]) ∧ L'.map keyV = lastV R1 k ++ [kvI m] ∧ L2M S0 S1 R0 (R1 ++ [(k, L')]) W g7 g8 g14 w0 w'
section
variable {lo mi hi g7 g8 g14 m : Nat} {S0 S1 : ShSt} {R0 R1 : List (Nm × List SibV)} {W : Nat → Bool} {w0 wr w1 : World}
theorem law_mrg0 (h : L2M S0 S1 R0 R1 W g7 g8 g14 w0 w1) (hp : PlainS m R0) (hm : m < 10) (g : Geo lo mi hi g7 g8 g14 S0 S1) (hw : w0.heap.size ≤ lo) (hB : g14 < wr.heap.size) (k : Nm) {q c : Nat} (hA : Arr w1 q 45 (sibC (sibI m))) :
    Calls Tryz.prog 6 #[.pointer (some ⟨S0.sh, 0, none⟩), .agg (u8s k.1).toArray, .slice (some ⟨q, 0, none⟩) 1 c] w1 fun e w' => M0Q m k S0 S1 R0 R1 W g7 g8 g14 wr.heap.size w0 w1 e w' := by
  have hl := hp.len; refine (Smerge_any (c := c) k h.sh0 (sibs1 (sibI_ok hm w1) hA) (sibI_good m) (by omega) (plain_asks hp hm k g.n0) (by omega) (by omega)).mono ?_; rintro e w' ⟨L0, L', h1, h2, rfl, hs, hI⟩; obtain ⟨k1, k2, _⟩ := hp.merge k h1 h2; refine ⟨L', rfl, k2, k1, h.mrg0 g hw hs hI, fun b t cs hb hA => hI.arr hA fun e => ?_⟩; have h3 := g.r0 b (.inl e); have h4 := g.r1 _ (.inr rfl); have h5 := g.h14; omega
theorem law_mrg1 (h : L2M S0 S1 R0 R1 W g7 g8 g14 w0 w1) (hp : PlainS m R1) (hm : m < 10) (g : Geo lo mi hi g7 g8 g14 S0 S1) (hw : w0.heap.size ≤ lo) (k : Nm) {q c : Nat} (hA : Arr w1 q 45 (sibC (sibI m))) :
    Calls Tryz.prog 6 #[.pointer (some ⟨S1.sh, 0, none⟩), .agg (u8s k.1).toArray, .slice (some ⟨q, 0, none⟩) 1 c] w1 fun e w' => M1Q m k S0 S1 R0 R1 W g7 g8 g14 wr.heap.size w0 w1 e w' := by
  have hl := hp.len; refine (Smerge_any (c := c) k h.sh1 (sibs1 (sibI_ok hm w1) hA) (sibI_good m) (by omega) (plain_asks hp hm k g.n1) (by omega) (by omega)).mono ?_; rintro e w' ⟨L0, L', h1, h2, rfl, hs, hI⟩; obtain ⟨k1, k2, _⟩ := hp.merge k h1 h2; exact ⟨L', rfl, k2, k1, h.mrg1 g hw hs hI⟩
end
theorem L2M.start {lo mi hi g7 g8 g14 : Nat} {S0 S1 : ShSt} {w0 wr wb : World} (f0 : Fresh lo mi S0 wr) (f1 : Fresh mi hi S1 wr) (h7 : Arr wr g7 25 [.pointer (some ⟨S0.sh, 0, none⟩), .pointer (some ⟨S1.sh, 0, none⟩)]) (h8 : Arr wr g8 27 [.pointer (some ⟨S0.D.d, 0, none⟩), .pointer (some ⟨S1.D.d, 0, none⟩)])
    (l7 : g7 < lo) (l8 : g8 < lo) (hhi : hi ≤ wr.heap.size) (hG : Gr w0 wr) (hGb : Gr wr wb) (e14 : wr.heap.size ≤ g14) (h14 : Arr wb g14 33 (wantC fun _ => false)) : Geo lo mi hi g7 g8 g14 S0 S1 ∧ L2M S0 S1 [] [] (fun _ => false) g7 g8 g14 w0 wb := by
  have q0 := f0.rng _ (.inr rfl); have q1 := f1.rng _ (.inr rfl); have hz := hGb.size; have l14 := h14.lt
  have ho : ∀ i, Both S0 S1 g7 g14 i → i < wb.heap.size := fun i hi => by
    rcases hi with e | e | e | e
    · have := f0.rng i (.inl e); omega
    · have := f1.rng i (.inl e); omega
    · omega
    · omega
  refine ⟨⟨f0.rng, f1.rng, l7, l8, by omega, f0.n, f1.n⟩, ⟨(f0.gr hGb).is ho (fun e => ?_) (fun i e => .inl e), (f1.gr hGb).is ho (fun e => ?_) (fun i e => .inr (.inl e)), h7.gr hGb, h8.gr hGb, h14, hG.trans hGb⟩⟩
  · rcases e with e | e | e | e
    · exact f0.difS e
    · have := f1.rng _ (.inl e); omega
    · omega
    · omega
  · rcases e with e | e | e | e
    · have := f0.rng _ (.inl e); omega
    · exact f1.difS e
    · omega
    · omega
end Go.Proofs.YtjpphldojbfpfaaGreatDoor
namespace Go.Proofs.YtjpphldojbfpfaaGreatDoor
open Go.RowKit
attribute [local go_sem] Oper.semAt_some
def CollS (D : DataW Unit) (left : Lit → Bool) (ss : List Nam) : Prop := ss.Nodup ∧ ∀ x : Nam, x ∈ ss ↔ (Maps.has D (nLit x) = true ∧ left (nLit x) = false)
theorem CollS.start (D : DataW Unit) : CollS D (Maps.has D) [] := ⟨List.nodup_nil, fun x => by cases Maps.has D (nLit x) <;> simp⟩
theorem sameKey_nam (x y : Nam) : (nLit y).sameKey (nLit x) = decide (y = x) := by
  by_cases h : y = x
  · subst h; rw [decide_eq_true rfl]; simp [nLit, Lit.sameKey]
  · rw [decide_eq_false h]; exact Maps.sameKey_ne fun e => h (nLit_inj e)
theorem CollS.step {D : DataW Unit} {left : Lit → Bool} {ss : List Nam} (h : CollS D left ss) {x : Nam} {y : DataW Unit} (hlk : left (nLit x) = true) (hat : ∀ zd, D.atKey (nLit x) zd = y) : CollS D (fun z => left z && !z.sameKey (nLit x)) (ss ++ [x]) := by
  have hhas := Maps.has_true_of_atKey hat; have hnew : x ∉ ss := fun hx => by have := ((h.2 x).1 hx).2; rw [hlk] at this; cases this
  refine ⟨List.nodup_append.2 ⟨h.1, by simp, fun a ha b hb => by simp at hb; subst hb; exact fun e => hnew (e ▸ ha)⟩, fun z => ?_⟩; rw [List.mem_append, List.mem_singleton, h.2 z]; show _ ↔ (_ ∧ (left (nLit z) && !(nLit z).sameKey (nLit x)) = false); rw [sameKey_nam]
  by_cases hz : z = x
  · subst hz; simp [hhas]
  · simp [hz]
set_option maxRecDepth 100000 in
set_option maxHeartbeats 4000000 in
theorem skeys_in (F : Fence) (n : Nat) (hf : F.fn 128) (hro : F.round = none) (hn : 1 ≤ n) (l Bm b nn : Nat) (D0 : DataW Unit) (J Jx : List Nam → World → Prop)
    (hY : ∀ pre x W, J pre W → pre.length < Maps.size D0 → YieldAt F (n - 1) Tryz.prog l #[nameV x] W fun e W' =>
      (e = .returned (.bool true) ∧ J (pre ++ [x]) W' ∧ KeepsWalks W W') ∨ (e = .returned (.bool false) ∧ Jx (pre ++ [x]) W'))
    (W : World) (hJ : AbidesFrom W.heap.size J) (hm : W.cell? ⟨Bm, 0, none⟩ = some (.map (some b))) (hown : W.ownsMap Tryz.prog 69 RSl b nn D0) (h0 : J [] W) :
    CallsIn F n Tryz.prog 128 #[.func (.yield l) #[] #[], .pointer (some ⟨Bm, 0, none⟩)] W fun e W' => (∃ v, e = .returned v) ∧
      ((∃ ss : List Nam, (CollS D0 (fun _ => false) ss ∧ ss.length ≤ Maps.size D0) ∧ J ss W') ∨ (∃ pre : List Nam, pre.Nodup ∧ Jx pre W')) := by
  refine callsIn_of_wp Tryz.func128 rfl hf ?_ hro; simp only [Tryz.ntmps128, List.size_toArray, List.length_cons, List.length_nil, Nat.reduceAdd, Nat.reduceSub, Array.replicate_succ, Array.replicate_zero, List.push_toArray, List.append_toArray, List.nil_append, List.cons_append]
  gi_wp2_with (first
    | (gi_at_range; refine wpListIn_range_own _ rfl _ 64 rfl 69 46 keyedN Tryz.underlying64 _ b nn _ rfl hown ?_; intro w0 hrg0 hg0 hs0)
    | gi_in)
  go_frame
  gi_loopw [3] (fun _ wr => ∃ (left : Lit → Bool) (cnt : Nat) (ss : List Nam), wr.ranges Tryz.prog 69 RSl b W.heap.size nn D0 left cnt ∧ ss.length + cnt ≤ Maps.size D0 ∧ CollS D0 left ss ∧ J ss wr)
    (fun _ wr => wr.rangeLeft b W.heap.size)
  case atStart =>
    exact ⟨_, _, [], hrg0, by simp, CollS.start D0, hJ [] W w0 none h0 hg0 (fun r e => by cases e)⟩
  case round =>
    obtain ⟨left, cnt, ss, hrg, hcs, hC, hJs⟩ := hrel
    gi_wp2_with (first
      | (gi_at_next; refine wpListIn_next_ranges _ rfl _ rfl 69 keyedN RSl nameV slV (fun key kl hk => by obtain ⟨x, e, _⟩ := keyOf_name_inv hk; exact ⟨x, e⟩) (fun v y hv => by obtain ⟨s, e, _⟩ := RSl_inv hv; exact ⟨s, e⟩) b W.heap.size nn _ _ _ rfl hrg ?_ ?_)
      | gi_in)
    · intro hc0 hl0
      gi_wp2
      go_end0
      have e : left = fun _ => false := funext hl0; rw [e] at hC; exact ⟨⟨_, rfl⟩, .inl ⟨ss, ⟨hC, by omega⟩, hJs⟩⟩
    · intro x sA sn sc kl yd yp w2 cnt2 hkey hlk hv hat hrg2 hlt hg2 hs2 hen; obtain rfl : nLit x = kl := Option.some.inj ((keyOf_name x).symm.trans hkey); have hJ2 : J ss w2 := hJ ss wr w2 (some W.heap.size) hJs hg2 (fun r e => by cases e; exact ⟨Nat.le_refl _, hrg.iter_walk⟩); have hC2 := hC.step hlk hat; clear hs2
      gi_wp2_with (first
        | (refine wpListIn_new (w := w2) (t := 69) rfl _ _ _ rfl w2.heap.size (nameC x) rfl rfl rfl (by rw [nameC_len]; kernel_rfl) (infoName x) (nameC_one x) ?_
           intro w3 hA3 hG3 hg3; have hJ3 : J ss w3 := hJ ss w2 w3 none hJ2 hg3 (fun r e => by cases e); have hk2 : KeepsWalks w2 w3 := KeepsWalks.of_grownBy hg3 (fun j o e => by cases e); have hY3 : YieldAt F (n - 1) Tryz.prog l #[.agg (nameC x).toArray] w3 _ := hY ss x w3 hJ3 (by omega); obtain ⟨fn, tmps, assign, body, hy, hR⟩ := hY3)
        | (refine wpListIn_loadT rfl _ _ rfl w2.heap.size 0 rfl (nameC x) (Arr.range hA3) Tryz.underlying69 rfl (infoName x) ?_)
        | gi_in)
      refine hR.mono ?_; rintro e W3 (⟨rfl, hJ4, hk3⟩ | ⟨rfl, hJx3⟩)
      · gi_wp2
        have hrg3 := (hrg2.of_walks hk2).of_walks hk3
        go_roundw
        case rel => exact ⟨_, cnt2, ss ++ [x], hrg3, by simp; omega, hC2, hJ4⟩
        case measure => rw [hrg3.left_eq, hrg.left_eq]; exact hlt
      · gi_wp2
        refine bodyPost_ret (results_none rfl _ _ _) rfl ?_; exact ⟨⟨_, rfl⟩, .inr ⟨ss ++ [x], hC2.1, hJx3⟩⟩
theorem skeys_stops (F : Fence) (n : Nat) (hf : F.fn 128) (hro : F.round = none) (hn : 1 ≤ n) (Bm b nn : Nat) (D0 : DataW Unit) (w : World) (hBm : Bm < w.heap.size)
    (hm : w.cell? ⟨Bm, 0, none⟩ = some (.map (some b))) (hown : w.ownsMap Tryz.prog 69 RSl b nn D0) :
    SeqStops F n Tryz.prog 128 #[.pointer (some ⟨Bm, 0, none⟩)] nameV (fun ss => CollS D0 (fun _ => false) ss ∧ ss.length ≤ Maps.size D0) (fun pre => pre.Nodup) (Maps.size D0) w := fun l J Jx W hW hJ _ hY h0 => by
  have hown' : W.ownsMap Tryz.prog 69 RSl b nn D0 := by
    have hbl := hown.lt; obtain ⟨es, clock, hb, Ft, hs, hD⟩ := hown; exact ⟨es, clock, (hW.block b hbl).trans hb, Ft, hs, hD⟩
  exact skeys_in F n hf hro hn l Bm b nn D0 J Jx hY W hJ ((hW.cell (p := ⟨Bm, 0, none⟩) hBm).trans hm) hown' h0
end Go.Proofs.YtjpphldojbfpfaaGreatDoor
