/- A drawn region with whole arrays stored in it, each into a block of its own: `return a, b`. No condition. -/
import Derived.Test.YtmcnnjcbgbdeeaaDoorKitA
import Derived.Test.YtmcnnjcbgbdeeaaDoorMem
namespace Go.Proofs.YtmcnnjcbgbdeeaaDoor
open Go.RowKit
section
variable {P : Program} {ops : Array Oper} {Q : Exit → Act → World → Prop}
theorem wp_region_cutG (G : World → World → Prop) (hrefl : ∀ w, G w w) (htrans : ∀ a b c, G a b → G b c → G a c) {id : Nat} {a0 : Act} {w0 : World} (hm : P.follows .mixedOrders = true) (L : List (Value → World → Prop)) (z : Nat) (hz : z < ops.size) (htail : tailB ops z = true) (hdom : domB ops z = true) (hB : ssaB ops a0.tmps.size = true)
    (hL : ∀ φ ∈ L, ∀ v w w', φ v w → G w w' → φ v w')
    (hstep : AllFrom (StepL P ops Q a0 w0.drew G L) 0 (ops.toList.take z))
    (hend : ∀ (vs : Nat → Value) w, G w0.drew w → AllFrom (fun i _ => (L.getD i AnyV) (vs i) w) 0 (ops.toList.take z) → wpList P ops Q (ops.toList.drop z) (putAll vs 0 (ops.toList.take z) a0) w) : (Code.region id ops true).wp P Q a0 w0 := by
  have hΦ : ∀ i v (w w' : World), (L.getD i AnyV) v w → G w w' → (L.getD i AnyV) v w' := by
    intro i v w w' h hg
    rcases Nat.lt_or_ge i L.length with hlt | hge
    · simp only [List.getD_eq_getElem?_getD, List.getElem?_eq_getElem hlt, Option.getD_some] at h ⊢
      exact hL _ (List.getElem_mem hlt) v w w' h hg
    · simp only [List.getD_eq_getElem?_getD, List.getElem?_eq_none hge, Option.getD_none] at h ⊢
      exact trivial
  refine wp_region_any hm (wpAny_cut a0 w0.drew (fun i => L.getD i AnyV) G z hz htail hdom htrans hΦ hB ?_ ?_ ops.size (Array.replicate ops.size false) a0 w0.drew (by simp) ?_ ?_ (hrefl _) ⟨rfl, rfl, ?_, fun _ _ => rfl, ?_⟩)
  · intro i o hi hiz a w hg hF
    have h1 := allFrom_get (ops.toList.take z) 0 hstep i o (by rw [List.getElem?_take]; simp [hiz, hi])
    simp only [Nat.zero_add] at h1
    exact h1 a w hg hF
  · intro a w hg hnew hdef hsize hold
    have hch : ∀ i, ∃ v, i < z → (∀ d, ((ops[i]?).bind (fun o : Oper => o.dst)) = some d → a.tmps[d]? = some v) ∧ (L.getD i AnyV) v w := by
      intro i
      by_cases hi : i < z
      · obtain ⟨v, h1, h2⟩ := hnew i _ (Array.getElem?_eq_getElem (by omega : i < ops.size)) hi
        exact ⟨v, fun _ => ⟨fun d hd => h1 d (by simpa [(by omega : i < ops.size)] using hd), h2⟩⟩
      · exact ⟨undef, fun h => absurd h hi⟩
    have hvs := fun i => Classical.choose_spec (hch i)
    have hall : ∀ (os : List Oper) (k : Nat), k + os.length ≤ z → AllFrom (fun i _ => (L.getD i AnyV) (Classical.choose (hch i)) w) k os := by
      intro os
      induction os with
      | nil => intro k _; exact trivial
      | cons o os ih => intro k hk; simp at hk; exact ⟨(hvs k (by omega)).2, ih (k + 1) (by omega)⟩
    have hend' := hend (fun i => Classical.choose (hch i)) w hg (hall _ 0 (by simp; omega))
    have hlen : ∀ j (o : Oper), (ops.toList.take z)[j]? = some o → j < z ∧ ops[j]? = some o := by
      intro j o h
      rw [List.getElem?_take] at h
      split at h
      · exact ⟨by assumption, by simpa using h⟩
      · cases h
    have ha : putAll (fun i => Classical.choose (hch i)) 0 (ops.toList.take z) a0 = a := by
      have h1 := putAll_defers (fun i => Classical.choose (hch i)) (ops.toList.take z) 0 a0
      have h2 := putAll_size (fun i => Classical.choose (hch i)) (ops.toList.take z) 0 a0
      have h3 : (putAll (fun i => Classical.choose (hch i)) 0 (ops.toList.take z) a0).tmps = a.tmps := by
        apply Array.ext_getElem?
        intro t
        by_cases hex : ∃ (j : Nat) (o : Oper), (ops.toList.take z)[j]? = some o ∧ o.dst = some t
        · obtain ⟨j, o, hj0, hd⟩ := hex
          obtain ⟨hjz, hj⟩ := hlen j o hj0
          have hlt : j < ops.size := by omega
          have hb := List.all_eq_true.1 hB j (by simpa using hlt)
          rw [hj] at hb
          simp only [Bool.and_eq_true, hd, decide_eq_true_eq] at hb
          rw [putAll_new _ t (ops.toList.take z) 0 a0 j o hj0 hd hb.1.2 fun k o' hk hd' => ?_, (hvs j hjz).1 t (by rw [hj]; exact hd)]
          · simp
          · rcases Nat.decEq k j with hkj | hkj
            · exfalso
              obtain ⟨hkz, hk'⟩ := hlen k o' hk
              have hltk : k < ops.size := by omega
              have h5 := List.all_eq_true.1 hb.2 k (by simpa using hltk)
              rw [hk'] at h5
              simp [hkj, hd'] at h5
            · exact hkj
        · rw [putAll_old _ t (ops.toList.take z) 0 a0 (fun (o : Oper) ho e => hex (by obtain ⟨j, hj⟩ := List.getElem?_of_mem ho; exact ⟨j, o, hj, e⟩)), hold t fun i o hi hiz e => hex ⟨i, o, by rw [List.getElem?_take]; simp [hiz, hi], e⟩]
      have h4 := hdef
      cases a
      cases hq : putAll (fun i => Classical.choose (hch i)) 0 (ops.toList.take z) a0
      rw [hq] at h1 h3
      simp only at h1 h3 h4
      rw [h1, h3, h4]
    rw [← ha]
    exact hend'
  · unfold unlisted
    rw [List.filter_eq_self.2]
    · simp
    · intro i hi
      simp only [List.mem_range] at hi
      simp [hi]
  · intro k _
    rw [Array.getD_eq_getD_getElem?, Array.getElem?_replicate]
    split <;> simp
  · intro i o hi hl
    exfalso
    rw [Array.getD_eq_getD_getElem?, Array.getElem?_replicate] at hl
    split at hl <;> simp at hl
  · intro i o e hi hl
    exfalso
    rw [Array.getD_eq_getD_getElem?, Array.getElem?_replicate] at hl
    split at hl <;> simp at hl


end
/-- Below B nothing has turned; of S's blocks each holds what it held, or what it is to hold; all others are as they were. -/
structure GM (B : Nat) (S : List (Nat × TypeId × List Value)) (w w' : World) : Prop where
  below : Below B w w'
  other : ∀ g t cs, (∀ s ∈ S, s.1 ≠ g) → Arr w g t cs → Arr w' g t cs
  done : ∀ s ∈ S, Arr w s.1 s.2.1 s.2.2 → Arr w' s.1 s.2.1 s.2.2
  there : ∀ s ∈ S, (∃ cs, cs.length = s.2.2.length ∧ Arr w s.1 s.2.1 cs) → ∃ cs, cs.length = s.2.2.length ∧ Arr w' s.1 s.2.1 cs
section
variable {B : Nat} {S : List (Nat × TypeId × List Value)}
theorem GM.refl (w : World) : GM B S w w := ⟨Below.refl _ _, fun _ _ _ _ h => h, fun _ _ h => h, fun _ _ h => h⟩
theorem GM.trans {a b c : World} (h : GM B S a b) (k : GM B S b c) : GM B S a c :=
  ⟨h.below.trans k.below, fun g t cs hs ha => k.other g t cs hs (h.other g t cs hs ha), fun s hs ha => k.done s hs (h.done s hs ha), fun s hs ha => k.there s hs (h.there s hs ha)⟩
theorem GM.store {w w' : World} {s : Nat × TypeId × List Value} (hs : s ∈ S) (hd : S.Pairwise fun a b => b.1 < a.1) (hB : B ≤ s.1) (ha : Arr w' s.1 s.2.1 s.2.2) (hb : Below s.1 w w')
    (ho : ∀ g t cs, g ≠ s.1 → Arr w g t cs → Arr w' g t cs) : GM B S w w' := by
  have hone : ∀ x ∈ S, x.1 = s.1 → x = s := by
    intro x hx he
    obtain ⟨i, hi, rfl⟩ := List.mem_iff_getElem.1 hx
    obtain ⟨j, hj, rfl⟩ := List.mem_iff_getElem.1 hs
    have hp := List.pairwise_iff_getElem.1 hd
    rcases Nat.lt_trichotomy i j with h | h | h
    · have := hp i j hi hj h; omega
    · subst h; rfl
    · have := hp j i hj hi h; omega
  refine ⟨hb.mono hB, fun g t cs hg hA => ho g t cs (fun e => hg s hs e.symm) hA, fun x hx hA => ?_, fun x hx hA => ?_⟩
  · by_cases he : x.1 = s.1
    · rw [hone x hx he]; exact ha
    · exact ho _ _ _ he hA
  · by_cases he : x.1 = s.1
    · rw [hone x hx he]; exact ⟨_, rfl, ha⟩
    · obtain ⟨cs, h1, h2⟩ := hA
      exact ⟨cs, h1, ho _ _ _ he h2⟩
variable {P : Program} {ops : Array Oper} {Q : Exit → Act → World → Prop} {L : List (Value → World → Prop)} {i : Nat} {o : Oper} {a : Act} {w : World}
theorem g_val (hi : ops[i]? = some o) (hg : o.guard = none) (x : Value) (hφ : L.getD i AnyV = IsV x) (hrun : (execOp a.eval o).run P w = .ok (.value x) w) :
    wpOp P ops Q i (fun a' w' => ∃ v, a' = a.put o.dst v ∧ (L.getD i AnyV) v w' ∧ GM B S w w') a w := by
  rw [hφ]
  unfold wpOp
  have hw : Region.wanted o (yielded ops a.tmps) = true := by simp [Region.wanted, hg]
  simp only [hi, hw, if_true, Oper.wp, hrun, Oper.upon]
  exact .inl ⟨x, rfl, rfl, GM.refl _⟩
theorem g_load (hi : ops[i]? = some o) (hg : o.guard = none) (ty : TypeId) (x : Operand) (ho : o.op = .load ty x) (g : Nat) (hx : a.eval x = .pointer (some ⟨g, 0, none⟩)) (t : TypeId) (cs : List Value) (d : TypeDesc) (hA : Arr w g t cs)
    (hu : P.underlying ty = some d) (hd : d.isRow = true) (hs : (P.info? ty).map (·.size) = some cs.length) (hφ : L.getD i AnyV = IsV (.agg cs.toArray)) :
    wpOp P ops Q i (fun a' w' => ∃ v, a' = a.put o.dst v ∧ (L.getD i AnyV) v w' ∧ GM B S w w') a w := by
  rw [hφ]
  unfold wpOp
  have hw : Region.wanted o (yielded ops a.tmps) = true := by simp [Region.wanted, hg]
  simp only [hi, hw, if_true]
  exact .inl (wp_load_mid ty x ho g 0 hx cs d hA.range hu hd hs ⟨_, rfl, rfl, GM.refl _⟩)
theorem g_store (hi : ops[i]? = some o) (hg : o.guard = none) (ty : TypeId) (x y : Operand) (ho : o.op = .store ty x y) (g : Nat) (t : TypeId) (vs : List Value) (hx : a.eval x = .pointer (some ⟨g, 0, none⟩)) (hy : a.eval y = .agg vs.toArray)
    (hs : (g, t, vs) ∈ S) (hd : S.Pairwise fun a b => b.1 < a.1) (hB : B ≤ g) (ht : ∃ cs, cs.length = vs.length ∧ Arr w g t cs) (hsz : (P.info? ty).map (·.size) = some vs.length) (h1 : ∀ v ∈ vs, v.oneCell' = true)
    (hφ : L.getD i AnyV = fun _ w => Arr w g t vs) :
    wpOp P ops Q i (fun a' w' => ∃ v, a' = a.put o.dst v ∧ (L.getD i AnyV) v w' ∧ GM B S w w') a w := by
  rw [hφ]
  unfold wpOp
  have hw : Region.wanted o (yielded ops a.tmps) = true := by simp [Region.wanted, hg]
  simp only [hi, hw, if_true]
  obtain ⟨cs, hl, hA⟩ := ht
  refine .inl (wp_store_mid ty x y ho g 0 vs.toArray hx hy (by have := hA.there; rw [hl] at this; simpa using this) (by simpa using hsz) (all_oneCell_toArray h1) ?_)
  have hA2 := hA.setAll vs hl.symm
  exact ⟨undef, rfl, hA2, GM.store (s := (g, t, vs)) hs hd hB hA2 (below_setCells (Nat.le_refl _) _ _ _) fun g' t' cs' hne hA' => hA'.setCells_other hne _ _⟩
end
theorem results_cell2_row {P : Program} {fn : Func} {p q : Tmp} {ty ty2 : TypeId} (h : fn.results = #[.cell p ty, .cell q ty2]) (tmps : Array Value) (w : World) (g g2 : Nat) (t t2 : TypeId) (cs cs2 : Array Value) (fr fr2 : Nat × Nat) (d d2 : TypeDesc)
    (hp : tmps.getD p undef = .pointer (some ⟨g, 0, none⟩)) (hg : w.heap[g]? = some (.cells cs t fr))
    (hu : P.underlying ty = some d) (hd : (match d with | .struct _ | .array _ _ => true | _ => false) = true) (hi : (P.info? ty).map (·.size) = some cs.size)
    (hp2 : tmps.getD q undef = .pointer (some ⟨g2, 0, none⟩)) (hg2 : w.heap[g2]? = some (.cells cs2 t2 fr2))
    (hu2 : P.underlying ty2 = some d2) (hd2 : (match d2 with | .struct _ | .array _ _ => true | _ => false) = true) (hi2 : (P.info? ty2).map (·.size) = some cs2.size) :
    (results fn tmps).run P w = .ok (.tuple #[.agg cs, .agg cs2]) w := by
  have hp' : tmps[p]?.getD undef = .pointer (some ⟨g, 0, none⟩) := by simpa using hp
  have hp2' : tmps[q]?.getD undef = .pointer (some ⟨g2, 0, none⟩) := by simpa using hp2
  simp [results, h, hp', hp2', asAddr, run_loadVar_row w g t ty cs fr d hg hu hd hi, run_loadVar_row w g2 t2 ty2 cs2 fr2 d2 hg2 hu2 hd2 hi2]
end Go.Proofs.YtmcnnjcbgbdeeaaDoor
