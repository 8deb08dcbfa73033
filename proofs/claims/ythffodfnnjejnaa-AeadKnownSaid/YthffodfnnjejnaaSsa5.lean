/- A region whose order is open: reads and calls, then a whole array into one that is there. No condition. -/
import Derived.Test.YthffodfnnjejnaaKitA
namespace Go.Proofs.Ythffodfnnjejnaa
open Go.RowKit
section
variable {P : Program} {ops : Array Oper} {Q : Exit → Act → World → Prop}
/-- **A REGION THAT DRAWS ITS ORDER: ITS LAST OPERATION, BEHIND ALL OTHERS, STORES.** -/
theorem wp_region_put {id : Nat} {a0 : Act} {w0 : World} (hm : P.follows .mixedOrders = true) (L : List (Value → World → Prop)) (z : Nat) (oz : Oper) (hz : ops.size = z + 1) (hoz : ops[z]? = some oz) (hzd : oz.dst = none) (hdom : domB ops z = true) (hB : ssaB ops a0.tmps.size = true)
    (hL : ∀ φ ∈ L, ∀ v w w', φ v w → Gr w w' → φ v w')
    (hstep : AllFrom (StepL P ops Q a0 w0.drew Gr L) 0 (ops.toList.take z)) (R : World → World → Prop)
    (hlast : ∀ a w, Gr w0.drew w → Finds ops (fun i => L.getD i AnyV) a0 z oz a w → wpOp P ops Q z (fun a' w' => ∃ v, a' = a.put oz.dst v ∧ R w w') a w)
    (hend : ∀ (vs : Nat → Value) w w', Gr w0.drew w → R w w' → Q .normal (putAll vs 0 (ops.toList.take z) a0) w') : (Code.region id ops true).wp P Q a0 w0 := by
  have hΦ : ∀ i v (w w' : World), (L.getD i AnyV) v w → Gr w w' → (L.getD i AnyV) v w' := by
    intro i v w w' h hg
    rcases Nat.lt_or_ge i L.length with hlt | hge
    · simp only [List.getD_eq_getElem?_getD, List.getElem?_eq_getElem hlt, Option.getD_some] at h ⊢
      exact hL _ (List.getElem_mem hlt) v w w' h hg
    · simp only [List.getD_eq_getElem?_getD, List.getElem?_eq_none hge, Option.getD_none] at h ⊢
      exact trivial
  refine wp_region_any hm (wpAny_ssaS a0 w0.drew (fun i => L.getD i AnyV) Gr z oz hz hoz hzd hdom (fun _ _ _ => Gr.trans) hΦ hB ?_ R hlast ?_ ops.size (Array.replicate ops.size false) a0 w0.drew (by simp) ?_ ?_ (Gr.refl _) ⟨rfl, rfl, ?_, fun _ _ => rfl, ?_⟩)
  · intro i o hi hiz a w hg hF
    have h1 := allFrom_get (ops.toList.take z) 0 hstep i o (by rw [List.getElem?_take]; simp [hiz, hi])
    simp only [Nat.zero_add] at h1
    exact h1 a w hg hF
  · intro a w w' hg hR hnew hdef hsize hold
    have hch : ∀ i, ∃ v, i < z → (∀ d, ((ops[i]?).bind (fun o : Oper => o.dst)) = some d → a.tmps[d]? = some v) := by
      intro i
      by_cases hi : i < z
      · obtain ⟨v, h1, h2⟩ := hnew i _ (Array.getElem?_eq_getElem (by omega : i < ops.size)) hi
        exact ⟨v, fun _ d hd => h1 d (by simpa [(by omega : i < ops.size)] using hd)⟩
      · exact ⟨undef, fun h => absurd h hi⟩
    have hvs := fun i => Classical.choose_spec (hch i)
    have hend' := hend (fun i => Classical.choose (hch i)) w w' hg hR
    have hlen : ∀ j (o : Oper), (ops.toList.take z)[j]? = some o → j < z ∧ ops[j]? = some o := by
      intro j o h
      rw [List.getElem?_take] at h
      split at h
      · exact ⟨by assumption, by simpa using h⟩
      · cases h
    have ha : putAll (fun i => Classical.choose (hch i)) 0 (ops.toList.take z) a0 = a := by
      have h1 := putAll_defers (fun i => Classical.choose (hch i)) (ops.toList.take z) 0 a0
      have h2 := putAll_size (fun i => Classical.choose (hch i)) (ops.toList.take z) 0 a0
      have h3 : (putAll (fun i => Classical.choose (hch i)) 0 (ops.toList.take z) a0).tmps = a.tmps := by
        apply Array.ext_getElem?
        intro t
        by_cases hex : ∃ (j : Nat) (o : Oper), (ops.toList.take z)[j]? = some o ∧ o.dst = some t
        · obtain ⟨j, o, hj0, hd⟩ := hex
          obtain ⟨hjz, hj⟩ := hlen j o hj0
          have hlt : j < ops.size := by omega
          have hb := List.all_eq_true.1 hB j (by simpa using hlt)
          rw [hj] at hb
          simp only [Bool.and_eq_true, hd, decide_eq_true_eq] at hb
          rw [putAll_new _ t (ops.toList.take z) 0 a0 j o hj0 hd hb.1.2 fun k o' hk hd' => ?_, (hvs j) hjz t (by rw [hj]; exact hd)]
          · simp
          · rcases Nat.decEq k j with hkj | hkj
            · exfalso
              obtain ⟨hkz, hk'⟩ := hlen k o' hk
              have hltk : k < ops.size := by omega
              have h5 := List.all_eq_true.1 hb.2 k (by simpa using hltk)
              rw [hk'] at h5
              simp [hkj, hd'] at h5
            · exact hkj
        · rw [putAll_old _ t (ops.toList.take z) 0 a0 (fun (o : Oper) ho e => hex (by obtain ⟨j, hj⟩ := List.getElem?_of_mem ho; exact ⟨j, o, hj, e⟩)), hold t fun i o hi hiz e => hex ⟨i, o, by rw [List.getElem?_take]; simp [hiz, hi], e⟩]
      have h4 := hdef
      cases a
      cases hq : putAll (fun i => Classical.choose (hch i)) 0 (ops.toList.take z) a0
      rw [hq] at h1 h3
      simp only at h1 h3 h4
      rw [h1, h3, h4]
    rw [← ha]
    exact hend'
  · unfold unlisted
    rw [List.filter_eq_self.2]
    · simp
    · intro i hi
      simp only [List.mem_range] at hi
      simp [hi]
  · rw [Array.getD_eq_getD_getElem?, Array.getElem?_replicate]
    split <;> simp
  · intro i o hi hl
    exfalso
    rw [Array.getD_eq_getD_getElem?, Array.getElem?_replicate] at hl
    split at hl <;> simp at hl
  · intro i o e hi hl
    exfalso
    rw [Array.getD_eq_getD_getElem?, Array.getElem?_replicate] at hl
    split at hl <;> simp at hl


/-- The same where it is a whole array. -/
theorem wp_region_putA {id : Nat} {a0 : Act} {w0 : World} (hm : P.follows .mixedOrders = true) (L : List (Value → World → Prop)) (z : Nat) (oz : Oper) (hz : ops.size = z + 1) (hoz : ops[z]? = some oz) (hzd : oz.dst = none) (hdom : domB ops z = true) (hB : ssaB ops a0.tmps.size = true)
    {b : Nat} {t : TypeId} {cs : List Value} (hA : Arr w0 b t cs) (ty : TypeId) (x y : Operand) (ho : oz.op = .store ty x y) (hgd : oz.guard = none) (vs : List Value) (hn : cs.length = vs.length) (hi : (P.info? ty).map (·.size) = some vs.length) (h1 : ∀ v ∈ vs, v.oneCell' = true)
    (hL : ∀ φ ∈ L, ∀ v w w', φ v w → Gr w w' → φ v w')
    (hstep : AllFrom (StepL P ops Q a0 w0.drew Gr L) 0 (ops.toList.take z))
    (hlast : ∀ a w, Gr w0.drew w → Finds ops (fun i => L.getD i AnyV) a0 z oz a w → a.eval x = .pointer (some ⟨b, 0, none⟩) ∧ a.eval y = .agg vs.toArray)
    (hend : ∀ (us : Nat → Value) w', Arr w' b t vs → Below b w0 w' → (∀ g t' cs', g ≠ b → Arr w0 g t' cs' → Arr w' g t' cs') → Q .normal (putAll us 0 (ops.toList.take z) a0) w') : (Code.region id ops true).wp P Q a0 w0 := by
  refine wp_region_put hm L z oz hz hoz hzd hdom hB hL hstep (fun w w' => w' = w.setCells b 0 vs) ?_ ?_
  · intro a w hG hF
    obtain ⟨hx, hy⟩ := hlast a w hG hF
    have hA' := hA.gr ((Gr.drew w0).trans hG)
    unfold wpOp
    have hw : Region.wanted oz (yielded ops a.tmps) = true := by simp [Region.wanted, hgd]
    simp only [hoz, hw, if_true]
    refine .inl (wp_store_mid ty x y ho b 0 vs.toArray hx hy (by have := hA'.there; rw [hn] at this; simpa using this) (by simpa using hi) (all_oneCell_toArray h1) ⟨undef, rfl, rfl⟩)
  · rintro us w w' hG rfl
    have hG' := (Gr.drew w0).trans hG
    exact hend us _ ((hA.gr hG').setAll vs hn.symm) ((hG'.mono (Nat.le_of_lt hA.lt)).trans (below_setCells (Nat.le_refl _) _ _ _)) (fun g t' cs' hg hA2 => (hA2.gr hG').setCells_other hg _ _)
end
end Go.Proofs.Ythffodfnnjejnaa
