/- A region whose order is open, each operation told once, with a further invariant over what is listed. No condition. -/
import Derived.Test.YthpgldfjcancjaaDoorKitA
namespace Go.Proofs.YthpgldfjcancjaaDoor
open Go.RowKit
section
variable {P : Program} {ops : Array Oper} {Q : Exit → Act → World → Prop}
theorem wpAny_ssaJ (J : Array Bool → Act → World → Prop) (a0 : Act) (w0 : World) (Φ : Nat → Value → World → Prop) (G : World → World → Prop) (htrans : ∀ a b c, G a b → G b c → G a c)
    (hΦ : ∀ i v w w', Φ i v w → G w w' → Φ i v w') (hB : ssaB ops a0.tmps.size = true)
    (hstep : ∀ i o, ops[i]? = some o → ∀ listed : Array Bool, listed.size = ops.size → listed.getD i false = false → (∀ e ∈ o.after, Region.binds .any e = true → listed.getD e.on false = true) → ∀ a w, G w0 w → J listed a w → Finds ops Φ a0 i o a w → wpOp P ops Q i (fun a' w' => ∃ v, a' = a.put o.dst v ∧ Φ i v w' ∧ G w w' ∧ J (listed.setIfInBounds i true) a' w') a w)
    (hend : ∀ a w, G w0 w → Ssa ops Φ a0 (Array.replicate ops.size true) a w → J (Array.replicate ops.size true) a w → Q .normal a w) :
    ∀ (fuel : Nat) (listed : Array Bool) (a : Act) (w : World), listed.size = ops.size → unlisted ops listed = fuel → G w0 w → Ssa ops Φ a0 listed a w → J listed a w → wpAny P .any ops Q fuel listed a w := by
  have hb : ∀ i oi, ops[i]? = some oi → (∀ e ∈ oi.after, Region.binds .any e = true → e.on < i) ∧ (∀ d, oi.dst = some d → d < a0.tmps.size) ∧
      (∀ k ok d, k ≠ i → ops[k]? = some ok → ok.dst = some d → oi.dst ≠ some d ∧ (d ∈ oi.looksAt ops → oi.after.any (fun e => Region.binds .any e && e.on == k) = true ∨ ok.after.any (fun e => Region.binds .any e && e.on == i) = true)) := by
    intro i oi hi
    have hlt : i < ops.size := by
      rcases Nat.lt_or_ge i ops.size with h | h
      · exact h
      · rw [Array.getElem?_eq_none h] at hi; cases hi
    have h1 := List.all_eq_true.1 hB i (by simpa using hlt)
    rw [hi] at h1
    simp only [Bool.and_eq_true] at h1
    obtain ⟨⟨h2, h3⟩, h4⟩ := h1
    refine ⟨fun e he => ?_, fun d hd => ?_, fun k ok d hk hok hd => ?_⟩
    · have h5 := (Array.all_eq_true'.1 h2) e he
      intro hbe
      simpa [hbe] using h5
    · rw [hd] at h3; simpa using h3
    · have hlt' : k < ops.size := by
        rcases Nat.lt_or_ge k ops.size with h | h
        · exact h
        · rw [Array.getElem?_eq_none h] at hok; cases hok
      have h5 := List.all_eq_true.1 h4 k (by simpa using hlt')
      rw [hok] at h5
      simp only [hd, Bool.or_eq_true, beq_iff_eq, hk, false_or, Bool.and_eq_true, bne_iff_ne, ne_eq, Bool.not_eq_true'] at h5
      refine ⟨h5.1, fun hm => ?_⟩
      rcases h5.2 with (h6 | h6) | h6
      · rw [List.contains_iff_mem.2 hm] at h6; cases h6
      · exact .inl h6
      · exact .inr h6
  intro fuel
  induction fuel with
  | zero =>
    intro listed a w hs hu hG hI hJ
    have hall : ∀ i, i < ops.size → listed.getD i false = true := by
      intro i hi
      have h0 : (List.range ops.size).filter (fun i => !listed.getD i false) = [] := List.eq_nil_of_length_eq_zero hu
      have := List.filter_eq_nil_iff.1 h0 i (by simpa using hi)
      simpa using this
    have hl : listed = Array.replicate ops.size true := by
      apply Array.ext
      · simp [hs]
      · intro i h1 h2
        have := hall i (by omega)
        simp [h1] at this
        simp [this]
    refine ⟨?_, hend a w hG (hl ▸ hI) (hl ▸ hJ)⟩
    unfold Region.ready
    rw [List.filter_eq_nil_iff]
    intro i hi
    have := hall i (by simpa using hi)
    rw [← getD_true_false listed i (by simp at hi; omega)] at this
    simp [this]
  | succ fuel ih =>
    intro listed a w hs hu hG hI hJ
    refine ⟨fun hr => ?_, fun i hi => ?_⟩
    · exfalso
      -- the least that is not listed may come up
      have hex : ∃ i, i < ops.size ∧ listed.getD i false = false := by
        have h0 : (List.range ops.size).filter (fun i => !listed.getD i false) ≠ [] := by
          intro h; unfold unlisted at hu; rw [h] at hu; simp at hu
        obtain ⟨i, hi⟩ := List.exists_mem_of_ne_nil _ h0
        rw [List.mem_filter] at hi
        exact ⟨i, by simpa using hi.1, by simpa using hi.2⟩
      obtain ⟨i, ⟨hi1, hi2⟩, hmin⟩ := exists_least hex
      have : i ∈ Region.ready .any ops listed := by
        rw [mem_ready]
        refine ⟨by rw [getD_true_false listed i (by omega)]; exact hi2, _, Array.getElem?_eq_getElem hi1, fun e he hbe => ?_⟩
        have h1 := (hb i _ (Array.getElem?_eq_getElem hi1)).1 e he hbe
        by_cases h2 : listed.getD e.on false = true
        · exact h2
        · exact absurd ⟨by omega, by simpa using h2⟩ (hmin e.on h1)
      rw [hr] at this
      cases this
    · obtain ⟨hun, oi, hoi, hall⟩ := mem_ready.1 hi
      have hlt : i < ops.size := by
        rcases Nat.lt_or_ge i ops.size with h | h
        · exact h
        · rw [Array.getElem?_eq_none h] at hoi; cases hoi
      rw [getD_true_false listed i (by omega)] at hun
      obtain ⟨b1, b2, b3⟩ := hb i oi hoi
      have hset : ∀ k, (listed.setIfInBounds i true).getD k false = (if k = i then true else listed.getD k false) := by
        intro k
        by_cases hk : k = i
        · subst hk; simp [Array.getD_eq_getD_getElem?, Array.getElem?_setIfInBounds_self_of_lt (by omega : k < listed.size)]
        · simp [Array.getD_eq_getD_getElem?, Array.getElem?_setIfInBounds_ne (Ne.symm hk), hk]
      have hdep : ∀ k, oi.after.any (fun e => Region.binds .any e && e.on == k) = true → listed.getD k false = true := by
        intro k hk
        rw [Array.any_eq_true'] at hk
        obtain ⟨e, he, hek⟩ := hk
        simp only [Bool.and_eq_true, beq_iff_eq] at hek
        rw [← hek.2]
        exact hall e he hek.1
      have hF : Finds ops Φ a0 i oi a w := by
        refine ⟨hI.defers, hI.size, fun k ok d hok hd _ hk => ?_, fun d hd hno => ?_⟩
        · obtain ⟨v, hv, hφ⟩ := hI.new k ok hok (hdep k hk)
          exact ⟨v, hv d hd, hφ⟩
        · apply hI.old
          intro k ok hok hlk hkd
          by_cases hki : k = i
          · subst hki; rw [hun] at hlk; cases hlk
          · rcases (b3 k ok d hki hok hkd).2 hd with h1 | h1
            · rw [hno k ok hok hkd hki] at h1; cases h1
            · rw [Array.any_eq_true'] at h1
              obtain ⟨e, he, hek⟩ := h1
              simp only [Bool.and_eq_true, beq_iff_eq] at hek
              have := hI.closed k ok e hok hlk he hek.1
              rw [hek.2, hun] at this
              cases this
      refine wpOp_mono (fun a' w' h => ?_) (hstep i oi hoi listed hs hun hall a w hG hJ hF)
      obtain ⟨v, rfl, hφ, hg, hJ2⟩ := h
      have hput : ∀ t, oi.dst ≠ some t → (a.put oi.dst v).tmps[t]? = a.tmps[t]? := by
        intro t ht
        cases hd : oi.dst with
        | none => rfl
        | some d =>
          have hne : d ≠ t := fun e => ht (by rw [hd, e])
          simp [Act.put, Array.getElem?_setIfInBounds_ne hne]
      refine ih _ _ _ (by simp [hs]) ?_ (htrans _ _ _ hG hg) ⟨?_, ?_, ?_, ?_, ?_⟩ hJ2
      · -- one fewer
        unfold unlisted at hu ⊢
        have e1 : (List.range ops.size).filter (fun k => !(listed.setIfInBounds i true).getD k false) = ((List.range ops.size).filter fun k => !listed.getD k false).erase i := by
          rw [List.Nodup.erase_eq_filter (List.Pairwise.filter _ List.nodup_range), List.filter_filter]
          apply List.filter_congr
          intro k _
          rw [hset k]
          by_cases hk : k = i
          · simp [hk]
          · simp [hk]
        rw [e1, List.length_erase_of_mem (by rw [List.mem_filter]; exact ⟨by simpa using hlt, by simp [hun]⟩), hu]
        omega
      · cases hd : oi.dst <;> simp [Act.put, hI.defers]
      · cases hd : oi.dst <;> simp [Act.put, hI.size]
      · intro k ok hok hlk
        rw [hset k] at hlk
        by_cases hki : k = i
        · subst hki
          rw [hoi] at hok; injection hok with hok; subst hok
          refine ⟨v, fun d hd => ?_, hφ⟩
          have := b2 d hd
          rw [hd]
          simp [Act.put, Array.getElem?_setIfInBounds_self_of_lt (by rw [hI.size]; exact this : d < a.tmps.size)]
        · rw [if_neg hki] at hlk
          obtain ⟨u, hu1, hu2⟩ := hI.new k ok hok hlk
          refine ⟨u, fun d hd => ?_, hΦ _ _ _ _ hu2 hg⟩
          rw [hput d (b3 k ok d hki hok hd).1]
          exact hu1 d hd
      · intro t ht
        have h1 : oi.dst ≠ some t := ht i oi hoi (by rw [hset i]; simp)
        rw [hput t h1]
        apply hI.old
        intro k ok hok hlk
        exact ht k ok hok (by rw [hset k]; split <;> simp_all)
      · intro k ok e hok hlk he hbe
        rw [hset k] at hlk
        rw [hset e.on]
        by_cases hki : k = i
        · subst hki
          rw [hoi] at hok; injection hok with hok; subst hok
          split
          · rfl
          · exact hall e he hbe
        · rw [if_neg hki] at hlk
          split
          · rfl
          · exact hI.closed k ok e hok hlk he hbe


theorem wp_region_ssaJ (J : Array Bool → Act → World → Prop) {id : Nat} {a0 : Act} {w0 : World} (hm : P.follows .mixedOrders = true) (Φ : Nat → Value → World → Prop) (G : World → World → Prop) (htrans : ∀ a b c, G a b → G b c → G a c)
    (hΦ : ∀ i v w w', Φ i v w → G w w' → Φ i v w') (hB : ssaB ops a0.tmps.size = true) (hG : G w0.drew w0.drew) (hJ : J (Array.replicate ops.size false) a0 w0.drew)
    (hstep : ∀ i o, ops[i]? = some o → ∀ listed : Array Bool, listed.size = ops.size → listed.getD i false = false → (∀ e ∈ o.after, Region.binds .any e = true → listed.getD e.on false = true) → ∀ a w, G w0.drew w → J listed a w → Finds ops Φ a0 i o a w → wpOp P ops Q i (fun a' w' => ∃ v, a' = a.put o.dst v ∧ Φ i v w' ∧ G w w' ∧ J (listed.setIfInBounds i true) a' w') a w)
    (hend : ∀ (vs : Nat → Value) w, G w0.drew w → (∀ i, i < ops.size → Φ i (vs i) w) → J (Array.replicate ops.size true) (putAll vs 0 ops.toList a0) w → Q .normal (putAll vs 0 ops.toList a0) w) : (Code.region id ops true).wp P Q a0 w0 := by
  refine wp_region_any hm (wpAny_ssaJ J a0 w0.drew Φ G htrans hΦ hB hstep (fun a w hg hI hJ1 => ?_) ops.size (Array.replicate ops.size false) a0 w0.drew (by simp) ?_ hG ⟨rfl, rfl, ?_, fun _ _ => rfl, ?_⟩ hJ)
  · have hch : ∀ i, ∃ v, i < ops.size → (∀ d, ((ops[i]?).bind (fun o : Oper => o.dst)) = some d → a.tmps[d]? = some v) ∧ Φ i v w := by
      intro i
      by_cases hi : i < ops.size
      · obtain ⟨v, h1, h2⟩ := hI.new i _ (Array.getElem?_eq_getElem hi) (by simp [hi])
        exact ⟨v, fun _ => ⟨fun d hd => h1 d (by simpa [hi] using hd), h2⟩⟩
      · exact ⟨undef, fun h => absurd h hi⟩
    have hvs := fun i => Classical.choose_spec (hch i)
    have hend' := hend (fun i => Classical.choose (hch i)) w hg fun i hi => (hvs i hi).2
    have ha : putAll (fun i => Classical.choose (hch i)) 0 ops.toList a0 = a := by
      have h1 := putAll_defers (fun i => Classical.choose (hch i)) ops.toList 0 a0
      have h2 := putAll_size (fun i => Classical.choose (hch i)) ops.toList 0 a0
      have h3 : (putAll (fun i => Classical.choose (hch i)) 0 ops.toList a0).tmps = a.tmps := by
        apply Array.ext_getElem?
        intro t
        by_cases hex : ∃ (j : Nat) (o : Oper), ops[j]? = some o ∧ o.dst = some t
        · obtain ⟨j, o, hj, hd⟩ := hex
          have hlt : j < ops.size := by
            rcases Nat.lt_or_ge j ops.size with h | h
            · exact h
            · rw [Array.getElem?_eq_none h] at hj; cases hj
          have hb := List.all_eq_true.1 hB j (by simpa using hlt)
          rw [hj] at hb
          simp only [Bool.and_eq_true, hd, decide_eq_true_eq] at hb
          rw [putAll_new _ t ops.toList 0 a0 j o (by simpa using hj) hd hb.1.2 fun k o' hk hd' => ?_, (hvs j hlt).1 t (by rw [hj]; exact hd)]
          · simp
          · rcases Nat.decEq k j with hkj | hkj
            · exfalso
              have hk' : ops[k]? = some o' := by simpa using hk
              have hltk : k < ops.size := by
                rcases Nat.lt_or_ge k ops.size with h | h
                · exact h
                · rw [Array.getElem?_eq_none h] at hk'; cases hk'
              have h5 := List.all_eq_true.1 hb.2 k (by simpa using hltk)
              rw [hk'] at h5
              simp [hkj, hd'] at h5
            · exact hkj
        · rw [putAll_old _ t ops.toList 0 a0 (fun (o : Oper) ho e => hex (by obtain ⟨j, hj⟩ := List.getElem?_of_mem ho; exact ⟨j, o, by simpa using hj, e⟩)), hI.old t fun i o hi _ e => hex ⟨i, o, hi, e⟩]
      have h4 := hI.defers
      cases a
      cases hq : putAll (fun i => Classical.choose (hch i)) 0 ops.toList a0
      rw [hq] at h1 h3
      simp only at h1 h3 h4
      rw [h1, h3, h4]
    rw [← ha] at hJ1 ⊢
    exact hend' hJ1
  · unfold unlisted
    rw [List.filter_eq_self.2]
    · simp
    · intro i hi
      simp only [List.mem_range] at hi
      simp [hi]
  · intro i o hi hl
    exfalso
    rw [Array.getD_eq_getD_getElem?, Array.getElem?_replicate] at hl
    split at hl <;> simp at hl
  · intro i o e hi hl
    exfalso
    rw [Array.getD_eq_getD_getElem?, Array.getElem?_replicate] at hl
    split at hl <;> simp at hl

/-- What a step is told of. -/
def StepJ (P : Program) (ops : Array Oper) (Q : Exit → Act → World → Prop) (J : Array Bool → Act → World → Prop) (G : World → World → Prop) (a0 : Act) (w0 : World) (L : List (Value → World → Prop)) (i : Nat) (o : Oper) : Prop :=
  ∀ listed : Array Bool, listed.size = ops.size → listed.getD i false = false → (∀ e ∈ o.after, Region.binds .any e = true → listed.getD e.on false = true) → ∀ a w, G w0 w → J listed a w → Finds ops (fun i => L.getD i AnyV) a0 i o a w → wpOp P ops Q i (fun a' w' => ∃ v, a' = a.put o.dst v ∧ (L.getD i AnyV) v w' ∧ G w w' ∧ J (listed.setIfInBounds i true) a' w') a w
theorem wp_region_ssaJL (J : Array Bool → Act → World → Prop) (G : World → World → Prop) (htrans : ∀ a b c, G a b → G b c → G a c) {id : Nat} {a0 : Act} {w0 : World} (hm : P.follows .mixedOrders = true) (L : List (Value → World → Prop)) (hB : ssaB ops a0.tmps.size = true) (hrefl : G w0.drew w0.drew) (hJ : J (Array.replicate ops.size false) a0 w0.drew)
    (hL : ∀ φ ∈ L, ∀ v w w', φ v w → G w w' → φ v w')
    (hstep : AllFrom (StepJ P ops Q J G a0 w0.drew L) 0 ops.toList)
    (hend : ∀ (vs : Nat → Value) w, G w0.drew w → AllFrom (fun i _ => (L.getD i AnyV) (vs i) w) 0 ops.toList → J (Array.replicate ops.size true) (putAll vs 0 ops.toList a0) w → Q .normal (putAll vs 0 ops.toList a0) w) : (Code.region id ops true).wp P Q a0 w0 := by
  refine wp_region_ssaJ J hm (fun i => L.getD i AnyV) G htrans (fun i v w w' h hg => ?_) hB hrefl hJ (fun i o hi => ops_all hstep i o hi) (fun vs w hg h hj => hend vs w hg ?_ hj)
  · rcases Nat.lt_or_ge i L.length with hlt | hge
    · simp only [List.getD_eq_getElem?_getD, List.getElem?_eq_getElem hlt, Option.getD_some] at h ⊢
      exact hL _ (List.getElem_mem hlt) v w w' h hg
    · simp only [List.getD_eq_getElem?_getD, List.getElem?_eq_none hge, Option.getD_none] at h ⊢
      exact trivial
  · have hall : ∀ (os : List Oper) (k : Nat), k + os.length ≤ ops.size → AllFrom (fun i _ => (L.getD i AnyV) (vs i) w) k os := by
      intro os
      induction os with
      | nil => intro k _; exact trivial
      | cons o os ih => intro k hk; simp at hk; exact ⟨h k (by omega), ih (k + 1) (by omega)⟩
    exact hall _ 0 (by simp)
end
end Go.Proofs.YthpgldfjcancjaaDoor
