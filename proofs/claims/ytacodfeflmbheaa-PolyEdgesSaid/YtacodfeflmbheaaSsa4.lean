/- A region whose order is open: reads and calls, then one operation that changes what was there (an append), then its result moved. No condition. -/
import Derived.Test.YtacodfeflmbheaaSsa3
namespace Go.Proofs.Ytacodfeflmbheaa
open Go.RowKit

section
variable {P : Program} {ops : Array Oper} {Q : Exit → Act → World → Prop}
theorem wpAny_ssaM (a0 : Act) (w0 : World) (Φ : Nat → Value → World → Prop) (G : World → World → Prop) (z : Nat) (oz ot : Oper) (dz : Tmp) (hz : ops.size = z + 2) (hoz : ops[z]? = some oz) (hzd : oz.dst = some dz) (hot : ops[z + 1]? = some ot) (htg : ot.guard = none) (hto : ot.op = .assign (.tmp dz) ∨ ot.op = .move (.tmp dz)) (hta : ot.after.any (fun e => Region.binds .any e && e.on == z) = true) (hdom : domB ops z = true) (htrans : ∀ a b c, G a b → G b c → G a c)
    (hΦ : ∀ i v w w', Φ i v w → G w w' → Φ i v w') (hB : ssaB ops a0.tmps.size = true)
    (hstep : ∀ i o, ops[i]? = some o → i < z → ∀ a w, G w0 w → Finds ops Φ a0 i o a w → wpOp P ops Q i (fun a' w' => ∃ v, a' = a.put o.dst v ∧ Φ i v w' ∧ G w w') a w)
    (R : Value → World → World → Prop) (hlast : ∀ a w, G w0 w → Finds ops Φ a0 z oz a w → wpOp P ops Q z (fun a' w' => ∃ v, a' = a.put oz.dst v ∧ R v w w') a w)
    (hend : ∀ (a : Act) (w w' : World) (v : Value), G w0 w → R v w w' → (∀ i o, ops[i]? = some o → i < z → ∃ v, (∀ d, o.dst = some d → a.tmps[d]? = some v) ∧ Φ i v w) → a.defers = a0.defers → a.tmps.size = a0.tmps.size →
      (∀ t, (∀ i o, ops[i]? = some o → i < z → o.dst ≠ some t) → a.tmps[t]? = a0.tmps[t]?) → Q .normal ((a.put oz.dst v).put ot.dst v) w') :
    ∀ (fuel : Nat) (listed : Array Bool) (a : Act) (w : World), listed.size = ops.size → unlisted ops listed = fuel → listed.getD z false = false → G w0 w → Ssa ops Φ a0 listed a w → wpAny P .any ops Q fuel listed a w := by
  have hb : ∀ i oi, ops[i]? = some oi → (∀ e ∈ oi.after, Region.binds .any e = true → e.on < i) ∧ (∀ d, oi.dst = some d → d < a0.tmps.size) ∧
      (∀ k ok d, k ≠ i → ops[k]? = some ok → ok.dst = some d → oi.dst ≠ some d ∧ (d ∈ oi.looksAt ops → oi.after.any (fun e => Region.binds .any e && e.on == k) = true ∨ ok.after.any (fun e => Region.binds .any e && e.on == i) = true)) := by
    intro i oi hi
    have hlt : i < ops.size := by
      rcases Nat.lt_or_ge i ops.size with h | h
      · exact h
      · rw [Array.getElem?_eq_none h] at hi; cases hi
    have h1 := List.all_eq_true.1 hB i (by simpa using hlt)
    rw [hi] at h1
    simp only [Bool.and_eq_true] at h1
    obtain ⟨⟨h2, h3⟩, h4⟩ := h1
    refine ⟨fun e he => ?_, fun d hd => ?_, fun k ok d hk hok hd => ?_⟩
    · have h5 := (Array.all_eq_true'.1 h2) e he
      intro hbe
      simpa [hbe] using h5
    · rw [hd] at h3; simpa using h3
    · have hlt' : k < ops.size := by
        rcases Nat.lt_or_ge k ops.size with h | h
        · exact h
        · rw [Array.getElem?_eq_none h] at hok; cases hok
      have h5 := List.all_eq_true.1 h4 k (by simpa using hlt')
      rw [hok] at h5
      simp only [hd, Bool.or_eq_true, beq_iff_eq, hk, false_or, Bool.and_eq_true, bne_iff_ne, ne_eq, Bool.not_eq_true'] at h5
      refine ⟨h5.1, fun hm => ?_⟩
      rcases h5.2 with (h6 | h6) | h6
      · rw [List.contains_iff_mem.2 hm] at h6; cases h6
      · exact .inl h6
      · exact .inr h6
  intro fuel
  induction fuel with
  | zero =>
    intro listed a w hs hu hzu hG hI
    exfalso
    have h0 : (List.range ops.size).filter (fun i => !listed.getD i false) = [] := List.eq_nil_of_length_eq_zero hu
    have := List.filter_eq_nil_iff.1 h0 z (by simp; omega)
    simp [hzu] at this
  | succ fuel ih =>
    intro listed a w hs hu hzu hG hI
    refine ⟨fun hr => ?_, fun i hi => ?_⟩
    · exfalso
      have hex : ∃ i, i < ops.size ∧ listed.getD i false = false := ⟨z, by omega, hzu⟩
      obtain ⟨i, ⟨hi1, hi2⟩, hmin⟩ := exists_least hex
      have : i ∈ Region.ready .any ops listed := by
        rw [mem_ready]
        refine ⟨by rw [getD_true_false listed i (by omega)]; exact hi2, _, Array.getElem?_eq_getElem hi1, fun e he hbe => ?_⟩
        have h1 := (hb i _ (Array.getElem?_eq_getElem hi1)).1 e he hbe
        by_cases h2 : listed.getD e.on false = true
        · exact h2
        · exact absurd ⟨by omega, by simpa using h2⟩ (hmin e.on h1)
      rw [hr] at this
      cases this
    · obtain ⟨hun, oi, hoi, hall⟩ := mem_ready.1 hi
      have hlt : i < ops.size := by
        rcases Nat.lt_or_ge i ops.size with h | h
        · exact h
        · rw [Array.getElem?_eq_none h] at hoi; cases hoi
      rw [getD_true_false listed i (by omega)] at hun
      obtain ⟨b1, b2, b3⟩ := hb i oi hoi
      have hset : ∀ k, (listed.setIfInBounds i true).getD k false = (if k = i then true else listed.getD k false) := by
        intro k
        by_cases hk : k = i
        · subst hk; simp [Array.getD_eq_getD_getElem?, Array.getElem?_setIfInBounds_self_of_lt (by omega : k < listed.size)]
        · simp [Array.getD_eq_getD_getElem?, Array.getElem?_setIfInBounds_ne (Ne.symm hk), hk]
      have hdep : ∀ k, oi.after.any (fun e => Region.binds .any e && e.on == k) = true → listed.getD k false = true := by
        intro k hk
        rw [Array.any_eq_true'] at hk
        obtain ⟨e, he, hek⟩ := hk
        simp only [Bool.and_eq_true, beq_iff_eq] at hek
        rw [← hek.2]
        exact hall e he hek.1
      have hF : Finds ops Φ a0 i oi a w := by
        refine ⟨hI.defers, hI.size, fun k ok d hok hd _ hk => ?_, fun d hd hno => ?_⟩
        · obtain ⟨v, hv, hφ⟩ := hI.new k ok hok (hdep k hk)
          exact ⟨v, hv d hd, hφ⟩
        · apply hI.old
          intro k ok hok hlk hkd
          by_cases hki : k = i
          · subst hki; rw [hun] at hlk; cases hlk
          · rcases (b3 k ok d hki hok hkd).2 hd with h1 | h1
            · rw [hno k ok hok hkd hki] at h1; cases h1
            · rw [Array.any_eq_true'] at h1
              obtain ⟨e, he, hek⟩ := h1
              simp only [Bool.and_eq_true, beq_iff_eq] at hek
              have := hI.closed k ok e hok hlk he hek.1
              rw [hek.2, hun] at this
              cases this
      have hclosed' : ∀ k ok e, ops[k]? = some ok → (listed.setIfInBounds i true).getD k false = true → e ∈ ok.after → Region.binds .any e = true → (listed.setIfInBounds i true).getD e.on false = true := by
        intro k ok e hok hlk he hbe
        rw [hset k] at hlk
        rw [hset e.on]
        by_cases hki : k = i
        · subst hki
          rw [hoi] at hok; injection hok with hok; subst hok
          split
          · rfl
          · exact hall e he hbe
        · rw [if_neg hki] at hlk
          split
          · rfl
          · exact hI.closed k ok e hok hlk he hbe
      have hcount : unlisted ops (listed.setIfInBounds i true) = fuel := by
        unfold unlisted at hu ⊢
        have e1 : (List.range ops.size).filter (fun k => !(listed.setIfInBounds i true).getD k false) = ((List.range ops.size).filter fun k => !listed.getD k false).erase i := by
          rw [List.Nodup.erase_eq_filter (List.Pairwise.filter _ List.nodup_range), List.filter_filter]
          apply List.filter_congr
          intro k _
          rw [hset k]
          by_cases hk : k = i
          · simp [hk]
          · simp [hk]
        rw [e1, List.length_erase_of_mem (by rw [List.mem_filter]; exact ⟨by simpa using hlt, by simp [hun]⟩), hu]
        omega
      have hiz1 : i ≠ z + 1 := by
        intro h
        subst h
        rw [hot] at hoi; injection hoi with hoi; subst hoi
        have := hdep z hta
        rw [hzu] at this; cases this
      by_cases hiz : i = z
      · subst hiz
        rw [hoz] at hoi; injection hoi with hoi; subst hoi
        have hallL := all_listed hdom hclosed' (by rw [hset i]; simp)
        have hothers : ∀ k, k < i → listed.getD k false = true := by
          intro k hk
          have := hallL k (by omega)
          rw [hset k, if_neg (by omega)] at this
          exact this
        have hlt1 : listed.getD (i + 1) false = false := by
          by_cases h : listed.getD (i + 1) false = true
          · rw [Array.any_eq_true'] at hta
            obtain ⟨e, he, hek⟩ := hta
            simp only [Bool.and_eq_true, beq_iff_eq] at hek
            have := hI.closed (i + 1) ot e hot h he hek.1
            rw [hek.2, hun] at this
            cases this
          · simpa using h
        refine wpOp_mono (fun a' w' h => ?_) (hlast a w hG hF)
        obtain ⟨v, rfl, hR⟩ := h
        have hf1 : fuel = 1 := by
          rw [← hcount]
          unfold unlisted
          have e2 : (List.range ops.size).filter (fun k => !(listed.setIfInBounds i true).getD k false) = [i + 1] := by
            rw [hz, List.range_succ, List.filter_append]
            have e3 : (List.range (i + 1)).filter (fun k => !(listed.setIfInBounds i true).getD k false) = [] := by
              rw [List.filter_eq_nil_iff]
              intro k hk
              have := hallL k (by simp at hk; omega)
              simp [this]
            rw [e3, List.nil_append]
            have e4 : (listed.setIfInBounds i true).getD (i + 1) false = false := by rw [hset, if_neg (by omega)]; exact hlt1
            simp only [List.filter_cons, e4, List.filter_nil, Bool.not_false, if_true]
          rw [e2]; rfl
        subst hf1
        have hrd : ∀ j, j ∈ Region.ready .any ops (listed.setIfInBounds i true) → j = i + 1 := by
          intro j hj
          obtain ⟨hun', oj, hoj, _⟩ := mem_ready.1 hj
          have hjl : j < ops.size := by
            rcases Nat.lt_or_ge j ops.size with h | h
            · exact h
            · rw [Array.getElem?_eq_none h] at hoj; cases hoj
          rcases Nat.lt_or_ge i j with h | h
          · omega
          · exfalso
            have := hallL j h
            rw [getD_true_false _ j (by simp; omega), this] at hun'
            cases hun'
        have hin : i + 1 ∈ Region.ready .any ops (listed.setIfInBounds i true) := by
          rw [mem_ready]
          refine ⟨?_, ot, hot, fun e he hbe => ?_⟩
          · rw [getD_true_false _ _ (by simp; omega), hset, if_neg (by omega)]; exact hlt1
          · have h1 := (hb (i + 1) ot hot).1 e he hbe
            exact hallL e.on (by omega)
        refine ⟨fun hr => ?_, fun j hj => ?_⟩
        · rw [hr] at hin; cases hin
        · obtain rfl := hrd j hj
          have hev : (a.put oz.dst v).eval (.tmp dz) = v := by
            have := b2 dz hzd
            rw [hzd]
            simp [Act.eval, Act.put, this, hI.size]
          have hstepT : wpOp P ops Q (i + 1) (fun a' w2 => a' = (a.put oz.dst v).put ot.dst v ∧ w2 = w') (a.put oz.dst v) w' := by
            have hrun : (execOp (a.put oz.dst v).eval ot).run P w' = .ok (.value v) w' := by
              rcases hto with ho | ho <;> simp [execOp, ho, hev]
            have hw : Region.wanted ot (yielded ops (a.put oz.dst v).tmps) = true := by simp [Region.wanted, htg]
            unfold wpOp
            simp only [hot, hw, if_true, Oper.wp, hrun, Oper.upon]
            first | exact .inl ⟨rfl, rfl⟩ | exact .inl ⟨trivial, trivial⟩
          refine wpOp_mono (fun a' w2 h => ?_) hstepT
          obtain ⟨rfl, rfl⟩ := h
          refine ⟨?_, hend a w w2 v hG hR (fun k ok hk hki => hI.new k ok hk (hothers k hki)) hI.defers hI.size fun t ht => hI.old t fun k o hk hl => ht k o hk ?_⟩
          · unfold Region.ready
            rw [List.filter_eq_nil_iff]
            intro k hk
            simp only [List.mem_range] at hk
            have : ((listed.setIfInBounds i true).setIfInBounds (i + 1) true).getD k false = true := by
              by_cases hk1 : k = i + 1
              · subst hk1
                simp [Array.getD_eq_getD_getElem?, Array.getElem?_setIfInBounds_self_of_lt (by simp; omega : i + 1 < (listed.setIfInBounds i true).size)]
              · have := hallL k (by omega)
                have e5 : ((listed.setIfInBounds i true).setIfInBounds (i + 1) true).getD k false = (listed.setIfInBounds i true).getD k false := by
                  simp [Array.getD_eq_getD_getElem?, Array.getElem?_setIfInBounds_ne (Ne.symm hk1)]
                rw [e5]; exact this
            rw [← getD_true_false _ k (by simp; omega)] at this
            simp [this]
          · rcases Nat.lt_or_ge k i with h | h
            · exact h
            · exfalso
              have hks : k < ops.size := by
                rcases Nat.lt_or_ge k ops.size with h | h
                · exact h
                · rw [Array.getElem?_eq_none h] at hk; cases hk
              by_cases hke : k = i
              · subst hke; rw [hun] at hl; cases hl
              · have : k = i + 1 := by omega
                subst this
                rw [hlt1] at hl; cases hl
      · refine wpOp_mono (fun a' w' h => ?_) (hstep i oi hoi (by omega) a w hG hF)
        obtain ⟨v, rfl, hφ, hg⟩ := h
        have hput : ∀ t, oi.dst ≠ some t → (a.put oi.dst v).tmps[t]? = a.tmps[t]? := by
          intro t ht
          cases hd : oi.dst with
          | none => rfl
          | some d =>
            have hne : d ≠ t := fun e => ht (by rw [hd, e])
            simp [Act.put, Array.getElem?_setIfInBounds_ne hne]
        refine ih _ _ _ (by simp [hs]) hcount (by rw [hset z, if_neg (Ne.symm hiz)]; exact hzu) (htrans _ _ _ hG hg) ⟨?_, ?_, ?_, ?_, hclosed'⟩
        · cases hd : oi.dst <;> simp [Act.put, hI.defers]
        · cases hd : oi.dst <;> simp [Act.put, hI.size]
        · intro k ok hok hlk
          rw [hset k] at hlk
          by_cases hki : k = i
          · subst hki
            rw [hoi] at hok; injection hok with hok; subst hok
            refine ⟨v, fun d hd => ?_, hφ⟩
            have := b2 d hd
            rw [hd]
            simp [Act.put, Array.getElem?_setIfInBounds_self_of_lt (by rw [hI.size]; exact this : d < a.tmps.size)]
          · rw [if_neg hki] at hlk
            obtain ⟨u, hu1, hu2⟩ := hI.new k ok hok hlk
            refine ⟨u, fun d hd => ?_, hΦ _ _ _ _ hu2 hg⟩
            rw [hput d (b3 k ok d hki hok hd).1]
            exact hu1 d hd
        · intro t ht
          have h1 : oi.dst ≠ some t := ht i oi hoi (by rw [hset i]; simp)
          rw [hput t h1]
          apply hI.old
          intro k ok hok hlk
          exact ht k ok hok (by rw [hset k]; split <;> simp_all)


/-- **A REGION THAT DRAWS ITS ORDER: ITS LAST OPERATION BUT ONE, BEHIND ALL OTHERS, DOES WHAT IT LIKES; THE LAST ONE MOVES WHAT IT YIELDS.** -/
theorem wp_region_app {id : Nat} {a0 : Act} {w0 : World} (hm : P.follows .mixedOrders = true) (L : List (Value → World → Prop)) (z : Nat) (oz ot : Oper) (dz dt : Tmp) (hz : ops.size = z + 2) (hoz : ops[z]? = some oz) (hzd : oz.dst = some dz)
    (hot : ops[z + 1]? = some ot) (htd : ot.dst = some dt) (htg : ot.guard = none) (hto : ot.op = .assign (.tmp dz) ∨ ot.op = .move (.tmp dz)) (hta : ot.after.any (fun e => Region.binds .any e && e.on == z) = true) (hdom : domB ops z = true) (hB : ssaB ops a0.tmps.size = true)
    (hL : ∀ φ ∈ L, ∀ v w w', φ v w → Gr w w' → φ v w')
    (hstep : AllFrom (StepL P ops Q a0 w0.drew Gr L) 0 (ops.toList.take z)) (R : Value → World → World → Prop)
    (hlast : ∀ a w, Gr w0.drew w → Finds ops (fun i => L.getD i AnyV) a0 z oz a w → wpOp P ops Q z (fun a' w' => ∃ v, a' = a.put oz.dst v ∧ R v w w') a w)
    (hend : ∀ (vs : Nat → Value) v w w', Gr w0.drew w → R v w w' → Q .normal (((putAll vs 0 (ops.toList.take z) a0).put (some dz) v).put (some dt) v) w') : (Code.region id ops true).wp P Q a0 w0 := by
  have hΦ : ∀ i v (w w' : World), (L.getD i AnyV) v w → Gr w w' → (L.getD i AnyV) v w' := by
    intro i v w w' h hg
    rcases Nat.lt_or_ge i L.length with hlt | hge
    · simp only [List.getD_eq_getElem?_getD, List.getElem?_eq_getElem hlt, Option.getD_some] at h ⊢
      exact hL _ (List.getElem_mem hlt) v w w' h hg
    · simp only [List.getD_eq_getElem?_getD, List.getElem?_eq_none hge, Option.getD_none] at h ⊢
      exact trivial
  refine wp_region_any hm (wpAny_ssaM a0 w0.drew (fun i => L.getD i AnyV) Gr z oz ot dz hz hoz hzd hot htg hto hta hdom (fun _ _ _ => Gr.trans) hΦ hB ?_ R hlast ?_ ops.size (Array.replicate ops.size false) a0 w0.drew (by simp) ?_ ?_ (Gr.refl _) ⟨rfl, rfl, ?_, fun _ _ => rfl, ?_⟩)
  · intro i o hi hiz a w hg hF
    have h1 := allFrom_get (ops.toList.take z) 0 hstep i o (by rw [List.getElem?_take]; simp [hiz, hi])
    simp only [Nat.zero_add] at h1
    exact h1 a w hg hF
  · intro a w w' v hg hR hnew hdef hsize hold
    have hch : ∀ i, ∃ v, i < z → (∀ d, ((ops[i]?).bind (fun o : Oper => o.dst)) = some d → a.tmps[d]? = some v) := by
      intro i
      by_cases hi : i < z
      · obtain ⟨v, h1, h2⟩ := hnew i _ (Array.getElem?_eq_getElem (by omega : i < ops.size)) hi
        exact ⟨v, fun _ d hd => h1 d (by simpa [(by omega : i < ops.size)] using hd)⟩
      · exact ⟨undef, fun h => absurd h hi⟩
    have hvs := fun i => Classical.choose_spec (hch i)
    have hend' := hend (fun i => Classical.choose (hch i)) v w w' hg hR
    have hlen : ∀ j (o : Oper), (ops.toList.take z)[j]? = some o → j < z ∧ ops[j]? = some o := by
      intro j o h
      rw [List.getElem?_take] at h
      split at h
      · exact ⟨by assumption, by simpa using h⟩
      · cases h
    have ha : putAll (fun i => Classical.choose (hch i)) 0 (ops.toList.take z) a0 = a := by
      have h1 := putAll_defers (fun i => Classical.choose (hch i)) (ops.toList.take z) 0 a0
      have h2 := putAll_size (fun i => Classical.choose (hch i)) (ops.toList.take z) 0 a0
      have h3 : (putAll (fun i => Classical.choose (hch i)) 0 (ops.toList.take z) a0).tmps = a.tmps := by
        apply Array.ext_getElem?
        intro t
        by_cases hex : ∃ (j : Nat) (o : Oper), (ops.toList.take z)[j]? = some o ∧ o.dst = some t
        · obtain ⟨j, o, hj0, hd⟩ := hex
          obtain ⟨hjz, hj⟩ := hlen j o hj0
          have hlt : j < ops.size := by omega
          have hb := List.all_eq_true.1 hB j (by simpa using hlt)
          rw [hj] at hb
          simp only [Bool.and_eq_true, hd, decide_eq_true_eq] at hb
          rw [putAll_new _ t (ops.toList.take z) 0 a0 j o hj0 hd hb.1.2 fun k o' hk hd' => ?_, (hvs j) hjz t (by rw [hj]; exact hd)]
          · simp
          · rcases Nat.decEq k j with hkj | hkj
            · exfalso
              obtain ⟨hkz, hk'⟩ := hlen k o' hk
              have hltk : k < ops.size := by omega
              have h5 := List.all_eq_true.1 hb.2 k (by simpa using hltk)
              rw [hk'] at h5
              simp [hkj, hd'] at h5
            · exact hkj
        · rw [putAll_old _ t (ops.toList.take z) 0 a0 (fun (o : Oper) ho e => hex (by obtain ⟨j, hj⟩ := List.getElem?_of_mem ho; exact ⟨j, o, hj, e⟩)), hold t fun i o hi hiz e => hex ⟨i, o, by rw [List.getElem?_take]; simp [hiz, hi], e⟩]
      have h4 := hdef
      cases a
      cases hq : putAll (fun i => Classical.choose (hch i)) 0 (ops.toList.take z) a0
      rw [hq] at h1 h3
      simp only at h1 h3 h4
      rw [h1, h3, h4]
    rw [← ha, hzd, htd]
    exact hend'
  · unfold unlisted
    rw [List.filter_eq_self.2]
    · simp
    · intro i hi
      simp only [List.mem_range] at hi
      simp [hi]
  · rw [Array.getD_eq_getD_getElem?, Array.getElem?_replicate]
    split <;> simp
  · intro i o hi hl
    exfalso
    rw [Array.getD_eq_getD_getElem?, Array.getElem?_replicate] at hl
    split at hl <;> simp at hl
  · intro i o e hi hl
    exfalso
    rw [Array.getD_eq_getD_getElem?, Array.getElem?_replicate] at hl
    split at hl <;> simp at hl

/-- The same where the last operation but one is an append onto a row of the call's own. -/
theorem wp_region_append {id : Nat} {a0 : Act} {w0 : World} (hm : P.follows .mixedOrders = true) (L : List (Value → World → Prop)) (z : Nat) (oz ot : Oper) (dz dt : Tmp) (hz : ops.size = z + 2) (hoz : ops[z]? = some oz) (hzd : oz.dst = some dz)
    (hot : ops[z + 1]? = some ot) (htd : ot.dst = some dt) (htg : ot.guard = none) (hto : ot.op = .assign (.tmp dz) ∨ ot.op = .move (.tmp dz)) (hta : ot.after.any (fun e => Region.binds .any e && e.on == z) = true) (hdom : domB ops z = true) (hB : ssaB ops a0.tmps.size = true)
    (s x : Operand) (t : TypeId) (ho : oz.op = .call { callee := .builtin .append, args := #[s, x], argTypes := #[t, t] }) (hgd : oz.guard = none)
    (base : Nat) (e : TypeId) (i : TypeInfo) (zv : Value) (bytes : Nat) (ht : P.underlying t = some (.slice e)) (hi : P.info? e = some i) (hzv : i.zero = some zv) (hsize : i.size = 1) (hby : i.bytes = bytes) (hzs : zv.cells.size = 1)
    (v9 : Value) (n : Nat) (xs : List Value) (hown : w0.ownsRow base e 1 v9 n xs) (hbase : base ≤ w0.heap.size) (m : Nat) (news : List Value) (h1 : ∀ u ∈ news, u.oneCell' = true) (hbytes : (n + m) * bytes ≤ 140737488355328) (h63 : n + m ≤ maxLen)
    (hL : ∀ φ ∈ L, ∀ v w w', φ v w → Gr w w' → φ v w')
    (hstep : AllFrom (StepL P ops Q a0 w0.drew Gr L) 0 (ops.toList.take z))
    (hlast : ∀ a w, Gr w0.drew w → Finds ops (fun i => L.getD i AnyV) a0 z oz a w → a.eval s = v9 ∧ ∃ A c, a.eval x = .slice A m c ∧ Rd w A m news)
    (hend : ∀ (vs : Nat → Value) v w', w'.ownsRow base e 1 v (n + m) (xs ++ news) → Below base w0 w' → Q .normal (((putAll vs 0 (ops.toList.take z) a0).put (some dz) v).put (some dt) v) w') : (Code.region id ops true).wp P Q a0 w0 := by
  refine wp_region_app hm L z oz ot dz dt hz hoz hzd hot htd htg hto hta hdom hB hL hstep (fun v w w' => Apped base e w w' v9 v (n + m) (xs ++ news) ∧ w.ownsRow base e 1 v9 n xs) ?_ ?_
  · intro a w hG hF
    obtain ⟨hs, A, c, hx, hr⟩ := hlast a w hG hF
    have hown' : w.ownsRow base e 1 v9 n xs := Gr.own ((Gr.drew w0).trans hG) hown
    have hsz := ((Gr.drew w0).trans hG).size
    unfold wpOp
    have hw : Region.wanted oz (yielded ops a.tmps) = true := by simp [Region.wanted, hgd]
    simp only [hoz, hw, if_true]
    refine .inl (wp_app w s x t ho base e i zv bytes ht hi hzv hsize hby hzs v9 n xs hs hown' A m c news hx hr h1 hbytes h63 (by omega) fun v' w' hA => ⟨v', rfl, hA, hown'⟩)
  · rintro vs v w w' hG ⟨hA, hown'⟩
    have hG' := (Gr.drew w0).trans hG
    exact hend vs v w' hA.own ((hG'.mono hbase).trans (hA.below hown' (by have := hG'.size; omega)))
end
end Go.Proofs.Ytacodfeflmbheaa
