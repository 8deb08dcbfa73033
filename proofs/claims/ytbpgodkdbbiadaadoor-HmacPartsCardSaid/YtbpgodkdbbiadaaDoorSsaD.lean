/- As SsaC; beside it, what some operations yield (new variables) is told to be unlike. No condition. -/
import Derived.Test.YtbpgodkdbbiadaaDoorSsaC
namespace Go.Proofs.YtbpgodkdbbiadaaDoor
open Go.RowKit

section
variable {P : Program} {ops : Array Oper} {Q : Exit → Act → World → Prop}
/-- The operations D have unlike values, where they are listed; all of them. -/
def DistL (ops : Array Oper) (D : List Nat) (listed : Array Bool) (a : Act) : Prop := ∀ i j oi oj di dj, i ∈ D → j ∈ D → i ≠ j → ops[i]? = some oi → ops[j]? = some oj → listed.getD i false = true → listed.getD j false = true → oi.dst = some di → oj.dst = some dj → a.tmps[di]? ≠ a.tmps[dj]?
def Dist (ops : Array Oper) (D : List Nat) (z : Nat) (a : Act) : Prop := ∀ i j oi oj di dj, i ∈ D → j ∈ D → i ≠ j → ops[i]? = some oi → ops[j]? = some oj → i < z → j < z → oi.dst = some di → oj.dst = some dj → a.tmps[di]? ≠ a.tmps[dj]?
theorem wpAny_cutD (a0 : Act) (w0 : World) (Φ : Nat → Value → World → Prop) (G : World → World → Prop) (z : Nat) (hz : z < ops.size) (htail : tailB ops z = true) (hdom : domB ops z = true) (D : List Nat) (htrans : ∀ a b c, G a b → G b c → G a c)
    (hΦ : ∀ i v w w', Φ i v w → G w w' → Φ i v w') (hB : ssaB ops a0.tmps.size = true)
    (hstep : ∀ i o, ops[i]? = some o → i < z → ∀ a w, G w0 w → Finds ops Φ a0 i o a w → wpOp P ops Q i (fun a' w' => ∃ v, a' = a.put o.dst v ∧ Φ i v w' ∧ G w w') a w)
    (hD : ∀ i o, i ∈ D → ops[i]? = some o → i < z → ∀ a w, G w0 w → Finds ops Φ a0 i o a w → wpOp P ops Q i (fun a' w' => ∃ v, a' = a.put o.dst v ∧ Φ i v w' ∧ G w w' ∧ ∀ j ∈ D, ∀ u, Φ j u w → v ≠ u) a w)
    (hend : ∀ (a : Act) (w : World), Dist ops D z a → G w0 w → (∀ i o, ops[i]? = some o → i < z → ∃ v, (∀ d, o.dst = some d → a.tmps[d]? = some v) ∧ Φ i v w) → a.defers = a0.defers → a.tmps.size = a0.tmps.size →
      (∀ t, (∀ i o, ops[i]? = some o → i < z → o.dst ≠ some t) → a.tmps[t]? = a0.tmps[t]?) → wpList P ops Q (ops.toList.drop z) a w) :
    ∀ (fuel : Nat) (listed : Array Bool) (a : Act) (w : World), listed.size = ops.size → unlisted ops listed = fuel → (∀ k, z ≤ k → listed.getD k false = false) → G w0 w → Ssa ops Φ a0 listed a w → DistL ops D listed a → wpAny P .any ops Q fuel listed a w := by
  have hb : ∀ i oi, ops[i]? = some oi → (∀ e ∈ oi.after, Region.binds .any e = true → e.on < i) ∧ (∀ d, oi.dst = some d → d < a0.tmps.size) ∧
      (∀ k ok d, k ≠ i → ops[k]? = some ok → ok.dst = some d → oi.dst ≠ some d ∧ (d ∈ oi.looksAt ops → oi.after.any (fun e => Region.binds .any e && e.on == k) = true ∨ ok.after.any (fun e => Region.binds .any e && e.on == i) = true)) := by
    intro i oi hi
    have hlt : i < ops.size := by
      rcases Nat.lt_or_ge i ops.size with h | h
      · exact h
      · rw [Array.getElem?_eq_none h] at hi; cases hi
    have h1 := List.all_eq_true.1 hB i (by simpa using hlt)
    rw [hi] at h1
    simp only [Bool.and_eq_true] at h1
    obtain ⟨⟨h2, h3⟩, h4⟩ := h1
    refine ⟨fun e he => ?_, fun d hd => ?_, fun k ok d hk hok hd => ?_⟩
    · have h5 := (Array.all_eq_true'.1 h2) e he
      intro hbe
      simpa [hbe] using h5
    · rw [hd] at h3; simpa using h3
    · have hlt' : k < ops.size := by
        rcases Nat.lt_or_ge k ops.size with h | h
        · exact h
        · rw [Array.getElem?_eq_none h] at hok; cases hok
      have h5 := List.all_eq_true.1 h4 k (by simpa using hlt')
      rw [hok] at h5
      simp only [hd, Bool.or_eq_true, beq_iff_eq, hk, false_or, Bool.and_eq_true, bne_iff_ne, ne_eq, Bool.not_eq_true'] at h5
      refine ⟨h5.1, fun hm => ?_⟩
      rcases h5.2 with (h6 | h6) | h6
      · rw [List.contains_iff_mem.2 hm] at h6; cases h6
      · exact .inl h6
      · exact .inr h6
  intro fuel
  induction fuel with
  | zero =>
    intro listed a w hs hu hzu0 hG hI hdl
    have hzu := hzu0 z (Nat.le_refl _)
    exfalso
    have h0 : (List.range ops.size).filter (fun i => !listed.getD i false) = [] := List.eq_nil_of_length_eq_zero hu
    have := List.filter_eq_nil_iff.1 h0 z (by simp; omega)
    simp [hzu] at this
  | succ fuel ih =>
    intro listed a w hs hu hzu0 hG hI hdl
    have hzu := hzu0 z (Nat.le_refl _)
    refine ⟨fun hr => ?_, fun i hi => ?_⟩
    · exfalso
      have hex : ∃ i, i < ops.size ∧ listed.getD i false = false := ⟨z, by omega, hzu⟩
      obtain ⟨i, ⟨hi1, hi2⟩, hmin⟩ := exists_least hex
      have : i ∈ Region.ready .any ops listed := by
        rw [mem_ready]
        refine ⟨by rw [getD_true_false listed i (by omega)]; exact hi2, _, Array.getElem?_eq_getElem hi1, fun e he hbe => ?_⟩
        have h1 := (hb i _ (Array.getElem?_eq_getElem hi1)).1 e he hbe
        by_cases h2 : listed.getD e.on false = true
        · exact h2
        · exact absurd ⟨by omega, by simpa using h2⟩ (hmin e.on h1)
      rw [hr] at this
      cases this
    · obtain ⟨hun, oi, hoi, hall⟩ := mem_ready.1 hi
      have hlt : i < ops.size := by
        rcases Nat.lt_or_ge i ops.size with h | h
        · exact h
        · rw [Array.getElem?_eq_none h] at hoi; cases hoi
      rw [getD_true_false listed i (by omega)] at hun
      obtain ⟨b1, b2, b3⟩ := hb i oi hoi
      have hset : ∀ k, (listed.setIfInBounds i true).getD k false = (if k = i then true else listed.getD k false) := by
        intro k
        by_cases hk : k = i
        · subst hk; simp [Array.getD_eq_getD_getElem?, Array.getElem?_setIfInBounds_self_of_lt (by omega : k < listed.size)]
        · simp [Array.getD_eq_getD_getElem?, Array.getElem?_setIfInBounds_ne (Ne.symm hk), hk]
      have hdep : ∀ k, oi.after.any (fun e => Region.binds .any e && e.on == k) = true → listed.getD k false = true := by
        intro k hk
        rw [Array.any_eq_true'] at hk
        obtain ⟨e, he, hek⟩ := hk
        simp only [Bool.and_eq_true, beq_iff_eq] at hek
        rw [← hek.2]
        exact hall e he hek.1
      have hF : Finds ops Φ a0 i oi a w := by
        refine ⟨hI.defers, hI.size, fun k ok d hok hd _ hk => ?_, fun d hd hno => ?_⟩
        · obtain ⟨v, hv, hφ⟩ := hI.new k ok hok (hdep k hk)
          exact ⟨v, hv d hd, hφ⟩
        · apply hI.old
          intro k ok hok hlk hkd
          by_cases hki : k = i
          · subst hki; rw [hun] at hlk; cases hlk
          · rcases (b3 k ok d hki hok hkd).2 hd with h1 | h1
            · rw [hno k ok hok hkd hki] at h1; cases h1
            · rw [Array.any_eq_true'] at h1
              obtain ⟨e, he, hek⟩ := h1
              simp only [Bool.and_eq_true, beq_iff_eq] at hek
              have := hI.closed k ok e hok hlk he hek.1
              rw [hek.2, hun] at this
              cases this
      have hclosed' : ∀ k ok e, ops[k]? = some ok → (listed.setIfInBounds i true).getD k false = true → e ∈ ok.after → Region.binds .any e = true → (listed.setIfInBounds i true).getD e.on false = true := by
        intro k ok e hok hlk he hbe
        rw [hset k] at hlk
        rw [hset e.on]
        by_cases hki : k = i
        · subst hki
          rw [hoi] at hok; injection hok with hok; subst hok
          split
          · rfl
          · exact hall e he hbe
        · rw [if_neg hki] at hlk
          split
          · rfl
          · exact hI.closed k ok e hok hlk he hbe
      have hcount : unlisted ops (listed.setIfInBounds i true) = fuel := by
        unfold unlisted at hu ⊢
        have e1 : (List.range ops.size).filter (fun k => !(listed.setIfInBounds i true).getD k false) = ((List.range ops.size).filter fun k => !listed.getD k false).erase i := by
          rw [List.Nodup.erase_eq_filter (List.Pairwise.filter _ List.nodup_range), List.filter_filter]
          apply List.filter_congr
          intro k _
          rw [hset k]
          by_cases hk : k = i
          · simp [hk]
          · simp [hk]
        rw [e1, List.length_erase_of_mem (by rw [List.mem_filter]; exact ⟨by simpa using hlt, by simp [hun]⟩), hu]
        omega
      have hiz1 : ¬ z < i := by
        intro h
        have := hdep (i - 1) (tailB_at htail h hoi)
        rw [hzu0 (i - 1) (by omega)] at this; cases this
      by_cases hiz : i = z
      · subst hiz
        have hallL := all_listed hdom hclosed' (by rw [hset i]; simp)
        have hothers : ∀ k, k < i → listed.getD k false = true := by
          intro k hk
          have := hallL k (by omega)
          rw [hset k, if_neg (by omega)] at this
          exact this
        have hw := hend a w (fun i1 j1 oi1 oj1 di1 dj1 h1 h2 h3 h4 h5 h6 h7 h8 h9 => hdl i1 j1 oi1 oj1 di1 dj1 h1 h2 h3 h4 h5 (hothers _ h6) (hothers _ h7) h8 h9) hG (fun k ok hk hki => hI.new k ok hk (hothers k hki)) hI.defers hI.size fun t ht => hI.old t fun k o hk hl => ht k o hk (by
          rcases Nat.lt_or_ge k i with h | h
          · exact h
          · rw [hzu0 k h] at hl; cases hl)
        rw [drop_at hoi] at hw
        have hw' : wpOp P ops Q i (wpList P ops Q (ops.toList.drop (i + 1))) a w := by
          unfold wpOp
          rw [hoi]
          exact hw
        refine wpOp_mono (fun a' w' h => ?_) hw'
        refine wpAny_chain htail (fun k ok e hk he hbe => (hb k ok hk).1 e he hbe) fuel (i + 1) _ (by simp [hs]) ?_ (by omega) (fun k hk _ => ?_) (fun k hk => ?_) a' w' h
        · rw [← hcount, unlisted_at (listed := listed.setIfInBounds i true) (j := i + 1) (by omega) (fun k hk => hallL k (by omega)) (fun k hk => by rw [hset k, if_neg (by omega)]; exact hzu0 k (by omega))]
        · exact hallL k (by omega)
        · rw [hset k, if_neg (by omega)]; exact hzu0 k (by omega)
      · have hstep' : wpOp P ops Q i (fun a' w' => ∃ v, a' = a.put oi.dst v ∧ Φ i v w' ∧ G w w' ∧ (i ∈ D → ∀ j ∈ D, ∀ u, Φ j u w → v ≠ u)) a w := by
          by_cases hiD : i ∈ D
          · exact wpOp_mono (fun a' w' ⟨v, h1, h2, h3, h4⟩ => ⟨v, h1, h2, h3, fun _ => h4⟩) (hD i oi hiD hoi (by omega) a w hG hF)
          · exact wpOp_mono (fun a' w' ⟨v, h1, h2, h3⟩ => ⟨v, h1, h2, h3, fun h => absurd h hiD⟩) (hstep i oi hoi (by omega) a w hG hF)
        refine wpOp_mono (fun a' w' h => ?_) hstep'
        obtain ⟨v, rfl, hφ, hg, hfr⟩ := h
        have hput : ∀ t, oi.dst ≠ some t → (a.put oi.dst v).tmps[t]? = a.tmps[t]? := by
          intro t ht
          cases hd : oi.dst with
          | none => rfl
          | some d =>
            have hne : d ≠ t := fun e => ht (by rw [hd, e])
            simp [Act.put, Array.getElem?_setIfInBounds_ne hne]
        refine ih _ _ _ (by simp [hs]) hcount (fun k hk => by rw [hset k, if_neg (by omega)]; exact hzu0 k hk) (htrans _ _ _ hG hg) ⟨?_, ?_, ?_, ?_, hclosed'⟩ ?_
        · cases hd : oi.dst <;> simp [Act.put, hI.defers]
        · cases hd : oi.dst <;> simp [Act.put, hI.size]
        · intro k ok hok hlk
          rw [hset k] at hlk
          by_cases hki : k = i
          · subst hki
            rw [hoi] at hok; injection hok with hok; subst hok
            refine ⟨v, fun d hd => ?_, hφ⟩
            have := b2 d hd
            rw [hd]
            simp [Act.put, Array.getElem?_setIfInBounds_self_of_lt (by rw [hI.size]; exact this : d < a.tmps.size)]
          · rw [if_neg hki] at hlk
            obtain ⟨u, hu1, hu2⟩ := hI.new k ok hok hlk
            refine ⟨u, fun d hd => ?_, hΦ _ _ _ _ hu2 hg⟩
            rw [hput d (b3 k ok d hki hok hd).1]
            exact hu1 d hd
        · intro t ht
          have h1 : oi.dst ≠ some t := ht i oi hoi (by rw [hset i]; simp)
          rw [hput t h1]
          apply hI.old
          intro k ok hok hlk
          exact ht k ok hok (by rw [hset k]; split <;> simp_all)
        · intro i1 j1 oi1 oj1 di1 dj1 h1 h2 h3 h4 h5 h6 h7 h8 h9
          rw [hset i1] at h6
          rw [hset j1] at h7
          have hat : ∀ d, oi.dst = some d → (a.put oi.dst v).tmps[d]? = some v := by
            intro d hd
            have := b2 d hd
            rw [hd]
            simp [Act.put, Array.getElem?_setIfInBounds_self_of_lt (by rw [hI.size]; exact this : d < a.tmps.size)]
          by_cases e1 : i1 = i
          · subst e1
            rw [hoi] at h4; injection h4 with h4; subst h4
            rw [if_neg (Ne.symm h3)] at h7
            obtain ⟨u, hu1, hu2⟩ := hI.new j1 oj1 h5 h7
            rw [hat di1 h8, hput dj1 (b3 j1 oj1 dj1 (Ne.symm h3) h5 h9).1, hu1 dj1 h9]
            intro h
            injection h with h
            exact hfr h1 j1 h2 u hu2 h
          · rw [if_neg e1] at h6
            by_cases e2 : j1 = i
            · subst e2
              rw [hoi] at h5; injection h5 with h5; subst h5
              obtain ⟨u, hu1, hu2⟩ := hI.new i1 oi1 h4 h6
              rw [hat dj1 h9, hput di1 (b3 i1 oi1 di1 e1 h4 h8).1, hu1 di1 h8]
              intro h
              injection h with h
              exact hfr h2 i1 h1 u hu2 h.symm
            · rw [if_neg e2] at h7
              rw [hput di1 (b3 i1 oi1 di1 e1 h4 h8).1, hput dj1 (b3 j1 oj1 dj1 e2 h5 h9).1]
              exact hdl i1 j1 oi1 oj1 di1 dj1 h1 h2 h3 h4 h5 h6 h7 h8 h9

/-- **A REGION THAT DRAWS ITS ORDER: THE FIRST z OPERATIONS IN ANY ORDER, EACH TOLD ONCE; THE REST AS IT STANDS.** -/
theorem wp_region_cutD {id : Nat} {a0 : Act} {w0 : World} (hm : P.follows .mixedOrders = true) (L : List (Value → World → Prop)) (z : Nat) (hz : z < ops.size) (htail : tailB ops z = true) (hdom : domB ops z = true) (D : List Nat) (hB : ssaB ops a0.tmps.size = true)
    (hL : ∀ φ ∈ L, ∀ v w w', φ v w → Gr w w' → φ v w')
    (hstep : AllFrom (StepL P ops Q a0 w0.drew Gr L) 0 (ops.toList.take z))
    (hD : ∀ i o, i ∈ D → ops[i]? = some o → i < z → ∀ a w, Gr w0.drew w → Finds ops (fun i => L.getD i AnyV) a0 i o a w → wpOp P ops Q i (fun a' w' => ∃ v, a' = a.put o.dst v ∧ (L.getD i AnyV) v w' ∧ Gr w w' ∧ ∀ j ∈ D, ∀ u, (L.getD j AnyV) u w → v ≠ u) a w)
    (hend : ∀ (vs : Nat → Value) w, (∀ i j oi oj di dj, i ∈ D → j ∈ D → i ≠ j → i < z → j < z → ops[i]? = some oi → ops[j]? = some oj → oi.dst = some di → oj.dst = some dj → vs i ≠ vs j) → Gr w0.drew w → AllFrom (fun i _ => (L.getD i AnyV) (vs i) w) 0 (ops.toList.take z) → wpList P ops Q (ops.toList.drop z) (putAll vs 0 (ops.toList.take z) a0) w) : (Code.region id ops true).wp P Q a0 w0 := by
  have hΦ : ∀ i v (w w' : World), (L.getD i AnyV) v w → Gr w w' → (L.getD i AnyV) v w' := by
    intro i v w w' h hg
    rcases Nat.lt_or_ge i L.length with hlt | hge
    · simp only [List.getD_eq_getElem?_getD, List.getElem?_eq_getElem hlt, Option.getD_some] at h ⊢
      exact hL _ (List.getElem_mem hlt) v w w' h hg
    · simp only [List.getD_eq_getElem?_getD, List.getElem?_eq_none hge, Option.getD_none] at h ⊢
      exact trivial
  refine wp_region_any hm (wpAny_cutD a0 w0.drew (fun i => L.getD i AnyV) Gr z hz htail hdom D (fun _ _ _ => Gr.trans) hΦ hB ?_ hD ?_ ops.size (Array.replicate ops.size false) a0 w0.drew (by simp) ?_ ?_ (Gr.refl _) ⟨rfl, rfl, ?_, fun _ _ => rfl, ?_⟩ ?_)
  · intro i o hi hiz a w hg hF
    have h1 := allFrom_get (ops.toList.take z) 0 hstep i o (by rw [List.getElem?_take]; simp [hiz, hi])
    simp only [Nat.zero_add] at h1
    exact h1 a w hg hF
  · intro a w hds hg hnew hdef hsize hold
    have hch : ∀ i, ∃ v, i < z → (∀ d, ((ops[i]?).bind (fun o : Oper => o.dst)) = some d → a.tmps[d]? = some v) ∧ (L.getD i AnyV) v w := by
      intro i
      by_cases hi : i < z
      · obtain ⟨v, h1, h2⟩ := hnew i _ (Array.getElem?_eq_getElem (by omega : i < ops.size)) hi
        exact ⟨v, fun _ => ⟨fun d hd => h1 d (by simpa [(by omega : i < ops.size)] using hd), h2⟩⟩
      · exact ⟨undef, fun h => absurd h hi⟩
    have hvs := fun i => Classical.choose_spec (hch i)
    have hall : ∀ (os : List Oper) (k : Nat), k + os.length ≤ z → AllFrom (fun i _ => (L.getD i AnyV) (Classical.choose (hch i)) w) k os := by
      intro os
      induction os with
      | nil => intro k _; exact trivial
      | cons o os ih => intro k hk; simp at hk; exact ⟨(hvs k (by omega)).2, ih (k + 1) (by omega)⟩
    have hend' := hend (fun i => Classical.choose (hch i)) w (fun i j oi oj di dj h1 h2 h3 h4 h5 h6 h7 h8 h9 he => hds i j oi oj di dj h1 h2 h3 h6 h7 h4 h5 h8 h9 (by rw [(hvs i h4).1 di (by rw [h6]; exact h8), (hvs j h5).1 dj (by rw [h7]; exact h9), he])) hg (hall _ 0 (by simp; omega))
    have hlen : ∀ j (o : Oper), (ops.toList.take z)[j]? = some o → j < z ∧ ops[j]? = some o := by
      intro j o h
      rw [List.getElem?_take] at h
      split at h
      · exact ⟨by assumption, by simpa using h⟩
      · cases h
    have ha : putAll (fun i => Classical.choose (hch i)) 0 (ops.toList.take z) a0 = a := by
      have h1 := putAll_defers (fun i => Classical.choose (hch i)) (ops.toList.take z) 0 a0
      have h2 := putAll_size (fun i => Classical.choose (hch i)) (ops.toList.take z) 0 a0
      have h3 : (putAll (fun i => Classical.choose (hch i)) 0 (ops.toList.take z) a0).tmps = a.tmps := by
        apply Array.ext_getElem?
        intro t
        by_cases hex : ∃ (j : Nat) (o : Oper), (ops.toList.take z)[j]? = some o ∧ o.dst = some t
        · obtain ⟨j, o, hj0, hd⟩ := hex
          obtain ⟨hjz, hj⟩ := hlen j o hj0
          have hlt : j < ops.size := by omega
          have hb := List.all_eq_true.1 hB j (by simpa using hlt)
          rw [hj] at hb
          simp only [Bool.and_eq_true, hd, decide_eq_true_eq] at hb
          rw [putAll_new _ t (ops.toList.take z) 0 a0 j o hj0 hd hb.1.2 fun k o' hk hd' => ?_, (hvs j hjz).1 t (by rw [hj]; exact hd)]
          · simp
          · rcases Nat.decEq k j with hkj | hkj
            · exfalso
              obtain ⟨hkz, hk'⟩ := hlen k o' hk
              have hltk : k < ops.size := by omega
              have h5 := List.all_eq_true.1 hb.2 k (by simpa using hltk)
              rw [hk'] at h5
              simp [hkj, hd'] at h5
            · exact hkj
        · rw [putAll_old _ t (ops.toList.take z) 0 a0 (fun (o : Oper) ho e => hex (by obtain ⟨j, hj⟩ := List.getElem?_of_mem ho; exact ⟨j, o, hj, e⟩)), hold t fun i o hi hiz e => hex ⟨i, o, by rw [List.getElem?_take]; simp [hiz, hi], e⟩]
      have h4 := hdef
      cases a
      cases hq : putAll (fun i => Classical.choose (hch i)) 0 (ops.toList.take z) a0
      rw [hq] at h1 h3
      simp only at h1 h3 h4
      rw [h1, h3, h4]
    rw [← ha]
    exact hend'
  · unfold unlisted
    rw [List.filter_eq_self.2]
    · simp
    · intro i hi
      simp only [List.mem_range] at hi
      simp [hi]
  · intro k _
    rw [Array.getD_eq_getD_getElem?, Array.getElem?_replicate]
    split <;> simp
  · intro i o hi hl
    exfalso
    rw [Array.getD_eq_getD_getElem?, Array.getElem?_replicate] at hl
    split at hl <;> simp at hl
  · intro i o e hi hl
    exfalso
    rw [Array.getD_eq_getD_getElem?, Array.getElem?_replicate] at hl
    split at hl <;> simp at hl


  · intro i j oi oj di dj _ _ _ _ _ h6
    exfalso
    rw [Array.getD_eq_getD_getElem?, Array.getElem?_replicate] at h6
    split at h6 <;> simp at h6
end
end Go.Proofs.YtbpgodkdbbiadaaDoor
