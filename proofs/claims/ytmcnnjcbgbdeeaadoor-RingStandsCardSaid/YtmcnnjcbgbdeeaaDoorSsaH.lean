/- A region that draws its order and holds one operation that turns memory: what is ahead of it in any order, then it, then the rest in any order. No condition. -/
import Derived.Test.YtmcnnjcbgbdeeaaDoorKitA
namespace Go.Proofs.YtmcnnjcbgbdeeaaDoor
open Go.RowKit
section
variable {P : Program} {ops : Array Oper} {Q : Exit → Act → World → Prop}
/-- From z on each operation waits for z or for one behind it. -/
def tail2B (ops : Array Oper) (z : Nat) : Bool := (List.range ops.size).all fun i => !(decide (z < i)) || match ops[i]? with | some o => o.after.any (fun e => Region.binds .any e && decide (z ≤ e.on)) | none => true
theorem tail2B_at {z i : Nat} {o : Oper} (h : tail2B ops z = true) (hi : z < i) (ho : ops[i]? = some o) : ∃ e ∈ o.after, Region.binds .any e = true ∧ z ≤ e.on := by
  have hlt : i < ops.size := by
    rcases Nat.lt_or_ge i ops.size with h | h
    · exact h
    · rw [Array.getElem?_eq_none h] at ho; cases ho
  have := List.all_eq_true.1 h i (by simpa using hlt)
  rw [ho] at this
  simp only [hi, decide_true, Bool.not_true, Bool.false_or] at this
  rw [Array.any_eq_true'] at this
  obtain ⟨e, he, hek⟩ := this
  simp only [Bool.and_eq_true, decide_eq_true_eq] at hek
  exact ⟨e, he, hek.1, hek.2⟩
/-- All up to z is done, nothing behind it: the rest goes well, in whatever order. -/
def TailOK (P : Program) (ops : Array Oper) (Q : Exit → Act → World → Prop) (z : Nat) (a : Act) (w : World) : Prop :=
  ∀ listed : Array Bool, listed.size = ops.size → (∀ k, k ≤ z → listed.getD k false = true) → (∀ k, z < k → listed.getD k false = false) →
    (∀ k ok e, ops[k]? = some ok → listed.getD k false = true → e ∈ ok.after → Region.binds .any e = true → listed.getD e.on false = true) → wpAny P .any ops Q (unlisted ops listed) listed a w
theorem wpAny_ssaT (z : Nat) (a0 : Act) (w0 : World) (Φ : Nat → Value → World → Prop) (G : World → World → Prop) (htrans : ∀ a b c, G a b → G b c → G a c)
    (hΦ : ∀ i v w w', Φ i v w → G w w' → Φ i v w') (hB : ssaB ops a0.tmps.size = true)
    (hstep : ∀ i o, ops[i]? = some o → z < i → ∀ a w, G w0 w → Finds ops Φ a0 i o a w → wpOp P ops Q i (fun a' w' => ∃ v, a' = a.put o.dst v ∧ Φ i v w' ∧ G w w') a w)
    (hend : ∀ a w, G w0 w → Ssa ops Φ a0 (Array.replicate ops.size true) a w → Q .normal a w) :
    ∀ (fuel : Nat) (listed : Array Bool) (a : Act) (w : World), listed.size = ops.size → unlisted ops listed = fuel → (∀ k, k ≤ z → listed.getD k false = true) → G w0 w → Ssa ops Φ a0 listed a w → wpAny P .any ops Q fuel listed a w := by
  have hb : ∀ i oi, ops[i]? = some oi → (∀ e ∈ oi.after, Region.binds .any e = true → e.on < i) ∧ (∀ d, oi.dst = some d → d < a0.tmps.size) ∧
      (∀ k ok d, k ≠ i → ops[k]? = some ok → ok.dst = some d → oi.dst ≠ some d ∧ (d ∈ oi.looksAt ops → oi.after.any (fun e => Region.binds .any e && e.on == k) = true ∨ ok.after.any (fun e => Region.binds .any e && e.on == i) = true)) := by
    intro i oi hi
    have hlt : i < ops.size := by
      rcases Nat.lt_or_ge i ops.size with h | h
      · exact h
      · rw [Array.getElem?_eq_none h] at hi; cases hi
    have h1 := List.all_eq_true.1 hB i (by simpa using hlt)
    rw [hi] at h1
    simp only [Bool.and_eq_true] at h1
    obtain ⟨⟨h2, h3⟩, h4⟩ := h1
    refine ⟨fun e he => ?_, fun d hd => ?_, fun k ok d hk hok hd => ?_⟩
    · have h5 := (Array.all_eq_true'.1 h2) e he
      intro hbe
      simpa [hbe] using h5
    · rw [hd] at h3; simpa using h3
    · have hlt' : k < ops.size := by
        rcases Nat.lt_or_ge k ops.size with h | h
        · exact h
        · rw [Array.getElem?_eq_none h] at hok; cases hok
      have h5 := List.all_eq_true.1 h4 k (by simpa using hlt')
      rw [hok] at h5
      simp only [hd, Bool.or_eq_true, beq_iff_eq, hk, false_or, Bool.and_eq_true, bne_iff_ne, ne_eq, Bool.not_eq_true'] at h5
      refine ⟨h5.1, fun hm => ?_⟩
      rcases h5.2 with (h6 | h6) | h6
      · rw [List.contains_iff_mem.2 hm] at h6; cases h6
      · exact .inl h6
      · exact .inr h6
  intro fuel
  induction fuel with
  | zero =>
    intro listed a w hs hu hlz hG hI
    have hall : ∀ i, i < ops.size → listed.getD i false = true := by
      intro i hi
      have h0 : (List.range ops.size).filter (fun i => !listed.getD i false) = [] := List.eq_nil_of_length_eq_zero hu
      have := List.filter_eq_nil_iff.1 h0 i (by simpa using hi)
      simpa using this
    have hl : listed = Array.replicate ops.size true := by
      apply Array.ext
      · simp [hs]
      · intro i h1 h2
        have := hall i (by omega)
        simp [h1] at this
        simp [this]
    refine ⟨?_, hend a w hG (hl ▸ hI)⟩
    unfold Region.ready
    rw [List.filter_eq_nil_iff]
    intro i hi
    have := hall i (by simpa using hi)
    rw [← getD_true_false listed i (by simp at hi; omega)] at this
    simp [this]
  | succ fuel ih =>
    intro listed a w hs hu hlz hG hI
    refine ⟨fun hr => ?_, fun i hi => ?_⟩
    · exfalso
      -- the least that is not listed may come up
      have hex : ∃ i, i < ops.size ∧ listed.getD i false = false := by
        have h0 : (List.range ops.size).filter (fun i => !listed.getD i false) ≠ [] := by
          intro h; unfold unlisted at hu; rw [h] at hu; simp at hu
        obtain ⟨i, hi⟩ := List.exists_mem_of_ne_nil _ h0
        rw [List.mem_filter] at hi
        exact ⟨i, by simpa using hi.1, by simpa using hi.2⟩
      obtain ⟨i, ⟨hi1, hi2⟩, hmin⟩ := exists_least hex
      have : i ∈ Region.ready .any ops listed := by
        rw [mem_ready]
        refine ⟨by rw [getD_true_false listed i (by omega)]; exact hi2, _, Array.getElem?_eq_getElem hi1, fun e he hbe => ?_⟩
        have h1 := (hb i _ (Array.getElem?_eq_getElem hi1)).1 e he hbe
        by_cases h2 : listed.getD e.on false = true
        · exact h2
        · exact absurd ⟨by omega, by simpa using h2⟩ (hmin e.on h1)
      rw [hr] at this
      cases this
    · obtain ⟨hun, oi, hoi, hall⟩ := mem_ready.1 hi
      have hlt : i < ops.size := by
        rcases Nat.lt_or_ge i ops.size with h | h
        · exact h
        · rw [Array.getElem?_eq_none h] at hoi; cases hoi
      rw [getD_true_false listed i (by omega)] at hun
      obtain ⟨b1, b2, b3⟩ := hb i oi hoi
      have hset : ∀ k, (listed.setIfInBounds i true).getD k false = (if k = i then true else listed.getD k false) := by
        intro k
        by_cases hk : k = i
        · subst hk; simp [Array.getD_eq_getD_getElem?, Array.getElem?_setIfInBounds_self_of_lt (by omega : k < listed.size)]
        · simp [Array.getD_eq_getD_getElem?, Array.getElem?_setIfInBounds_ne (Ne.symm hk), hk]
      have hdep : ∀ k, oi.after.any (fun e => Region.binds .any e && e.on == k) = true → listed.getD k false = true := by
        intro k hk
        rw [Array.any_eq_true'] at hk
        obtain ⟨e, he, hek⟩ := hk
        simp only [Bool.and_eq_true, beq_iff_eq] at hek
        rw [← hek.2]
        exact hall e he hek.1
      have hF : Finds ops Φ a0 i oi a w := by
        refine ⟨hI.defers, hI.size, fun k ok d hok hd _ hk => ?_, fun d hd hno => ?_⟩
        · obtain ⟨v, hv, hφ⟩ := hI.new k ok hok (hdep k hk)
          exact ⟨v, hv d hd, hφ⟩
        · apply hI.old
          intro k ok hok hlk hkd
          by_cases hki : k = i
          · subst hki; rw [hun] at hlk; cases hlk
          · rcases (b3 k ok d hki hok hkd).2 hd with h1 | h1
            · rw [hno k ok hok hkd hki] at h1; cases h1
            · rw [Array.any_eq_true'] at h1
              obtain ⟨e, he, hek⟩ := h1
              simp only [Bool.and_eq_true, beq_iff_eq] at hek
              have := hI.closed k ok e hok hlk he hek.1
              rw [hek.2, hun] at this
              cases this
      refine wpOp_mono (fun a' w' h => ?_) (hstep i oi hoi (by
        rcases Nat.lt_or_ge z i with h | h
        · exact h
        · rw [hlz i h] at hun; cases hun) a w hG hF)
      obtain ⟨v, rfl, hφ, hg⟩ := h
      have hput : ∀ t, oi.dst ≠ some t → (a.put oi.dst v).tmps[t]? = a.tmps[t]? := by
        intro t ht
        cases hd : oi.dst with
        | none => rfl
        | some d =>
          have hne : d ≠ t := fun e => ht (by rw [hd, e])
          simp [Act.put, Array.getElem?_setIfInBounds_ne hne]
      refine ih _ _ _ (by simp [hs]) ?_ (fun k hk => by
        rw [hset k]
        split
        · rfl
        · exact hlz k hk) (htrans _ _ _ hG hg) ⟨?_, ?_, ?_, ?_, ?_⟩
      · -- one fewer
        unfold unlisted at hu ⊢
        have e1 : (List.range ops.size).filter (fun k => !(listed.setIfInBounds i true).getD k false) = ((List.range ops.size).filter fun k => !listed.getD k false).erase i := by
          rw [List.Nodup.erase_eq_filter (List.Pairwise.filter _ List.nodup_range), List.filter_filter]
          apply List.filter_congr
          intro k _
          rw [hset k]
          by_cases hk : k = i
          · simp [hk]
          · simp [hk]
        rw [e1, List.length_erase_of_mem (by rw [List.mem_filter]; exact ⟨by simpa using hlt, by simp [hun]⟩), hu]
        omega
      · cases hd : oi.dst <;> simp [Act.put, hI.defers]
      · cases hd : oi.dst <;> simp [Act.put, hI.size]
      · intro k ok hok hlk
        rw [hset k] at hlk
        by_cases hki : k = i
        · subst hki
          rw [hoi] at hok; injection hok with hok; subst hok
          refine ⟨v, fun d hd => ?_, hφ⟩
          have := b2 d hd
          rw [hd]
          simp [Act.put, Array.getElem?_setIfInBounds_self_of_lt (by rw [hI.size]; exact this : d < a.tmps.size)]
        · rw [if_neg hki] at hlk
          obtain ⟨u, hu1, hu2⟩ := hI.new k ok hok hlk
          refine ⟨u, fun d hd => ?_, hΦ _ _ _ _ hu2 hg⟩
          rw [hput d (b3 k ok d hki hok hd).1]
          exact hu1 d hd
      · intro t ht
        have h1 : oi.dst ≠ some t := ht i oi hoi (by rw [hset i]; simp)
        rw [hput t h1]
        apply hI.old
        intro k ok hok hlk
        exact ht k ok hok (by rw [hset k]; split <;> simp_all)
      · intro k ok e hok hlk he hbe
        rw [hset k] at hlk
        rw [hset e.on]
        by_cases hki : k = i
        · subst hki
          rw [hoi] at hok; injection hok with hok; subst hok
          split
          · rfl
          · exact hall e he hbe
        · rw [if_neg hki] at hlk
          split
          · rfl
          · exact hI.closed k ok e hok hlk he hbe
theorem wpAny_cut2 (a0 : Act) (w0 : World) (Φ : Nat → Value → World → Prop) (G : World → World → Prop) (z : Nat) (hz : z < ops.size) (htail : tail2B ops z = true) (hdom : domB ops z = true) (htrans : ∀ a b c, G a b → G b c → G a c)
    (hΦ : ∀ i v w w', Φ i v w → G w w' → Φ i v w') (hB : ssaB ops a0.tmps.size = true)
    (hstep : ∀ i o, ops[i]? = some o → i < z → ∀ a w, G w0 w → Finds ops Φ a0 i o a w → wpOp P ops Q i (fun a' w' => ∃ v, a' = a.put o.dst v ∧ Φ i v w' ∧ G w w') a w)
    (hend : ∀ (a : Act) (w : World), G w0 w → (∀ i o, ops[i]? = some o → i < z → ∃ v, (∀ d, o.dst = some d → a.tmps[d]? = some v) ∧ Φ i v w) → a.defers = a0.defers → a.tmps.size = a0.tmps.size →
      (∀ t, (∀ i o, ops[i]? = some o → i < z → o.dst ≠ some t) → a.tmps[t]? = a0.tmps[t]?) → wpOp P ops Q z (TailOK P ops Q z) a w) :
    ∀ (fuel : Nat) (listed : Array Bool) (a : Act) (w : World), listed.size = ops.size → unlisted ops listed = fuel → (∀ k, z ≤ k → listed.getD k false = false) → G w0 w → Ssa ops Φ a0 listed a w → wpAny P .any ops Q fuel listed a w := by
  have hb : ∀ i oi, ops[i]? = some oi → (∀ e ∈ oi.after, Region.binds .any e = true → e.on < i) ∧ (∀ d, oi.dst = some d → d < a0.tmps.size) ∧
      (∀ k ok d, k ≠ i → ops[k]? = some ok → ok.dst = some d → oi.dst ≠ some d ∧ (d ∈ oi.looksAt ops → oi.after.any (fun e => Region.binds .any e && e.on == k) = true ∨ ok.after.any (fun e => Region.binds .any e && e.on == i) = true)) := by
    intro i oi hi
    have hlt : i < ops.size := by
      rcases Nat.lt_or_ge i ops.size with h | h
      · exact h
      · rw [Array.getElem?_eq_none h] at hi; cases hi
    have h1 := List.all_eq_true.1 hB i (by simpa using hlt)
    rw [hi] at h1
    simp only [Bool.and_eq_true] at h1
    obtain ⟨⟨h2, h3⟩, h4⟩ := h1
    refine ⟨fun e he => ?_, fun d hd => ?_, fun k ok d hk hok hd => ?_⟩
    · have h5 := (Array.all_eq_true'.1 h2) e he
      intro hbe
      simpa [hbe] using h5
    · rw [hd] at h3; simpa using h3
    · have hlt' : k < ops.size := by
        rcases Nat.lt_or_ge k ops.size with h | h
        · exact h
        · rw [Array.getElem?_eq_none h] at hok; cases hok
      have h5 := List.all_eq_true.1 h4 k (by simpa using hlt')
      rw [hok] at h5
      simp only [hd, Bool.or_eq_true, beq_iff_eq, hk, false_or, Bool.and_eq_true, bne_iff_ne, ne_eq, Bool.not_eq_true'] at h5
      refine ⟨h5.1, fun hm => ?_⟩
      rcases h5.2 with (h6 | h6) | h6
      · rw [List.contains_iff_mem.2 hm] at h6; cases h6
      · exact .inl h6
      · exact .inr h6
  intro fuel
  induction fuel with
  | zero =>
    intro listed a w hs hu hzu0 hG hI
    have hzu := hzu0 z (Nat.le_refl _)
    exfalso
    have h0 : (List.range ops.size).filter (fun i => !listed.getD i false) = [] := List.eq_nil_of_length_eq_zero hu
    have := List.filter_eq_nil_iff.1 h0 z (by simp; omega)
    simp [hzu] at this
  | succ fuel ih =>
    intro listed a w hs hu hzu0 hG hI
    have hzu := hzu0 z (Nat.le_refl _)
    refine ⟨fun hr => ?_, fun i hi => ?_⟩
    · exfalso
      have hex : ∃ i, i < ops.size ∧ listed.getD i false = false := ⟨z, by omega, hzu⟩
      obtain ⟨i, ⟨hi1, hi2⟩, hmin⟩ := exists_least hex
      have : i ∈ Region.ready .any ops listed := by
        rw [mem_ready]
        refine ⟨by rw [getD_true_false listed i (by omega)]; exact hi2, _, Array.getElem?_eq_getElem hi1, fun e he hbe => ?_⟩
        have h1 := (hb i _ (Array.getElem?_eq_getElem hi1)).1 e he hbe
        by_cases h2 : listed.getD e.on false = true
        · exact h2
        · exact absurd ⟨by omega, by simpa using h2⟩ (hmin e.on h1)
      rw [hr] at this
      cases this
    · obtain ⟨hun, oi, hoi, hall⟩ := mem_ready.1 hi
      have hlt : i < ops.size := by
        rcases Nat.lt_or_ge i ops.size with h | h
        · exact h
        · rw [Array.getElem?_eq_none h] at hoi; cases hoi
      rw [getD_true_false listed i (by omega)] at hun
      obtain ⟨b1, b2, b3⟩ := hb i oi hoi
      have hset : ∀ k, (listed.setIfInBounds i true).getD k false = (if k = i then true else listed.getD k false) := by
        intro k
        by_cases hk : k = i
        · subst hk; simp [Array.getD_eq_getD_getElem?, Array.getElem?_setIfInBounds_self_of_lt (by omega : k < listed.size)]
        · simp [Array.getD_eq_getD_getElem?, Array.getElem?_setIfInBounds_ne (Ne.symm hk), hk]
      have hdep : ∀ k, oi.after.any (fun e => Region.binds .any e && e.on == k) = true → listed.getD k false = true := by
        intro k hk
        rw [Array.any_eq_true'] at hk
        obtain ⟨e, he, hek⟩ := hk
        simp only [Bool.and_eq_true, beq_iff_eq] at hek
        rw [← hek.2]
        exact hall e he hek.1
      have hF : Finds ops Φ a0 i oi a w := by
        refine ⟨hI.defers, hI.size, fun k ok d hok hd _ hk => ?_, fun d hd hno => ?_⟩
        · obtain ⟨v, hv, hφ⟩ := hI.new k ok hok (hdep k hk)
          exact ⟨v, hv d hd, hφ⟩
        · apply hI.old
          intro k ok hok hlk hkd
          by_cases hki : k = i
          · subst hki; rw [hun] at hlk; cases hlk
          · rcases (b3 k ok d hki hok hkd).2 hd with h1 | h1
            · rw [hno k ok hok hkd hki] at h1; cases h1
            · rw [Array.any_eq_true'] at h1
              obtain ⟨e, he, hek⟩ := h1
              simp only [Bool.and_eq_true, beq_iff_eq] at hek
              have := hI.closed k ok e hok hlk he hek.1
              rw [hek.2, hun] at this
              cases this
      have hclosed' : ∀ k ok e, ops[k]? = some ok → (listed.setIfInBounds i true).getD k false = true → e ∈ ok.after → Region.binds .any e = true → (listed.setIfInBounds i true).getD e.on false = true := by
        intro k ok e hok hlk he hbe
        rw [hset k] at hlk
        rw [hset e.on]
        by_cases hki : k = i
        · subst hki
          rw [hoi] at hok; injection hok with hok; subst hok
          split
          · rfl
          · exact hall e he hbe
        · rw [if_neg hki] at hlk
          split
          · rfl
          · exact hI.closed k ok e hok hlk he hbe
      have hcount : unlisted ops (listed.setIfInBounds i true) = fuel := by
        unfold unlisted at hu ⊢
        have e1 : (List.range ops.size).filter (fun k => !(listed.setIfInBounds i true).getD k false) = ((List.range ops.size).filter fun k => !listed.getD k false).erase i := by
          rw [List.Nodup.erase_eq_filter (List.Pairwise.filter _ List.nodup_range), List.filter_filter]
          apply List.filter_congr
          intro k _
          rw [hset k]
          by_cases hk : k = i
          · simp [hk]
          · simp [hk]
        rw [e1, List.length_erase_of_mem (by rw [List.mem_filter]; exact ⟨by simpa using hlt, by simp [hun]⟩), hu]
        omega
      have hiz1 : ¬ z < i := by
        intro h
        obtain ⟨e, he, hbe, hze⟩ := tail2B_at htail h hoi
        have := hall e he hbe
        rw [hzu0 e.on hze] at this; cases this
      by_cases hiz : i = z
      · subst hiz
        have hallL := all_listed hdom hclosed' (by rw [hset i]; simp)
        have hothers : ∀ k, k < i → listed.getD k false = true := by
          intro k hk
          have := hallL k (by omega)
          rw [hset k, if_neg (by omega)] at this
          exact this
        have hw := hend a w hG (fun k ok hk hki => hI.new k ok hk (hothers k hki)) hI.defers hI.size fun t ht => hI.old t fun k o hk hl => ht k o hk (by
          rcases Nat.lt_or_ge k i with h | h
          · exact h
          · rw [hzu0 k h] at hl; cases hl)
        refine wpOp_mono (fun a' w' h => ?_) hw
        rw [← hcount]
        exact h _ (by simp [hs]) (fun k hk => hallL k (by omega)) (fun k hk => by rw [hset k, if_neg (by omega)]; exact hzu0 k (by omega)) hclosed'
      · refine wpOp_mono (fun a' w' h => ?_) (hstep i oi hoi (by omega) a w hG hF)
        obtain ⟨v, rfl, hφ, hg⟩ := h
        have hput : ∀ t, oi.dst ≠ some t → (a.put oi.dst v).tmps[t]? = a.tmps[t]? := by
          intro t ht
          cases hd : oi.dst with
          | none => rfl
          | some d =>
            have hne : d ≠ t := fun e => ht (by rw [hd, e])
            simp [Act.put, Array.getElem?_setIfInBounds_ne hne]
        refine ih _ _ _ (by simp [hs]) hcount (fun k hk => by rw [hset k, if_neg (by omega)]; exact hzu0 k hk) (htrans _ _ _ hG hg) ⟨?_, ?_, ?_, ?_, hclosed'⟩
        · cases hd : oi.dst <;> simp [Act.put, hI.defers]
        · cases hd : oi.dst <;> simp [Act.put, hI.size]
        · intro k ok hok hlk
          rw [hset k] at hlk
          by_cases hki : k = i
          · subst hki
            rw [hoi] at hok; injection hok with hok; subst hok
            refine ⟨v, fun d hd => ?_, hφ⟩
            have := b2 d hd
            rw [hd]
            simp [Act.put, Array.getElem?_setIfInBounds_self_of_lt (by rw [hI.size]; exact this : d < a.tmps.size)]
          · rw [if_neg hki] at hlk
            obtain ⟨u, hu1, hu2⟩ := hI.new k ok hok hlk
            refine ⟨u, fun d hd => ?_, hΦ _ _ _ _ hu2 hg⟩
            rw [hput d (b3 k ok d hki hok hd).1]
            exact hu1 d hd
        · intro t ht
          have h1 : oi.dst ≠ some t := ht i oi hoi (by rw [hset i]; simp)
          rw [hput t h1]
          apply hI.old
          intro k ok hok hlk
          exact ht k ok hok (by rw [hset k]; split <;> simp_all)
theorem wp_region_cut2 {id : Nat} {a0 : Act} {w0 : World} (hm : P.follows .mixedOrders = true) (L : List (Value → World → Prop)) (z : Nat) (hz : z < ops.size) (htail : tail2B ops z = true) (hdom : domB ops z = true) (hB : ssaB ops a0.tmps.size = true)
    (hL : ∀ φ ∈ L, ∀ v w w', φ v w → Gr w w' → φ v w')
    (hstep : AllFrom (StepL P ops Q a0 w0.drew Gr L) 0 (ops.toList.take z))
    (hend : ∀ (vs : Nat → Value) w, Gr w0.drew w → AllFrom (fun i _ => (L.getD i AnyV) (vs i) w) 0 (ops.toList.take z) → wpOp P ops Q z (TailOK P ops Q z) (putAll vs 0 (ops.toList.take z) a0) w) : (Code.region id ops true).wp P Q a0 w0 := by
  have hΦ : ∀ i v (w w' : World), (L.getD i AnyV) v w → Gr w w' → (L.getD i AnyV) v w' := by
    intro i v w w' h hg
    rcases Nat.lt_or_ge i L.length with hlt | hge
    · simp only [List.getD_eq_getElem?_getD, List.getElem?_eq_getElem hlt, Option.getD_some] at h ⊢
      exact hL _ (List.getElem_mem hlt) v w w' h hg
    · simp only [List.getD_eq_getElem?_getD, List.getElem?_eq_none hge, Option.getD_none] at h ⊢
      exact trivial
  refine wp_region_any hm (wpAny_cut2 a0 w0.drew (fun i => L.getD i AnyV) Gr z hz htail hdom (fun _ _ _ => Gr.trans) hΦ hB ?_ ?_ ops.size (Array.replicate ops.size false) a0 w0.drew (by simp) ?_ ?_ (Gr.refl _) ⟨rfl, rfl, ?_, fun _ _ => rfl, ?_⟩)
  · intro i o hi hiz a w hg hF
    have h1 := allFrom_get (ops.toList.take z) 0 hstep i o (by rw [List.getElem?_take]; simp [hiz, hi])
    simp only [Nat.zero_add] at h1
    exact h1 a w hg hF
  · intro a w hg hnew hdef hsize hold
    have hch : ∀ i, ∃ v, i < z → (∀ d, ((ops[i]?).bind (fun o : Oper => o.dst)) = some d → a.tmps[d]? = some v) ∧ (L.getD i AnyV) v w := by
      intro i
      by_cases hi : i < z
      · obtain ⟨v, h1, h2⟩ := hnew i _ (Array.getElem?_eq_getElem (by omega : i < ops.size)) hi
        exact ⟨v, fun _ => ⟨fun d hd => h1 d (by simpa [(by omega : i < ops.size)] using hd), h2⟩⟩
      · exact ⟨undef, fun h => absurd h hi⟩
    have hvs := fun i => Classical.choose_spec (hch i)
    have hall : ∀ (os : List Oper) (k : Nat), k + os.length ≤ z → AllFrom (fun i _ => (L.getD i AnyV) (Classical.choose (hch i)) w) k os := by
      intro os
      induction os with
      | nil => intro k _; exact trivial
      | cons o os ih => intro k hk; simp at hk; exact ⟨(hvs k (by omega)).2, ih (k + 1) (by omega)⟩
    have hend' := hend (fun i => Classical.choose (hch i)) w hg (hall _ 0 (by simp; omega))
    have hlen : ∀ j (o : Oper), (ops.toList.take z)[j]? = some o → j < z ∧ ops[j]? = some o := by
      intro j o h
      rw [List.getElem?_take] at h
      split at h
      · exact ⟨by assumption, by simpa using h⟩
      · cases h
    have ha : putAll (fun i => Classical.choose (hch i)) 0 (ops.toList.take z) a0 = a := by
      have h1 := putAll_defers (fun i => Classical.choose (hch i)) (ops.toList.take z) 0 a0
      have h2 := putAll_size (fun i => Classical.choose (hch i)) (ops.toList.take z) 0 a0
      have h3 : (putAll (fun i => Classical.choose (hch i)) 0 (ops.toList.take z) a0).tmps = a.tmps := by
        apply Array.ext_getElem?
        intro t
        by_cases hex : ∃ (j : Nat) (o : Oper), (ops.toList.take z)[j]? = some o ∧ o.dst = some t
        · obtain ⟨j, o, hj0, hd⟩ := hex
          obtain ⟨hjz, hj⟩ := hlen j o hj0
          have hlt : j < ops.size := by omega
          have hb := List.all_eq_true.1 hB j (by simpa using hlt)
          rw [hj] at hb
          simp only [Bool.and_eq_true, hd, decide_eq_true_eq] at hb
          rw [putAll_new _ t (ops.toList.take z) 0 a0 j o hj0 hd hb.1.2 fun k o' hk hd' => ?_, (hvs j hjz).1 t (by rw [hj]; exact hd)]
          · simp
          · rcases Nat.decEq k j with hkj | hkj
            · exfalso
              obtain ⟨hkz, hk'⟩ := hlen k o' hk
              have hltk : k < ops.size := by omega
              have h5 := List.all_eq_true.1 hb.2 k (by simpa using hltk)
              rw [hk'] at h5
              simp [hkj, hd'] at h5
            · exact hkj
        · rw [putAll_old _ t (ops.toList.take z) 0 a0 (fun (o : Oper) ho e => hex (by obtain ⟨j, hj⟩ := List.getElem?_of_mem ho; exact ⟨j, o, hj, e⟩)), hold t fun i o hi hiz e => hex ⟨i, o, by rw [List.getElem?_take]; simp [hiz, hi], e⟩]
      have h4 := hdef
      cases a
      cases hq : putAll (fun i => Classical.choose (hch i)) 0 (ops.toList.take z) a0
      rw [hq] at h1 h3
      simp only at h1 h3 h4
      rw [h1, h3, h4]
    rw [← ha]
    exact hend'
  · unfold unlisted
    rw [List.filter_eq_self.2]
    · simp
    · intro i hi
      simp only [List.mem_range] at hi
      simp [hi]
  · intro k _
    rw [Array.getD_eq_getD_getElem?, Array.getElem?_replicate]
    split <;> simp
  · intro i o hi hl
    exfalso
    rw [Array.getD_eq_getD_getElem?, Array.getElem?_replicate] at hl
    split at hl <;> simp at hl
  · intro i o e hi hl
    exfalso
    rw [Array.getD_eq_getD_getElem?, Array.getElem?_replicate] at hl
    split at hl <;> simp at hl
theorem tail_any {a1 : Act} {w1 : World} (z : Nat) (L2 : List (Value → World → Prop)) (hB : ssaB ops a1.tmps.size = true)
    (hL : ∀ φ ∈ L2, ∀ v w w', φ v w → Gr w w' → φ v w') (oz : Oper) (hoz : ops[z]? = some oz) (v : Value) (hd : ∀ d, oz.dst = some d → a1.tmps[d]? = some v) (hv : ((List.replicate z AnyV ++ L2).getD z AnyV) v w1)
    (hstep : AllFrom (StepL P ops Q a1 w1 Gr (List.replicate z AnyV ++ L2)) (z + 1) (ops.toList.drop (z + 1)))
    (hend : ∀ (vs : Nat → Value) w, Gr w1 w → AllFrom (fun i _ => ((List.replicate z AnyV ++ L2).getD i AnyV) (vs i) w) (z + 1) (ops.toList.drop (z + 1)) → Q .normal (putAll vs (z + 1) (ops.toList.drop (z + 1)) a1) w) : TailOK P ops Q z a1 w1 := by
  obtain ⟨L, hLe⟩ : ∃ L, L = List.replicate z AnyV ++ L2 := ⟨_, rfl⟩
  rw [← hLe] at hv hstep hend
  have hlow : ∀ i, i < z → L.getD i AnyV = AnyV := fun i hi => by
    rw [hLe, List.getD_eq_getElem?_getD, List.getElem?_append_left (by simpa using hi)]
    simp [hi]
  have hΦ0 : ∀ i v (w w' : World), (L.getD i AnyV) v w → Gr w w' → (L.getD i AnyV) v w' := by
    intro i v w w' h hg
    rcases Nat.lt_or_ge i L.length with hlt | hge
    · simp only [List.getD_eq_getElem?_getD, List.getElem?_eq_getElem hlt, Option.getD_some] at h ⊢
      have hm := List.getElem_mem hlt
      generalize L[i] = φ at h hm ⊢
      rw [hLe] at hm
      rcases List.mem_append.1 hm with hm | hm
      · rw [List.eq_of_mem_replicate hm]; exact trivial
      · exact hL _ hm v w w' h hg
    · simp only [List.getD_eq_getElem?_getD, List.getElem?_eq_none hge, Option.getD_none] at h ⊢
      exact trivial
  have hdst : ∀ (i : Nat) (o : Oper) d, ops[i]? = some o → o.dst = some d → d < a1.tmps.size ∧ ∀ k (ok : Oper), k ≠ i → ops[k]? = some ok → ok.dst ≠ some d := by
    intro i o d hi hd
    have hlt : i < ops.size := by
      rcases Nat.lt_or_ge i ops.size with h | h
      · exact h
      · rw [Array.getElem?_eq_none h] at hi; cases hi
    have h1 := List.all_eq_true.1 hB i (by simpa using hlt)
    rw [hi] at h1
    simp only [Bool.and_eq_true, hd, decide_eq_true_eq] at h1
    refine ⟨h1.1.2, fun k ok hk hok hkd => ?_⟩
    have hltk : k < ops.size := by
      rcases Nat.lt_or_ge k ops.size with h | h
      · exact h
      · rw [Array.getElem?_eq_none h] at hok; cases hok
    have h5 := List.all_eq_true.1 h1.2 k (by simpa using hltk)
    rw [hok] at h5
    simp [hk, hkd] at h5
  intro listed hs h1 h2 hcl
  refine wpAny_ssaT z a1 w1 (fun i u w => (i ≤ z → ∀ (o : Oper) d, ops[i]? = some o → o.dst = some d → a1.tmps[d]? = some u) ∧ (L.getD i AnyV) u w) Gr (fun _ _ _ => Gr.trans) (fun i u w w' h hg => ⟨h.1, hΦ0 i u w w' h.2 hg⟩) hB ?_ ?_ _ listed a1 w1 hs rfl h1 (Gr.refl _) ⟨rfl, rfl, ?_, fun _ _ => rfl, hcl⟩
  · intro i o hi hzi a w hg hF
    have hs1 := allFrom_get (ops.toList.drop (z + 1)) (z + 1) hstep (i - (z + 1)) o (by rw [List.getElem?_drop, show z + 1 + (i - (z + 1)) = i by omega]; simpa using hi)
    rw [show z + 1 + (i - (z + 1)) = i by omega] at hs1
    have hF' : Finds ops (fun i => L.getD i AnyV) a1 i o a w := ⟨hF.defers, hF.size, fun k ok d hok hkd hl ha => by
      obtain ⟨u, h3, h4⟩ := hF.dep k ok d hok hkd hl ha
      exact ⟨u, h3, h4.2⟩, hF.old⟩
    refine wpOp_mono (fun a' w' h => ?_) (hs1 a w hg hF')
    obtain ⟨u, h3, h4, h5⟩ := h
    exact ⟨u, h3, ⟨fun h => absurd h (by omega), h4⟩, h5⟩
  · intro a w hg hI
    have hch : ∀ i, ∃ u, i < ops.size → (∀ d, ((ops[i]?).bind (fun o : Oper => o.dst)) = some d → a.tmps[d]? = some u) ∧ (L.getD i AnyV) u w := by
      intro i
      by_cases hi : i < ops.size
      · obtain ⟨u, h3, h4⟩ := hI.new i _ (Array.getElem?_eq_getElem hi) (by simp [hi])
        exact ⟨u, fun _ => ⟨fun d hd => h3 d (by simpa [hi] using hd), h4.2⟩⟩
      · exact ⟨undef, fun h => absurd h hi⟩
    have hvs := fun i => Classical.choose_spec (hch i)
    have hall : ∀ (os : List Oper) (k : Nat), k + os.length ≤ ops.size → AllFrom (fun i _ => (L.getD i AnyV) (Classical.choose (hch i)) w) k os := by
      intro os
      induction os with
      | nil => intro k _; exact trivial
      | cons o os ih => intro k hk; simp at hk; exact ⟨(hvs k (by omega)).2, ih (k + 1) (by omega)⟩
    have hzs : z < ops.size := by
      rcases Nat.lt_or_ge z ops.size with h | h
      · exact h
      · rw [Array.getElem?_eq_none h] at hoz; cases hoz
    have hend' := hend (fun i => Classical.choose (hch i)) w hg (hall _ (z + 1) (by simp; omega))
    have ha : putAll (fun i => Classical.choose (hch i)) (z + 1) (ops.toList.drop (z + 1)) a1 = a := by
      have h3 := putAll_defers (fun i => Classical.choose (hch i)) (ops.toList.drop (z + 1)) (z + 1) a1
      have h5 : (putAll (fun i => Classical.choose (hch i)) (z + 1) (ops.toList.drop (z + 1)) a1).tmps = a.tmps := by
        apply Array.ext_getElem?
        intro t
        by_cases hex : ∃ (j : Nat) (o : Oper), (ops.toList.drop (z + 1))[j]? = some o ∧ o.dst = some t
        · obtain ⟨j, o, hj0, hdt⟩ := hex
          have hj : ops[z + 1 + j]? = some o := by rw [List.getElem?_drop] at hj0; simpa using hj0
          have hlt : z + 1 + j < ops.size := by
            rcases Nat.lt_or_ge (z + 1 + j) ops.size with h | h
            · exact h
            · rw [Array.getElem?_eq_none h] at hj; cases hj
          obtain ⟨q1, q2⟩ := hdst _ _ _ hj hdt
          rw [putAll_new _ t (ops.toList.drop (z + 1)) (z + 1) a1 j o hj0 hdt q1 fun k o' hk hd' => ?_, (hvs (z + 1 + j) hlt).1 t (by rw [hj]; exact hdt)]
          rcases Nat.decEq k j with hkj | hkj
          · exfalso
            have hk' : ops[z + 1 + k]? = some o' := by rw [List.getElem?_drop] at hk; simpa using hk
            exact q2 (z + 1 + k) o' (by omega) hk' hd'
          · exact hkj
        · rw [putAll_old _ t (ops.toList.drop (z + 1)) (z + 1) a1 (fun (o : Oper) ho e => hex (by obtain ⟨j, hj⟩ := List.getElem?_of_mem ho; exact ⟨j, o, hj, e⟩))]
          by_cases hex2 : ∃ (i : Nat) (o : Oper), ops[i]? = some o ∧ o.dst = some t
          · obtain ⟨i, o, hi, hdt⟩ := hex2
            have hiz : i ≤ z := by
              rcases Nat.lt_or_ge z i with h | h
              · exact absurd ⟨i - (z + 1), o, by rw [List.getElem?_drop, show z + 1 + (i - (z + 1)) = i by omega]; simpa using hi, hdt⟩ hex
              · exact h
            obtain ⟨u, h6, h7⟩ := hI.new i o hi (by
              have : i < ops.size := by omega
              simp [this])
            rw [h7.1 hiz o t hi hdt, h6 t hdt]
          · exact (hI.old t fun i o hi _ e => hex2 ⟨i, o, hi, e⟩).symm
      have h4 := hI.defers
      cases a
      cases hq : putAll (fun i => Classical.choose (hch i)) (z + 1) (ops.toList.drop (z + 1)) a1
      rw [hq] at h3 h5
      simp only at h3 h4 h5
      rw [h3, h5, h4]
    rw [← ha]
    exact hend'
  · intro i o hi hl
    have hiz : i ≤ z := by
      rcases Nat.lt_or_ge z i with h | h
      · rw [h2 i h] at hl; cases hl
      · exact h
    by_cases hz : i = z
    · subst hz
      rw [hoz] at hi
      injection hi with hi
      subst hi
      refine ⟨v, hd, ⟨fun _ o d ho hod => ?_, hv⟩⟩
      rw [hoz] at ho
      injection ho with ho
      subst ho
      exact hd d hod
    · cases hdo : o.dst with
      | none =>
        refine ⟨undef, (fun d h => by cases h), ⟨fun _ o' d ho hod => ?_, by rw [hlow i (by omega)]; exact trivial⟩⟩
        rw [hi] at ho
        injection ho with ho
        subst ho
        rw [hdo] at hod; cases hod
      | some d =>
        have hlt := (hdst i o d hi hdo).1
        refine ⟨a1.tmps[d], fun d' h => ?_, ⟨fun _ o' d' ho hod => ?_, by rw [hlow i (by omega)]; exact trivial⟩⟩
        · injection h with h
          subst h
          exact Array.getElem?_eq_getElem hlt
        · rw [hi] at ho
          injection ho with ho
          subst ho
          rw [hdo] at hod
          injection hod with hod
          subst hod
          exact Array.getElem?_eq_getElem hlt
theorem tail_put {a : Act} {w1 : World} (z : Nat) (L2 : List (Value → World → Prop)) (oz : Oper) (hoz : ops[z]? = some oz) (v : Value) (hB : ssaB ops (a.put oz.dst v).tmps.size = true)
    (hL : ∀ φ ∈ L2, ∀ v w w', φ v w → Gr w w' → φ v w') (hv : ((List.replicate z AnyV ++ L2).getD z AnyV) v w1)
    (hstep : AllFrom (StepL P ops Q (a.put oz.dst v) w1 Gr (List.replicate z AnyV ++ L2)) (z + 1) (ops.toList.drop (z + 1)))
    (hend : ∀ (vs : Nat → Value) w, Gr w1 w → AllFrom (fun i _ => ((List.replicate z AnyV ++ L2).getD i AnyV) (vs i) w) (z + 1) (ops.toList.drop (z + 1)) → Q .normal (putAll vs (z + 1) (ops.toList.drop (z + 1)) (a.put oz.dst v)) w) : TailOK P ops Q z (a.put oz.dst v) w1 := by
  refine tail_any z L2 hB hL oz hoz v (fun d hd => ?_) hv hstep hend
  have hlt : z < ops.size := by
    rcases Nat.lt_or_ge z ops.size with h | h
    · exact h
    · rw [Array.getElem?_eq_none h] at hoz; cases hoz
  have h1 := List.all_eq_true.1 hB z (by simpa using hlt)
  rw [hoz] at h1
  simp only [Bool.and_eq_true, hd, decide_eq_true_eq, put_size] at h1
  rw [hd]
  exact put_at _ _ _ h1.1.2
/-- The one operation that turns memory: a call. -/
theorem wpOp_callR {i : Nat} {o : Oper} {a : Act} {w : World} {K : Act → World → Prop} (hi : ops[i]? = some o) (hg : o.guard = none) (f : FuncId) (args : Array Value) (hrun : (execOp a.eval o).run P w = .ok (.enter f args) w)
    (hc : Calls P f args w fun e w' => ∃ v, e = .returned v ∧ K (a.put o.dst v) w') : wpOp P ops Q i K a w := by
  have hw : Region.wanted o (yielded ops a.tmps) = true := by simp [Region.wanted, hg]
  unfold wpOp
  simp only [hi, hw, if_true, Oper.wp, hrun, Oper.upon]
  refine .inl (hc.mono ?_)
  rintro e w' ⟨v, rfl, h⟩
  exact h
end
end Go.Proofs.YtmcnnjcbgbdeeaaDoor
